/-
  THE CONTRACTS OF versionmapref3's Slots, which go by value: New, Alloc, Allocated, Release, Generation, Order. At every state that stands for an allocator ('RAt').
-/
import Derived.Test.YtbmamikhjfieoaaClone
namespace Go.Proofs.Ytbmamikhjfieoaa
open Go.RowKit

theorem results_cell {fn : Func} {p : Tmp} {ty : TypeId} (h : fn.results = #[.cell p ty]) (tmps : Array Value) (P : Program) (w : World) :
    (results fn tmps).run P w = ((asAddr (tmps.getD p undef)).run P w).andThen fun a w₁ => (loadVar ty a).run P w₁ := by
  simp [results, h, Sem.run_bind, Result.andThen]
theorem results_cell_tmp1 {fn : Func} {p u : Tmp} {ty : TypeId} (h : fn.results = #[.cell p ty, .tmp u]) (tmps : Array Value) (P : Program) (w : World) :
    (results fn tmps).run P w = ((asAddr (tmps.getD p undef)).run P w).andThen fun a w₁ => ((loadVar ty a).run P w₁).andThen fun v w₂ => .ok (.tuple #[v, tmps.getD u undef]) w₂ := by
  simp [results, h, Sem.run_bind, Result.andThen]
theorem results_cell_tmp2 {fn : Func} {p u x : Tmp} {ty : TypeId} (h : fn.results = #[.cell p ty, .tmp u, .tmp x]) (tmps : Array Value) (P : Program) (w : World) :
    (results fn tmps).run P w = ((asAddr (tmps.getD p undef)).run P w).andThen fun a w₁ => ((loadVar ty a).run P w₁).andThen fun v w₂ => .ok (.tuple #[v, tmps.getD u undef, tmps.getD x undef]) w₂ := by
  simp [results, h, Sem.run_bind, Result.andThen]
/-- Where the reference's state lies. -/
structure RL where
  a : Option Addr
  c : Nat
  gb : Nat
  gc : Nat
  ob : Nat
  oc : Nat
def RL.val (R : RL) (S : SS) : Value := .agg #[.int .i64 (S.n : Int), .slice R.a S.rl.length R.c, .int .i64 ((S.fresh : Int) + 1), .slice (some ⟨R.gb, 0, none⟩) S.n R.gc, .slice (some ⟨R.ob, 0, none⟩) S.n R.oc]
/-- The reference's state in memory, in blocks outside F. -/
structure RAt (F : Nat → Prop) (w : World) (R : RL) (S : SS) : Prop where
  st : Nums .u32 F w R.a S.rl.length (natsI S.rl.reverse)
  s0 : S.rl.length = 0 → R.a = none ∧ R.c = 0
  sc : S.rl.length ≤ R.c ∧ R.c ≤ maxLen
  gl : R.gb < w.heap.size
  gF : ¬ F R.gb
  gs : ∀ j, j < S.n → w.cell? ⟨R.gb, j, none⟩ = some (.int .u32 (S.gen (j + 1)))
  gc : S.n ≤ R.gc ∧ R.gc ≤ maxLen
  ol : R.ob < w.heap.size
  oF : ¬ F R.ob
  os : ∀ j, j < S.n → w.cell? ⟨R.ob, j, none⟩ = some (.bool (S.on (j + 1)))
  oc : S.n ≤ R.oc ∧ R.oc ≤ maxLen
theorem RAt.keep {F F' G : Nat → Prop} {w w' : World} {R : RL} {S : SS} (h : RAt F w R S) (hc : Chg G w w') (hG : ∀ i, G i → F i) (hF : ∀ i, F' i → F i ∨ w.heap.size ≤ i) : RAt F' w' R S :=
  ⟨h.st.keep hc hG hF, h.s0, h.sc, Nat.lt_of_lt_of_le h.gl hc.size, fun hf => by rcases hF _ hf with h1 | h1; exact h.gF h1; have := h.gl; omega,
    fun j hj => (World.cell?_of_block (w := w) (a := ⟨R.gb, j, none⟩) (hc.block _ h.gl (fun hg => h.gF (hG _ hg)))).trans (h.gs j hj), h.gc,
    Nat.lt_of_lt_of_le h.ol hc.size, fun hf => by rcases hF _ hf with h1 | h1; exact h.oF h1; have := h.ol; omega,
    fun j hj => (World.cell?_of_block (w := w) (a := ⟨R.ob, j, none⟩) (hc.block _ h.ol (fun hg => h.oF (hG _ hg)))).trans (h.os j hj), h.oc⟩
theorem RAt.below {F : Nat → Prop} {w w' : World} {R : RL} {S : SS} (h : RAt F w R S) (hb : Below w.heap.size w w') : RAt F w' R S :=
  h.keep (Chg.of_below (F := Nil) hb) (fun _ h => h.elim) (fun _ h => .inl h)
theorem RAt.weak {F F' : Nat → Prop} {w : World} {R : RL} {S : SS} (h : RAt F w R S) (hF : ∀ i, F' i → F i) : RAt F' w R S :=
  h.keep (Chg.refl Nil w) (fun _ h => h.elim) (fun i hi => .inl (hF i hi))

section
variable {F : Nat → Prop} {w : World} {R : RL} {S : SS}

set_option maxRecDepth 100000 in
set_option maxHeartbeats 1000000 in
theorem ref_allocd (i : Nat) (h : RAt F w R S) (hw : S.wf) (hi : i ≤ 4294967295) :
    Calls Try.prog 28 #[R.val S, .int .u32 (i : Int)] w fun e w' => e = .returned (.bool (S.on i)) ∧ Below w.heap.size w w' := by
  have hn := hw.n2
  have hrc := h.sc
  have hgc := h.gc
  have hoc := h.oc
  by_cases h1 : 1 ≤ i
  · by_cases hin : i ≤ S.n
    · have c := h.os (i - 1) (by omega)
      rw [show i - 1 + 1 = i by omega] at c
      have hol := h.ol
      obtain ⟨b, hb⟩ : ∃ b, b = S.on i := ⟨_, rfl⟩
      rw [← hb] at c ⊢
      have HH := hid h
      have HW := hid hw
      clear h hw hb
      have e1 : ((i : Int) - 1) = ((i - 1 : Nat) : Int) := by omega
      unfold RL.val
      go_enter Try.func28, Try.ntmps28
      go_wp2
      go_ret
      exact ⟨rfl, (Below.refl _ w).alloc (Nat.le_refl _) _⟩
    · have ho : S.on i = false := by
        cases e : S.on i with
        | false => rfl
        | true => have := hw.on i e; have := hw.fr; omega
      have HO := hid ho
      have HH := hid h
      have HW := hid hw
      rw [HO.out]
      clear h hw ho
      unfold RL.val
      go_enter Try.func28, Try.ntmps28
      go_wp2
      go_ret
      exact ⟨rfl, (Below.refl _ w).alloc (Nat.le_refl _) _⟩
  · have ho : S.on i = false := by
      cases e : S.on i with
      | false => rfl
      | true => have := hw.on i e; omega
    have HO := hid ho
    have HH := hid h
    have HW := hid hw
    rw [HO.out]
    clear h hw ho
    have hi0 : i = 0 := by omega
    subst hi0
    unfold RL.val
    go_enter Try.func28, Try.ntmps28
    go_wp2
    go_ret
    exact ⟨rfl, (Below.refl _ w).alloc (Nat.le_refl _) _⟩

set_option maxRecDepth 100000 in
set_option maxHeartbeats 1000000 in
theorem ref_gen (i : Nat) (h : RAt F w R S) (hw : S.wf) (hi : i ≤ 4294967295) :
    Calls Try.prog 29 #[R.val S, .int .u32 (i : Int)] w fun e w' => e = .returned (.int .u32 (S.gen i)) ∧ Below w.heap.size w w' := by
  have hn := hw.n2
  have hrc := h.sc
  have hgc := h.gc
  have hoc := h.oc
  by_cases h1 : 1 ≤ i
  · by_cases hin : i ≤ S.n
    · have c := h.gs (i - 1) (by omega)
      rw [show i - 1 + 1 = i by omega] at c
      have hgl := h.gl
      obtain ⟨b, hb⟩ : ∃ b, b = S.gen i := ⟨_, rfl⟩
      rw [← hb] at c ⊢
      have HH := hid h
      have HW := hid hw
      clear h hw hb
      have e1 : ((i : Int) - 1) = ((i - 1 : Nat) : Int) := by omega
      unfold RL.val
      go_enter Try.func29, Try.ntmps29
      go_wp2
      go_ret
      exact ⟨rfl, (Below.refl _ w).alloc (Nat.le_refl _) _⟩
    · have ho : S.gen i = 0 := hw.gz i (.inl (by have := hw.fr; omega))
      have HO := hid ho
      have HH := hid h
      have HW := hid hw
      rw [HO.out]
      clear h hw ho
      unfold RL.val
      go_enter Try.func29, Try.ntmps29
      go_wp2
      go_ret
      exact ⟨rfl, (Below.refl _ w).alloc (Nat.le_refl _) _⟩
  · have ho : S.gen i = 0 := hw.gz i (.inr (by omega))
    have HO := hid ho
    have HH := hid h
    have HW := hid hw
    rw [HO.out]
    clear h hw ho
    have hi0 : i = 0 := by omega
    subst hi0
    unfold RL.val
    go_enter Try.func29, Try.ntmps29
    go_wp2
    go_ret
    exact ⟨rfl, (Below.refl _ w).alloc (Nat.le_refl _) _⟩

theorem make_at' {z : Value} (t e : TypeId) (sz : Nat) (ht : Try.prog.underlying t = some (.slice e)) (hi : (Try.prog.info? e).map (fun i => (i.zero, i.size, i.bytes)) = some (some z, 1, sz)) (hz1 : z.cells = #[z]) (n : Nat) (hb : sz * n ≤ 281474976710656) (hn : n ≤ 65537) (w : World) :
    (Instr.makeSlice t (.int .i64 (n : Int)) (.int .i64 (n : Int))).run Try.prog w = .ok (.slice (some ⟨w.heap.size, 0, none⟩) n n) (w.alloc (.cells (madeCells #[z] n) e)) := by
  obtain ⟨i0, hi0, hz0, hz1', hz2⟩ := info_parts hi
  exact run_make_row (P := Try.prog) t e i0 z ht hi0 hz0 hz1' hz1 .i64 .i64 n (by rw [hz2]; exact hb) (by omega) w

theorem made_row (W : World) (b : Nat) (hb : W.heap.size = b) (z : Value) (n : Nat) (t : TypeId) : (W.alloc (.cells (madeCells #[z] n) t)).rowIs b t n (fun _ => z) := by
  subst hb
  exact World.rowIs_made W z n t
set_option maxRecDepth 100000 in
set_option maxHeartbeats 2000000 in
theorem ref_new (n : Nat) (w : World) (F : Nat → Prop) (hF : ∀ k, F k → k < w.heap.size) (h1 : 1 ≤ n) (h2 : n ≤ 65536) :
    Calls Try.prog 23 #[.int .i64 (n : Int)] w fun e w' => ∃ R : RL, e = .returned (R.val (SS.new n)) ∧ RAt F w' R (SS.new n) ∧ Below w.heap.size w w' := by
  have hm1 := fun W => make_at' (z := .bool false) 27 4 1 Try.underlying27 info4 rfl n (by omega) (by omega) W
  have hm2 := fun W => make_at' (z := .int .u32 0) 28 30 4 Try.underlying28 info30 rfl n (by omega) (by omega) W
  have HF := hid hF
  clear hF
  go_enter Try.func23, Try.ntmps23
  go_wp2
  go_region
  all_goals go_wp2
  all_goals (try simp only [Exit.inBlock, Exit.then])
  · refine bodyPost_ret (v := RL.val ⟨none, 0, w.heap.size + 1, n, w.heap.size + 1 + 1, n⟩ (SS.new n)) ?_ rfl ⟨_, rfl, ?_, ?_⟩
    · rw [results_cell rfl]; go_simp; rfl
    · refine ⟨Nums.nil _ _ _ _, fun _ => ⟨rfl, rfl⟩, by simp [SS.new, maxLen], by simp <;> omega, fun hf => ?_, fun j hj => ?_, by simp [SS.new, maxLen]; omega, by simp <;> omega, fun hf => ?_, fun j hj => ?_, by simp [SS.new, maxLen]; omega⟩
      · have : w.heap.size + 1 < w.heap.size := HF.out _ hf; omega
      · exact (made_row _ (w.heap.size + 1) (by simp) (.int .u32 0) n 30).alloc _ |>.cell (i := j) hj
      · have : w.heap.size + 1 + 1 < w.heap.size := HF.out _ hf; omega
      · exact (made_row _ (w.heap.size + 1 + 1) (by simp) (.bool false) n 4).cell (i := j) hj
    · exact ((((Below.refl _ w).alloc (Nat.le_refl _) _).alloc (by simp) _).alloc (by simp; omega) _).drew
  · refine bodyPost_ret (v := RL.val ⟨none, 0, w.heap.size + 1 + 1, n, w.heap.size + 1, n⟩ (SS.new n)) ?_ rfl ⟨_, rfl, ?_, ?_⟩
    · rw [results_cell rfl]; go_simp; rfl
    · refine ⟨Nums.nil _ _ _ _, fun _ => ⟨rfl, rfl⟩, by simp [SS.new, maxLen], by simp <;> omega, fun hf => ?_, fun j hj => ?_, by simp [SS.new, maxLen]; omega, by simp <;> omega, fun hf => ?_, fun j hj => ?_, by simp [SS.new, maxLen]; omega⟩
      · have : w.heap.size + 1 + 1 < w.heap.size := HF.out _ hf; omega
      · exact (made_row _ (w.heap.size + 1 + 1) (by simp) (.int .u32 0) n 30).cell (i := j) hj
      · have : w.heap.size + 1 < w.heap.size := HF.out _ hf; omega
      · exact (made_row _ (w.heap.size + 1) (by simp) (.bool false) n 4).alloc _ |>.cell (i := j) hj
    · exact ((((Below.refl _ w).alloc (Nat.le_refl _) _).alloc (by simp) _).alloc (by simp; omega) _).drew
end
end Go.Proofs.Ytbmamikhjfieoaa
