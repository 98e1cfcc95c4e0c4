/-
  THE CONTRACTS OF slots.Slots, continued: Release, New, Order. Each at every state of an allocator.
-/
import Derived.Test.YtbmamikhjfieoaaSlots
import Derived.Deep.AppendLies
namespace Go.Proofs.Ytbmamikhjfieoaa
open Go.RowKit

def natsI (l : List Nat) : List Int := l.map fun i : Nat => (i : Int)
theorem natsI_getD (l : List Nat) (j : Nat) : (natsI l).getD j 0 = ((l.getD j 0 : Nat) : Int) := by
  simp only [natsI, List.getD, List.getElem?_map]
  cases l[j]? <;> rfl
theorem natsI_len (l : List Nat) : (natsI l).length = l.length := by simp [natsI]
theorem u32s_natsI (l : List Nat) : u32s l = (natsI l).map (Value.int .u32) := by simp [u32s, natsI]

/-- A slice of numbers that reads as a list, in a block outside F. -/
def Nums (k : IntKind) (F : Nat → Prop) (w : World) (A : Option Addr) (n : Nat) (zs : List Int) : Prop :=
  zs.length = n ∧ (0 < n → ∃ b off, A = some ⟨b, off, none⟩ ∧ b < w.heap.size ∧ ¬ F b ∧ ∀ j, j < n → w.cell? ⟨b, off + j, none⟩ = some (.int k (zs.getD j 0)))
theorem Nums.nil (k : IntKind) (F : Nat → Prop) (w : World) (A : Option Addr) : Nums k F w A 0 [] := ⟨rfl, fun h => absurd h (by omega)⟩
theorem Nums.keep {k : IntKind} {F F' G : Nat → Prop} {w w' : World} {A : Option Addr} {n : Nat} {zs : List Int} (h : Nums k F w A n zs) (hc : Chg G w w') (hG : ∀ i, G i → F i) (hF : ∀ i, F' i → F i ∨ w.heap.size ≤ i) : Nums k F' w' A n zs := by
  refine ⟨h.1, fun hn => ?_⟩
  obtain ⟨b, off, hA, hb, hf, hcell⟩ := h.2 hn
  exact ⟨b, off, hA, Nat.lt_of_lt_of_le hb hc.size, fun hf' => by rcases hF b hf' with h1 | h1; exact hf h1; omega, fun j hj =>
    (World.cell?_of_block (w := w) (a := ⟨b, off + j, none⟩) (hc.block b hb (fun hg => hf (hG b hg)))).trans (hcell j hj)⟩
theorem Nums.below {k : IntKind} {F : Nat → Prop} {w w' : World} {A : Option Addr} {n : Nat} {zs : List Int} (h : Nums k F w A n zs) (hb : Below w.heap.size w w') : Nums k F w' A n zs :=
  h.keep (Chg.of_below (F := Nil) hb) (fun _ h => h.elim) (fun _ h => .inl h)
theorem Nums.own {k : IntKind} {F : Nat → Prop} {w : World} {base e n cap g : Nat} {zs : List Int} (h : w.ownsRow base e 1 (.slice (some ⟨g, 0, none⟩) n cap) n (zs.map (Value.int k))) (hF : ¬ F g) : Nums k F w (some ⟨g, 0, none⟩) n zs := by
  have hl : zs.length = n := by simpa using h.1
  refine ⟨hl, fun _ => ⟨g, 0, rfl, (h.lt g rfl).2, hF, fun j hj => ?_⟩⟩
  have hc := h.cellAt j (by omega)
  rw [Nat.zero_add, hc]
  simp [List.getD, show j < zs.length by omega]

theorem cell_one_at (W : World) (n : Nat) (hn : W.heap.size = n) (x : Value) (t : TypeId) : ∀ j u, [x][j]? = some u → (W.alloc (.cells #[x] t)).cell? ((⟨n, 0, none⟩ : Addr).add j) = some u := by
  subst hn
  exact cell_one_new W x t
theorem size_set (w : World) (a : Addr) (u : Value) : (w.setCell a u).heap.size = w.heap.size := by simp [World.setCell]

section
variable {B : Nat} {w : World} {L : Loc} {S : SS}

set_option maxRecDepth 100000 in
set_option maxHeartbeats 1000000 in
theorem release_no (i : Nat) (h : SAt B w L S) (hw : S.wf) (hi : i ≤ 4294967295) (ho : S.on i = false) :
    Calls Try.prog 26 #[.pointer (some ⟨L.g, 0, none⟩), .int .u32 (i : Int)] w fun e w' => e = .returned (.int .i64 3) ∧ w = w' := by
  have HH := hid h
  have HW := hid hw
  have HO := hid ho
  clear h hw ho
  go_enter Try.func26, Try.ntmps26
  go_wp2_with fail
  refine (allocd_any i HH.out HW.out hi).mono ?_
  rintro e w' ⟨rfl, rfl⟩
  rw [HO.out]
  go_wp2
  go_ret
  exact ⟨rfl, rfl⟩

set_option maxRecDepth 100000 in
set_option maxHeartbeats 2000000 in
theorem release_yes (i : Nat) (h : SAt B w L S) (hw : S.wf) (hB : B ≤ w.heap.size) (ho : S.on i = true) :
    Calls Try.prog 26 #[.pointer (some ⟨L.g, 0, none⟩), .int .u32 (i : Int)] w fun e w' => ∃ w1 v', e = .returned (.int .i64 0) ∧ w' = w1.setCell ⟨L.g, 2, none⟩ v' ∧
      w1.ownsRow B 30 1 v' (S.rl.length + 1) (u32s S.rl.reverse ++ [.int .u32 (i : Int)]) ∧ Chg (fun k => k = L.gu ∨ L.ra.map (·.block) = some k) w w1 ∧
      (w1.heap[L.gu]? = (w.setCell ⟨L.gu, i, none⟩ (.bool false)).heap[L.gu]?) ∧ (v'.ownBlock = L.ra.map (·.block) ∨ ∃ k, v'.ownBlock = some k ∧ w.heap.size ≤ k) := by
  obtain ⟨i0, hi0, hz0, hz1, hz2⟩ := info_parts info30
  have hon := hw.on i ho
  have hfr := hw.fr
  have hn2 := hw.n2
  have HH := hid h
  have HW := hid hw
  have HO := hid ho
  have hl := hw.len
  have n1 : L.g ≠ L.gu := rowIs_ne h.hd h.us (by decide)
  have n5 : L.ra.map (·.block) ≠ some L.g := own_ne (A := L.ra) h.rs h.hd (by decide)
  have n6 : L.ra.map (·.block) ≠ some L.gu := own_ne (A := L.ra) h.rs h.us (by decide)
  have m1 := n1.symm
  have c0 := h.c0
  have c2 := h.c2
  have cu := h.cu (i := i) (by omega)
  have fu := h.us.frozen i
  have hgl := h.hd.lt
  have hul := h.us.lt
  obtain ⟨b0, hb0⟩ : ∃ b, b = S.on i := ⟨_, rfl⟩
  rw [← hb0] at cu
  have hown : (w.setCell ⟨L.gu, i, none⟩ (.bool false)).ownsRow B 30 1 (.slice L.ra S.rl.length L.rc) S.rl.length (u32s S.rl.reverse) :=
    own_of_block h.rs (fun k hk => by rw [ownBlock_slice] at hk; exact Below.heap_setCell _ ⟨L.gu, i, none⟩ _ k (fun e => n6 (by rw [hk, e])))
  have HOWN := hid hown
  have HN5 := hid n5
  have HN6 := hid n6
  clear h hw ho hb0 hown n5 n6
  go_enter Try.func26, Try.ntmps26
  go_wp2_with fail
  refine (allocd_any i HH.out HW.out (by omega)).mono ?_
  rintro e w' ⟨rfl, rfl⟩
  rw [HO.out]
  go_wp2_with (at_builtin; refine wpList_append_own_at _ rfl (.tmp 19) (.tmp 21) 28 rfl B 30 i0 (.int .u32 0) 1 4 Try.underlying28 hi0 hz0 hz1 hz2 rfl (by decide) (.slice L.ra S.rl.length L.rc) S.rl.length _ rfl (HOWN.out.alloc _) ⟨w.heap.size, 0, none⟩ 1 1 [.int .u32 (i : Int)] rfl (by simp) (cell_one_at _ _ (size_set _ _ _) _ _) (by intro u hu; simp at hu; subst hu; rfl) (by unfold maxLen; omega) (by omega) (by simp; omega) ?_)
  intro v' w1 hown1 hg1 _ hat1
  obtain ⟨gr, cap, hv, _, _⟩ := hown1.form (by omega)
  subst hv
  have hb1 : ∀ k, k < w.heap.size → L.ra.map (·.block) ≠ some k → w1.heap[k]? = (w.setCell ⟨L.gu, i, none⟩ (.bool false)).heap[k]? := fun k hk hne =>
    (hg1.block k (by simp [World.setCell]; omega) (fun e => hne (by rw [ownBlock_slice] at e; exact e.symm))).trans (Below.heap_alloc _ _ k (by simpa [World.setCell] using hk))
  have HB1 := hid hb1
  have c2' : w1.cell? ⟨L.g, 2, none⟩ = some (.slice L.ra S.rl.length L.rc) := by
    rw [← c2]
    exact World.cell?_of_block (w := w) (a := ⟨L.g, 2, none⟩) ((hb1 L.g hgl HN5.out).trans (Below.heap_setCell _ ⟨L.gu, i, none⟩ _ L.g n1))
  have f2' : w1.frozen? ⟨L.g, 2, none⟩ = false := by
    rw [World.frozen?_of_block (w := w) (w' := w1) (a := ⟨L.g, 2, none⟩) ((hb1 L.g hgl HN5.out).trans (Below.heap_setCell _ ⟨L.gu, i, none⟩ _ L.g n1))]
    exact HH.out.hd.frozen 2
  have HOWN1 := hid hown1
  have HG1 := hid hg1
  have HAT := hid hat1
  clear hb1 hown1 hg1 hat1
  go_wp2
  go_ret
  refine ⟨w1, _, rfl, rfl, HOWN1.out, ⟨HG1.out.os, HG1.out.tape, HG1.out.output, ?_, fun k hk hF => ?_⟩, HB1.out _ hul HN6.out, ?_⟩
  · have := HG1.out.size; simp [World.setCell] at this; omega
  · rw [HB1.out k hk (fun e => hF (.inr e))]
    exact Below.heap_setCell _ ⟨L.gu, i, none⟩ _ k (fun e => hF (.inl e))
  · rcases HAT.out with e | e
    · left; rw [e, ownBlock_slice]
    · right; exact ⟨_, e, by omega⟩

theorem release_any (i : Nat) (h : SAt B w L S) (hw : S.wf) (hB : B ≤ w.heap.size) (ho : S.on i = true) :
    Calls Try.prog 26 #[.pointer (some ⟨L.g, 0, none⟩), .int .u32 (i : Int)] w fun e w' => ∃ L', e = .returned (.int .i64 0) ∧ L'.g = L.g ∧ SAt B w' L' (S.release i) ∧ Chg L.foot w w' ∧ (∀ k, L'.foot k → L.foot k ∨ w.heap.size ≤ k) := by
  refine (release_yes i h hw hB ho).mono ?_
  rintro e w' ⟨w1, v', rfl, rfl, hown, hc, hu, hat⟩
  obtain ⟨gr, cap, hv, hgr, hlt⟩ := hown.form (by omega)
  subst hv
  have n1 : L.g ≠ L.gu := rowIs_ne h.hd h.us (by decide)
  have n2 : L.g ≠ L.gg := rowIs_ne h.hd h.gs (by decide)
  have n3 : L.gu ≠ L.gg := rowIs_ne h.us h.gs (by decide)
  have n5 : L.ra.map (·.block) ≠ some L.g := own_ne (A := L.ra) h.rs h.hd (by decide)
  have n6 : L.ra.map (·.block) ≠ some L.gu := own_ne (A := L.ra) h.rs h.us (by decide)
  have hat' : L.ra.map (·.block) = some gr ∨ w.heap.size ≤ gr := by
    rcases hat with e | ⟨k, e, hk⟩
    · left; rw [← e]; rfl
    · right; simp [Value.ownBlock] at e; omega
  have k1 : gr ≠ L.g := fun e => by
    rcases hat' with h1 | h1
    · exact n5 (by rw [h1, e])
    · have := h.hd.lt; omega
  have k2 : gr ≠ L.gu := fun e => by
    rcases hat' with h1 | h1
    · exact n6 (by rw [h1, e])
    · have := h.us.lt; omega
  have k3 : gr ≠ L.gg := fun e => by
    rcases hat' with h1 | h1
    · exact h.sep (by rw [h1, e])
    · have := h.gs.lt; omega
  have bg : w1.heap[L.g]? = w.heap[L.g]? := hc.block _ h.hd.lt (fun e => e.elim n1 n5)
  have bgg : w1.heap[L.gg]? = w.heap[L.gg]? := hc.block _ h.gs.lt (fun e => e.elim n3.symm h.sep)
  have hfoot : ∀ k, (k = L.gu ∨ L.ra.map (·.block) = some k) → L.foot k := fun k hk => hk.elim (fun e => .inr (.inl e)) (fun e => .inr (.inr (.inr e)))
  refine ⟨{ L with ra := some ⟨gr, 0, none⟩, rc := cap }, rfl, rfl, ⟨?_, ?_, ?_, ?_, ?_, h.b1, h.b2, h.b3⟩, (hc.mono hfoot).setCell (.inl (.inl rfl)) _, fun k hk => ?_⟩
  · exact ((h.hd.of_block bg).set 2 _).congr fun k hk => match k, hk with
      | 0, _ => rfl
      | 1, _ => rfl
      | 2, _ => rfl
      | 3, _ => rfl
  · have d := (h.us.set i (.bool false)).of_block (w' := w1) hu
    exact (d.setOther (a := ⟨L.g, 2, none⟩) n1.symm _).congr fun k hk => by simp only [SS.release]; split <;> rfl
  · exact (h.gs.of_block bgg).setOther (a := ⟨L.g, 2, none⟩) n2.symm _
  · refine own_of_block (w := w1) (v := .slice (some ⟨gr, 0, none⟩) (S.rl.length + 1) cap) (n := S.rl.length + 1) (xs := u32s (i :: S.rl).reverse) ?_ (fun k hk => ?_)
    · have e : u32s (i :: S.rl).reverse = u32s S.rl.reverse ++ [.int .u32 (i : Int)] := by simp [u32s]
      rw [e]; exact hown
    · simp [Value.ownBlock] at hk
      subst hk
      exact Below.heap_setCell _ ⟨L.g, 2, none⟩ _ _ k1
  · simpa using k3
  · rcases hk with hk | hk | hk | hk
    · exact .inl (.inl hk)
    · exact .inl (.inr (.inl hk))
    · exact .inl (.inr (.inr (.inl hk)))
    · simp at hk
      subst hk
      exact hat'.imp (fun e => .inr (.inr (.inr e))) id
end
end Go.Proofs.Ytbmamikhjfieoaa
