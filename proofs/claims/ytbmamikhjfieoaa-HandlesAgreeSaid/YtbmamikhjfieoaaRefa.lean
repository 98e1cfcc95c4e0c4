/-
  THE CONTRACTS OF versionmapref3's Slots, continued: Alloc. (Written by wip/gen_refa.py.)
-/
import Derived.Test.YtbmamikhjfieoaaRefr
import Derived.Deep.RegionLaw
namespace Go.Proofs.Ytbmamikhjfieoaa
open Go.RowKit

theorem grown_new {w w' : World} (hg : w.grownBy w' (Value.slice none 0 0).ownBlock) : Below w.heap.size w w' := (Below.refl _ w).grown hg (Nat.le_refl _) (fun k hk => by cases hk)
theorem own_row {w : World} {B e n c g : Nat} {xs : List Value} (h : w.ownsRow B e 1 (.slice (some ⟨g, 0, none⟩) n c) n xs) (hn : 0 < n) : n ≤ c ∧ c ≤ maxLen ∧ g < w.heap.size ∧ B ≤ g ∧ ∀ j, j < n → w.cell? ⟨g, j, none⟩ = some (xs.getD j undef) ∧ w.frozen? ⟨g, j, none⟩ = false := by
  have hl : xs.length = n := by have := h.1; omega
  refine ⟨(ownsRow_room h).1, (ownsRow_room h).2, (h.lt _ rfl).2, (h.lt _ rfl).1, fun j hj => ⟨by rw [h.cellAt j (by omega)]; simp [List.getD, show j < xs.length by omega], ?_⟩⟩
  rcases h.2 with ⟨hv, h0⟩ | ⟨g', cap, cur, hv, _, hg, _⟩
  · omega
  · injection hv with hA
    injection hA with hA
    injection hA with hA
    subst hA
    exact frozen_of_heap hg j
/-- The cells of row b, from 0 on, in every later world. -/
def Cells (w : World) (b n : Nat) (f : Nat → Value) : Prop := b < w.heap.size ∧ ∀ j, j < n → w.cell? ⟨b, j, none⟩ = some (f j) ∧ w.frozen? ⟨b, j, none⟩ = false
theorem Cells.below {w w' : World} {b n : Nat} {f : Nat → Value} (h : Cells w b n f) {B : Nat} (hb : Below B w w') (hlt : b < B) : Cells w' b n f :=
  ⟨Nat.lt_of_lt_of_le h.1 hb.size, fun j hj => ⟨(hb.cell (p := ⟨b, j, none⟩) hlt).trans (h.2 j hj).1, (hb.frozen (p := ⟨b, j, none⟩) hlt).trans (h.2 j hj).2⟩⟩
theorem Cells.other {w : World} {b n : Nat} {f : Nat → Value} (h : Cells w b n f) (a : Addr) (hne : a.block ≠ b) (u : Value) : Cells (w.setCell a u) b n f :=
  ⟨by rw [size_set]; exact h.1, fun j hj => ⟨(World.cell?_setCell_far _ _ ⟨b, j, none⟩ _ hne).trans (h.2 j hj).1, (World.frozen?_setCell _ _ _ _).trans (h.2 j hj).2⟩⟩
theorem Cells.set {w : World} {b n : Nat} {f : Nat → Value} (h : Cells w b n f) (i : Nat) (u : Value) : Cells (w.setCell ⟨b, i, none⟩ u) b n (fun j => if j = i then u else f j) :=
  ⟨by rw [size_set]; exact h.1, fun j hj => ⟨by
    by_cases e : j = i
    · subst e; simp only [if_pos]; exact World.cell?_setCell_same _ _ _ (h.2 j hj).1
    · simp only [if_neg e]; rw [World.cell?_setCell_other _ _ _ _ (by intro h'; injection h' with _ h'; exact e h'.symm)]; exact (h.2 j hj).1, (World.frozen?_setCell _ _ _ _).trans (h.2 j hj).2⟩⟩
theorem Cells.congr {w : World} {b n : Nat} {f f' : Nat → Value} (h : Cells w b n f) (hf : ∀ j, j < n → f j = f' j) : Cells w b n f' := ⟨h.1, fun j hj => by rw [← hf j hj]; exact h.2 j hj⟩

/-- The reference's stack, as a slice. -/
def Stk (A : Option Addr) (c m : Nat) : Prop := (m = 0 → A = none ∧ c = 0) ∧ m ≤ c ∧ c ≤ maxLen

section
variable {F : Nat → Prop} {w : World} {R : RL} {S : SS}

set_option maxRecDepth 100000 in
set_option maxHeartbeats 1000000 in
theorem ref_alloc_full (h : RAt F w R S) (hw : S.wf) (hf : S.free = 0) :
    Calls Try.prog 27 #[R.val S] w fun e w' => e = .returned (.tuple #[R.val S, .int .u32 0, .int .i64 2]) ∧ Below w.heap.size w w' := by
  have hn := hw.n2
  have hfr := hw.fr
  have hrc := h.sc
  have hgc := h.gc
  have hoc := h.oc
  have h0 : S.rl.length = 0 := by unfold SS.free at hf; omega
  have h1 : S.fresh = S.n := by unfold SS.free at hf; omega
  have HH := hid h
  have HW := hid hw
  have H0 := hid h0
  clear h hw hf
  unfold RL.val
  rw [H0.out]
  rw [H0.out] at hrc
  rw [h1]
  clear h0
  go_enter Try.func27, Try.ntmps27
  go_wp2
  (try simp only [Exit.inBlock, Exit.then])
  refine bodyPost_ret (v := .tuple #[.agg #[.int .i64 (S.n : Int), .slice R.a 0 R.c, .int .i64 ((S.n : Int) + 1), .slice (some ⟨R.gb, 0, none⟩) S.n R.gc, .slice (some ⟨R.ob, 0, none⟩) S.n R.oc], .int .u32 0, .int .i64 2]) ?_ rfl ⟨rfl, ?_⟩
  · rw [results_cell_tmp2 rfl]
    go_simp
  · exact ((Below.refl _ w).alloc (Nat.le_refl _) _).alloc (by simp) _


set_option maxRecDepth 100000 in
set_option maxHeartbeats 2000000 in
theorem ref_alloc_fresh (h : RAt F w R S) (hw : S.wf) (hF : ∀ k, F k → k < w.heap.size) (hr : S.rl = []) (hf : S.fresh < S.n) :
    Calls Try.prog 27 #[R.val S] w fun e w' => ∃ R' : RL, e = .returned (.tuple #[R'.val S.alloc, .int .u32 (S.next : Int), .int .i64 0]) ∧ RAt F w' R' S.alloc ∧ Below w.heap.size w w' := by
  obtain ⟨i0, hi0, hz0, hz1, hz2⟩ := info_parts info30
  obtain ⟨i1, hi1, hy0, hy1, hy2⟩ := info_parts info4
  have hn := hw.n2
  have hfr := hw.fr
  have hrc := h.sc
  have hgc := h.gc
  have hoc := h.oc
  have h0 : S.rl.length = 0 := by rw [hr]; rfl
  obtain ⟨hra, hrcc⟩ := h.s0 h0
  have HH := hid h
  have HW := hid hw
  have HR := hid hr
  have HF := hid hF
  clear h hw hr hF
  unfold RL.val
  rw [h0, hra, hrcc]
  rw [h0] at hrc
  go_enter Try.func27, Try.ntmps27
  go_wp2_with fail
  generalize hWW : World.alloc (World.alloc w (.cells #[.int .i64 (S.n : Int), .slice none 0 0, .int .i64 ((S.fresh : Int) + 1 + 1), .slice (some ⟨R.gb, 0, none⟩) S.n R.gc, .slice (some ⟨R.ob, 0, none⟩) S.n R.oc] 42)) (.cells #[.int .i64 0, .slice none 0 0, .int .i64 0, .slice none 0 0, .slice none 0 0] 42) = W
  have hBW : Below w.heap.size w W := by rw [← hWW]; exact ((Below.refl _ w).alloc (Nat.le_refl _) _).alloc (by simp) _
  have hsW : w.heap.size + 2 ≤ W.heap.size := by rw [← hWW]; simp
  have X1 : Row5 W w.heap.size (.int .i64 (S.n : Int)) (.slice none 0 0) (.int .i64 ((S.fresh : Int) + 1 + 1)) (.slice (some ⟨R.gb, 0, none⟩) S.n R.gc) (.slice (some ⟨R.ob, 0, none⟩) S.n R.oc) := by rw [← hWW]; exact heap_alloc2_old w _ _
  have X2 : Row5 W (w.heap.size + 1) (.int .i64 0) (.slice none 0 0) (.int .i64 0) (.slice none 0 0) (.slice none 0 0) := by rw [← hWW]; exact heap_alloc2_new w _ _
  clear hWW
  obtain ⟨H, hH⟩ : ∃ H, H = w.heap.size := ⟨_, rfl⟩
  rw [← hH] at X1 X2 hsW ⊢
  have HEQ := hid hH
  have HBW := hid hBW
  have HX1 := hid X1
  have HX2 := hid X2
  have HNX := hid (show S.next = S.fresh + 1 by unfold SS.next; rw [HR.out])
  have HFR := hid (show S.alloc.fresh = S.fresh + 1 by unfold SS.alloc; rw [HR.out]; rfl)
  have HRL := hid (show S.alloc.rl = [] by unfold SS.alloc; rw [HR.out]; rfl)
  have HNW : Hid (Nums .u32 (fun k => k < H + 2) W none 0 (natsI S.alloc.rl.reverse)) := hid (by rw [HRL.out]; exact Nums.nil _ _ _ _)
  have HSC : Hid (Stk none 0 0) := hid ⟨fun _ => ⟨rfl, rfl⟩, by unfold maxLen; omega⟩
  clear hH hBW X1 X2
  obtain ⟨i, hi⟩ : ∃ i, i = S.fresh + 1 := ⟨_, rfl⟩
  rw [show ((S.fresh : Int) + 1) = (i : Int) by omega] at HX1 ⊢
  rw [← hi] at HNX HFR
  have hin : 1 ≤ i ∧ i ≤ S.n := by omega
  have HLN : Hid (S.alloc.rl.length = 0) := hid (by rw [HRL.out]; rfl)
  clear hi

  have HGS : Hid (∀ W', Below W.heap.size W W' → ∀ j u, ((List.range S.n).map fun j => Value.int .u32 (S.gen (j + 1)))[j]? = some u → W'.cell? ((⟨R.gb, 0, none⟩ : Addr).add j) = some u) := by
    refine hid fun W' hb j u hu => ?_
    simp at hu
    obtain ⟨x, hx, rfl⟩ := hu
    obtain ⟨hj1, hj2⟩ := List.getElem?_eq_some_iff.1 hx
    simp at hj1 hj2
    subst hj2
    rw [Addr.add_lit, Nat.zero_add]
    exact ((HH.out.below HBW.out).below hb).gs j hj1
  have HOS : Hid (∀ W', Below W.heap.size W W' → ∀ j u, ((List.range S.n).map fun j => Value.bool (S.on (j + 1)))[j]? = some u → W'.cell? ((⟨R.ob, 0, none⟩ : Addr).add j) = some u) := by
    refine hid fun W' hb j u hu => ?_
    simp at hu
    obtain ⟨x, hx, rfl⟩ := hu
    obtain ⟨hj1, hj2⟩ := List.getElem?_eq_some_iff.1 hx
    simp at hj1 hj2
    subst hj2
    rw [Addr.add_lit, Nat.zero_add]
    exact ((HH.out.below HBW.out).below hb).os j hj1
  obtain ⟨a0, a1, a2, a3, a4⟩ := Row5.cells HX1.out
  obtain ⟨f0, f1, f2, f3, f4⟩ := Row5.frz HX1.out

  go_region_law (first
    | (refine step_append_lies _ rfl (.const (.slice none 0 0)) (.tmp 39) 28 rfl W.heap.size 30 i0 (.int .u32 0) 1 4 Try.underlying28 hi0 hz0 hz1 hz2 rfl (by decide) (.slice none 0 0) 0 [] rfl (World.ownsRow_nil _ _ _ _) ⟨R.gb, 0, none⟩ S.n R.gc ((List.range S.n).map fun j => Value.int .u32 (S.gen (j + 1))) (by simp [Act.eval, Act.put]) (by simp) (HGS.out _ (by first | assumption | exact (Below.refl _ _).drew)) (by intro u hu; simp at hu; obtain ⟨j, _, rfl⟩ := hu; rfl) (by omega) (by omega) (by omega) (by first | exact Below.size (by assumption) | exact Nat.le_refl _) _ rfl ?_; intro gA cA wA hownA hgA hatA hltA; have EA := hid (hatA.resolve_left (by simp [Value.ownBlock])); have LA := grown_new hgA; have BA : Below W.heap.size W wA := (by first | assumption | exact (Below.refl _ _).drew : Below W.heap.size W _).trans (LA.mono (by first | exact Below.size (by assumption) | exact Nat.le_refl _)); rw [Nat.zero_add, List.nil_append] at hownA; have RA := hid (own_row hownA (by omega)); have HLA := hid LA; rw [Nat.zero_add]; obtain ⟨a0, a1, a2, a3, a4⟩ := Row5.cells (HX1.out.below BA (by omega)); obtain ⟨f0, f1, f2, f3, f4⟩ := Row5.frz (HX1.out.below BA (by omega)); clear hownA hgA hatA LA)
    | (refine step_append_lies _ rfl (.const (.slice none 0 0)) (.tmp 42) 27 rfl W.heap.size 4 i1 (.bool false) 1 1 Try.underlying27 hi1 hy0 hy1 hy2 rfl (by decide) (.slice none 0 0) 0 [] rfl (World.ownsRow_nil _ _ _ _) ⟨R.ob, 0, none⟩ S.n R.oc ((List.range S.n).map fun j => Value.bool (S.on (j + 1))) (by simp [Act.eval, Act.put]) (by simp) (HOS.out _ (by first | assumption | exact (Below.refl _ _).drew)) (by intro u hu; simp at hu; obtain ⟨j, _, rfl⟩ := hu; rfl) (by omega) (by omega) (by omega) (by first | exact Below.size (by assumption) | exact Nat.le_refl _) _ rfl ?_; intro gB cB wB hownB hgB hatB hltB; have EB := hid (hatB.resolve_left (by simp [Value.ownBlock])); have LB := grown_new hgB; have BB : Below W.heap.size W wB := (by first | assumption | exact (Below.refl _ _).drew : Below W.heap.size W _).trans (LB.mono (by first | exact Below.size (by assumption) | exact Nat.le_refl _)); rw [Nat.zero_add, List.nil_append] at hownB; have RB := hid (own_row hownB (by omega)); have HLB := hid LB; rw [Nat.zero_add]; obtain ⟨a0, a1, a2, a3, a4⟩ := Row5.cells (HX1.out.below BB (by omega)); obtain ⟨f0, f1, f2, f3, f4⟩ := Row5.frz (HX1.out.below BB (by omega)); clear hownB hgB hatB LB))
  all_goals first
    | (have hAB : gA < gB := by have h1 := EB.out; have h2 := RA.out.2.2.1; first | omega | (rw [World.size_drew] at h1; omega)
       have CA := Cells.below (f := fun j => ((List.range S.n).map fun j => Value.int .u32 (S.gen (j + 1))).getD j undef) ⟨RA.out.2.2.1, RA.out.2.2.2.2⟩ HLB.out RA.out.2.2.1
       have CB : Cells wB gB S.n (fun j => ((List.range S.n).map fun j => Value.bool (S.on (j + 1))).getD j undef) := ⟨RB.out.2.2.1, RB.out.2.2.2.2⟩
       have BZ := BB
       have hne : gA ≠ gB := by omega
       obtain ⟨wz, hwz⟩ : ∃ wz, wz = wB := ⟨_, rfl⟩
       subst hwz)
    | (have hAB : gB < gA := by have h1 := EA.out; have h2 := RB.out.2.2.1; first | omega | (rw [World.size_drew] at h1; omega)
       have CA : Cells wA gA S.n (fun j => ((List.range S.n).map fun j => Value.int .u32 (S.gen (j + 1))).getD j undef) := ⟨RA.out.2.2.1, RA.out.2.2.2.2⟩
       have CB := Cells.below (f := fun j => ((List.range S.n).map fun j => Value.bool (S.on (j + 1))).getD j undef) ⟨RB.out.2.2.1, RB.out.2.2.2.2⟩ HLA.out RB.out.2.2.1
       have BZ := BA
       have hne : gA ≠ gB := by omega
       obtain ⟨wz, hwz⟩ : ∃ wz, wz = wA := ⟨_, rfl⟩
       subst hwz)
  all_goals (
    replace CA : Cells wz gA S.n (fun j => .int .u32 (S.gen (j + 1))) := CA.congr fun j hj => by simp [List.getD, hj]
    replace CB : Cells wz gB S.n (fun j => .bool (S.on (j + 1))) := CB.congr fun j hj => by simp [List.getD, hj]
    have hcA := RA.out.1
    have hcA2 := RA.out.2.1
    have hcB := RB.out.1
    have hcB2 := RB.out.2.1
    have hgA := RA.out.2.2.2.1
    have hgB := RB.out.2.2.2.1
    obtain ⟨cA1, fA1⟩ := CA.2 (i - 1) (by omega)
    obtain ⟨cB1, fB1⟩ := CB.2 (i - 1) (by omega)
    simp only [show i - 1 + 1 = i by omega] at cA1 cB1
    have hx0 : 0 ≤ S.gen i ∧ S.gen i ≤ 4294967295 := HW.out.g0 i
    obtain ⟨x, hx⟩ : ∃ x, x = S.gen i := ⟨_, rfl⟩
    rw [← hx] at cA1 hx0
    obtain ⟨b0, hb0⟩ : ∃ b, b = S.on i := ⟨_, rfl⟩
    rw [← hb0] at cB1
    obtain ⟨d0, d1, d2, d3, d4⟩ := Row5.cells (HX2.out.below BZ (by omega))
    obtain ⟨g0, g1, g2, g3, g4⟩ := Row5.frz (HX2.out.below BZ (by omega))
    have e1 : ((i : Int) - 1) = ((i - 1 : Nat) : Int) := by omega
    have HX := hid hx
    have HCA := hid CA
    have HCB := hid CB
    have HBZ := hid BZ
    have n1 : ¬ gA = H := by omega
    have n2 : ¬ gA = H + 1 := by omega
    have n3 : ¬ gB = H := by omega
    have n4 : ¬ gB = H + 1 := by omega
    have n5 : ¬ H = gA := by omega
    have n6 : ¬ H + 1 = gA := by omega
    have n7 : ¬ H = gB := by omega
    have n8 : ¬ H + 1 = gB := by omega
    have n9 : ¬ gA = gB := hne
    have n10 : ¬ gB = gA := fun e => hne e.symm
    clear hx hb0 CA CB BZ hAB hne
    (try clear BA)
    (try clear BB))
  all_goals go_wp2
  all_goals (try simp only [Exit.inBlock, Exit.then])
  all_goals (
    have hnx := HNX.out
    have hfre := HFR.out
    have hln := HLN.out
    have hno := S.alloc_n
    refine bodyPost_ret (v := .tuple #[RL.val ⟨none, 0, gA, cA, gB, cB⟩ S.alloc, .int .u32 (S.next : Int), .int .i64 0]) ?_ rfl ⟨_, rfl, ?_⟩
    · unfold RL.val
      rw [hnx, hfre, hln, hno]
      clear hnx hfre hln hno
      rw [results_cell_tmp2 rfl]
      go_simp
    · rw [HX.out, ← u32_wrap]
      have hC : Chg (fun k => k = H ∨ k = H + 1) W wz := Chg.of_below HBZ.out
      have hB : Below w.heap.size w wz := HBW.out.trans (HBZ.out.mono (by have := HEQ.out; omega))
      have heq := HEQ.out
      have hCC := ((((((((hC.setCell (p := ⟨H, 3, none⟩) (.inl (.inl rfl)) (.slice (some ⟨gA, 0, none⟩) S.n cA)).setCell (p := ⟨H, 4, none⟩) (.inl (.inl rfl)) (.slice (some ⟨gB, 0, none⟩) S.n cB)).setCell (p := ⟨gA, i - 1, none⟩) (.inr hgA) (.int .u32 (IntKind.u32.wrap (S.gen i + 1)))).setCell (p := ⟨gB, i - 1, none⟩) (.inr hgB) (.bool true)).setCell (p := ⟨H + 1, 0, none⟩) (.inl (.inr rfl)) (.int .i64 S.n)).setCell (p := ⟨H + 1, 1, none⟩) (.inl (.inr rfl)) (.slice none 0 0)).setCell (p := ⟨H + 1, 2, none⟩) (.inl (.inr rfl)) (.int .i64 ((i : Int) + 1))).setCell (p := ⟨H + 1, 3, none⟩) (.inl (.inr rfl)) (.slice (some ⟨gA, 0, none⟩) S.n cA)).setCell (p := ⟨H + 1, 4, none⟩) (.inl (.inr rfl)) (.slice (some ⟨gB, 0, none⟩) S.n cB)
      have hBB := ((((((((hB.setCell (p := ⟨H, 3, none⟩) (by show w.heap.size ≤ H; omega) (.slice (some ⟨gA, 0, none⟩) S.n cA)).setCell (p := ⟨H, 4, none⟩) (by show w.heap.size ≤ H; omega) (.slice (some ⟨gB, 0, none⟩) S.n cB)).setCell (p := ⟨gA, i - 1, none⟩) (by show w.heap.size ≤ gA; omega) (.int .u32 (IntKind.u32.wrap (S.gen i + 1)))).setCell (p := ⟨gB, i - 1, none⟩) (by show w.heap.size ≤ gB; omega) (.bool true)).setCell (p := ⟨H + 1, 0, none⟩) (by show w.heap.size ≤ H + 1; omega) (.int .i64 S.n)).setCell (p := ⟨H + 1, 1, none⟩) (by show w.heap.size ≤ H + 1; omega) (.slice none 0 0)).setCell (p := ⟨H + 1, 2, none⟩) (by show w.heap.size ≤ H + 1; omega) (.int .i64 ((i : Int) + 1))).setCell (p := ⟨H + 1, 3, none⟩) (by show w.heap.size ≤ H + 1; omega) (.slice (some ⟨gA, 0, none⟩) S.n cA)).setCell (p := ⟨H + 1, 4, none⟩) (by show w.heap.size ≤ H + 1; omega) (.slice (some ⟨gB, 0, none⟩) S.n cB)
      have K1 := ((((((((HCA.out.other ⟨H, 3, none⟩ n5 (.slice (some ⟨gA, 0, none⟩) S.n cA)).other ⟨H, 4, none⟩ n5 (.slice (some ⟨gB, 0, none⟩) S.n cB)).set (i - 1) (.int .u32 (IntKind.u32.wrap (S.gen i + 1)))).other ⟨gB, i - 1, none⟩ n10 (.bool true)).other ⟨H + 1, 0, none⟩ n6 (.int .i64 S.n)).other ⟨H + 1, 1, none⟩ n6 (.slice none 0 0)).other ⟨H + 1, 2, none⟩ n6 (.int .i64 ((i : Int) + 1))).other ⟨H + 1, 3, none⟩ n6 (.slice (some ⟨gA, 0, none⟩) S.n cA)).other ⟨H + 1, 4, none⟩ n6 (.slice (some ⟨gB, 0, none⟩) S.n cB)
      have K2 := ((((((((HCB.out.other ⟨H, 3, none⟩ n7 (.slice (some ⟨gA, 0, none⟩) S.n cA)).other ⟨H, 4, none⟩ n7 (.slice (some ⟨gB, 0, none⟩) S.n cB)).other ⟨gA, i - 1, none⟩ n9 (.int .u32 (IntKind.u32.wrap (S.gen i + 1)))).set (i - 1) (.bool true)).other ⟨H + 1, 0, none⟩ n8 (.int .i64 S.n)).other ⟨H + 1, 1, none⟩ n8 (.slice none 0 0)).other ⟨H + 1, 2, none⟩ n8 (.int .i64 ((i : Int) + 1))).other ⟨H + 1, 3, none⟩ n8 (.slice (some ⟨gA, 0, none⟩) S.n cA)).other ⟨H + 1, 4, none⟩ n8 (.slice (some ⟨gB, 0, none⟩) S.n cB)
      refine ⟨⟨?_, fun h0 => HSC.out.1 (hln.symm.trans h0), by rw [hln]; exact HSC.out.2, K1.1, fun hf => ?_, fun j hj => ?_, by rw [hno]; exact ⟨hcA, hcA2⟩, K2.1, fun hf => ?_, fun j hj => ?_, by rw [hno]; exact ⟨hcB, hcB2⟩⟩, hBB⟩
      · rw [hln]
        exact HNW.out.keep hCC (fun k hk => by show k < H + 2; omega) (fun k hk => .inl (by have := HF.out k hk; show k < H + 2; omega))
      · have : gA < w.heap.size := HF.out _ hf
        omega
      · rw [hno] at hj
        refine (K1.2 j hj).1.trans ?_
        rw [S.alloc_gen, hnx]
        by_cases e : j = i - 1
        · have e2 : i - 1 + 1 = i := by omega
          subst e
          simp [e2, u32_wrap]
        · have e2 : ¬ j + 1 = i := by omega
          simp [e, e2]
      · have : gB < w.heap.size := HF.out _ hf
        omega
      · rw [hno] at hj
        refine (K2.2 j hj).1.trans ?_
        rw [S.alloc_on, hnx]
        by_cases e : j = i - 1
        · have e2 : i - 1 + 1 = i := by omega
          subst e
          simp [e2]
        · have e2 : ¬ j + 1 = i := by omega
          simp [e, e2])

set_option maxRecDepth 100000 in
set_option maxHeartbeats 2000000 in
theorem ref_alloc_top (i : Nat) (r : List Nat) (h : RAt F w R S) (hw : S.wf) (hF : ∀ k, F k → k < w.heap.size) (hr : S.rl = i :: r) :
    Calls Try.prog 27 #[R.val S] w fun e w' => ∃ R' : RL, e = .returned (.tuple #[R'.val S.alloc, .int .u32 (S.next : Int), .int .i64 0]) ∧ RAt F w' R' S.alloc ∧ Below w.heap.size w w' := by
  obtain ⟨i0, hi0, hz0, hz1, hz2⟩ := info_parts info30
  obtain ⟨i1, hi1, hy0, hy1, hy2⟩ := info_parts info4
  have hn := hw.n2
  have hfr := hw.fr
  have hrc := h.sc
  have hgc := h.gc
  have hoc := h.oc
  have hlen := hw.len
  have hl1 : S.rl.length = r.length + 1 := by rw [hr]; rfl
  have hin : 1 ≤ i ∧ i ≤ S.n := by have := hw.rl i (by simp [hr]); omega
  obtain ⟨b, off, hra, hbl, _, hst⟩ := h.st.2 (by omega)
  have ct := hst r.length (by omega)
  have ez : (natsI S.rl.reverse).getD r.length 0 = (i : Int) := by rw [natsI_getD, hr]; simp [List.getD]
  rw [ez] at ct
  have HST : Hid (∀ W', Below w.heap.size w W' → ∀ ad, (some ⟨b, off, none⟩ : Option Addr) = some ad → ∀ j u, ((natsI r.reverse).map (Value.int .u32))[j]? = some u → W'.cell? (ad.add j) = some u) := by
    refine hid fun W' hb ad had j u hu => ?_
    injection had with had
    subst had
    have hj : j < r.length := by have := (List.getElem?_eq_some_iff.1 hu).1; simpa [natsI] using this
    rw [Addr.add_lit]
    refine (hb.cell (p := ⟨b, off + j, none⟩) hbl).trans ?_
    rw [hst j (by omega), ← hu, hr]
    simp [natsI, List.getD, List.getElem?_append_left, hj]
  have HH := hid h
  have HW := hid hw
  have HR := hid hr
  have HF := hid hF
  clear h hw hr hF hst ez
  unfold RL.val
  rw [hl1, hra]
  rw [hl1] at hrc hlen
  clear hl1
  go_enter Try.func27, Try.ntmps27
  go_wp2_with (at_builtin; refine wpList_clone rfl (.tmp 23) 28 rfl 30 i0 (.int .u32 0) 4 Try.underlying28 hi0 hz0 hz1 hz2 rfl (some ⟨b, off, none⟩) r.length R.c ((natsI r.reverse).map (Value.int .u32)) rfl (by simp [natsI]) (fun h => by cases h) (HST.out _ (((Below.refl _ w).alloc (Nat.le_refl _) _).alloc (by simp) _)) (ints_one _ _) (by omega) (by omega) ?_)
  intro A2 c2 w2 hc2
  have hl2 := hc2.low
  have hb2 : Below w.heap.size w w2 := (((Below.refl _ w).alloc (Nat.le_refl _) _).alloc (by simp) _).trans (hl2.mono (by simp; omega))
  have B1 : Row5 w2 w.heap.size _ _ _ _ _ := (hl2.block _ (by simp; omega)).trans (heap_alloc2_old w _ _)
  have B2 : Row5 w2 (w.heap.size + 1) _ _ _ _ _ := (hl2.block _ (by simp)).trans (heap_alloc2_new w _ _)
  have hN2 : Nums .u32 (fun k => k < w.heap.size + 2) w2 A2 r.length (natsI r.reverse) := Nums.of_copied hc2 (fun k hk => by simp; have hk' : k < w.heap.size + 2 := hk; omega)
  have HSC : Hid (Stk A2 c2 r.length) := hid ⟨hc2.nil, hc2.room⟩
  have hs2 : w.heap.size + 2 ≤ w2.heap.size := by have := hl2.size; simp at this; omega
  clear hc2 hl2
  obtain ⟨a0, a1, a2, a3, a4⟩ := Row5.cells B1
  obtain ⟨f0, f1, f2, f3, f4⟩ := Row5.frz B1
  have HB1 := hid B1
  have HB2 := hid B2
  have HB := hid hb2
  have HN2 := hid hN2
  clear hb2 B1 B2 hN2
  obtain ⟨H, hH⟩ : ∃ H, H = w.heap.size := ⟨_, rfl⟩
  rw [← hH] at a0 a1 a2 a3 a4 f0 f1 f2 f3 f4 HB1 HB2 hs2 hbl HN2 ⊢
  have HEQ := hid hH
  clear hH
  go_wp2_with fail
  clear a0 a1 a2 a3 a4 f0 f1 f2 f3 f4
  generalize hWW : World.setCell w2 ⟨H, 1, none⟩ (.slice A2 r.length c2) = W
  have HBW : Hid (Below w.heap.size w W) := hid (by rw [← hWW]; exact HB.out.setCell (by have := HEQ.out; show w.heap.size ≤ H; omega) _)
  have hsW : H + 2 ≤ W.heap.size := by rw [← hWW, size_set]; exact hs2
  have HX1 : Hid (Row5 W H (.int .i64 (S.n : Int)) (.slice A2 r.length c2) (.int .i64 ((S.fresh : Int) + 1)) (.slice (some ⟨R.gb, 0, none⟩) S.n R.gc) (.slice (some ⟨R.ob, 0, none⟩) S.n R.oc)) := hid (by rw [← hWW]; exact HB1.out.set1 _)
  have HX2 : Hid (Row5 W (H + 1) (.int .i64 0) (.slice none 0 0) (.int .i64 0) (.slice none 0 0) (.slice none 0 0)) := hid (by rw [← hWW]; exact HB2.out.other ⟨H, 1, none⟩ (by simp) _)
  have HNX := hid (show S.next = i by unfold SS.next; rw [HR.out])
  have HFR := hid (show S.alloc.fresh = S.fresh by unfold SS.alloc; rw [HR.out]; rfl)
  have HRL := hid (show S.alloc.rl = r by unfold SS.alloc; rw [HR.out]; rfl)
  have HLN : Hid (S.alloc.rl.length = r.length) := hid (by rw [HRL.out])
  have HNW : Hid (Nums .u32 (fun k => k < H + 2) W A2 r.length (natsI S.alloc.rl.reverse)) := hid (by
    rw [HRL.out, ← hWW]
    exact HN2.out.keep ((Chg.refl (fun k => k = H) w2).setCell (.inl rfl) _) (fun k hk => by show k < H + 2; omega) (fun k hk => .inl hk))
  clear hWW

  have HGS : Hid (∀ W', Below W.heap.size W W' → ∀ j u, ((List.range S.n).map fun j => Value.int .u32 (S.gen (j + 1)))[j]? = some u → W'.cell? ((⟨R.gb, 0, none⟩ : Addr).add j) = some u) := by
    refine hid fun W' hb j u hu => ?_
    simp at hu
    obtain ⟨x, hx, rfl⟩ := hu
    obtain ⟨hj1, hj2⟩ := List.getElem?_eq_some_iff.1 hx
    simp at hj1 hj2
    subst hj2
    rw [Addr.add_lit, Nat.zero_add]
    exact ((HH.out.below HBW.out).below hb).gs j hj1
  have HOS : Hid (∀ W', Below W.heap.size W W' → ∀ j u, ((List.range S.n).map fun j => Value.bool (S.on (j + 1)))[j]? = some u → W'.cell? ((⟨R.ob, 0, none⟩ : Addr).add j) = some u) := by
    refine hid fun W' hb j u hu => ?_
    simp at hu
    obtain ⟨x, hx, rfl⟩ := hu
    obtain ⟨hj1, hj2⟩ := List.getElem?_eq_some_iff.1 hx
    simp at hj1 hj2
    subst hj2
    rw [Addr.add_lit, Nat.zero_add]
    exact ((HH.out.below HBW.out).below hb).os j hj1
  obtain ⟨a0, a1, a2, a3, a4⟩ := Row5.cells HX1.out
  obtain ⟨f0, f1, f2, f3, f4⟩ := Row5.frz HX1.out

  go_region_law (first
    | (refine step_append_lies _ rfl (.const (.slice none 0 0)) (.tmp 39) 28 rfl W.heap.size 30 i0 (.int .u32 0) 1 4 Try.underlying28 hi0 hz0 hz1 hz2 rfl (by decide) (.slice none 0 0) 0 [] rfl (World.ownsRow_nil _ _ _ _) ⟨R.gb, 0, none⟩ S.n R.gc ((List.range S.n).map fun j => Value.int .u32 (S.gen (j + 1))) (by simp [Act.eval, Act.put]) (by simp) (HGS.out _ (by first | assumption | exact (Below.refl _ _).drew)) (by intro u hu; simp at hu; obtain ⟨j, _, rfl⟩ := hu; rfl) (by omega) (by omega) (by omega) (by first | exact Below.size (by assumption) | exact Nat.le_refl _) _ rfl ?_; intro gA cA wA hownA hgA hatA hltA; have EA := hid (hatA.resolve_left (by simp [Value.ownBlock])); have LA := grown_new hgA; have BA : Below W.heap.size W wA := (by first | assumption | exact (Below.refl _ _).drew : Below W.heap.size W _).trans (LA.mono (by first | exact Below.size (by assumption) | exact Nat.le_refl _)); rw [Nat.zero_add, List.nil_append] at hownA; have RA := hid (own_row hownA (by omega)); have HLA := hid LA; rw [Nat.zero_add]; obtain ⟨a0, a1, a2, a3, a4⟩ := Row5.cells (HX1.out.below BA (by omega)); obtain ⟨f0, f1, f2, f3, f4⟩ := Row5.frz (HX1.out.below BA (by omega)); clear hownA hgA hatA LA)
    | (refine step_append_lies _ rfl (.const (.slice none 0 0)) (.tmp 42) 27 rfl W.heap.size 4 i1 (.bool false) 1 1 Try.underlying27 hi1 hy0 hy1 hy2 rfl (by decide) (.slice none 0 0) 0 [] rfl (World.ownsRow_nil _ _ _ _) ⟨R.ob, 0, none⟩ S.n R.oc ((List.range S.n).map fun j => Value.bool (S.on (j + 1))) (by simp [Act.eval, Act.put]) (by simp) (HOS.out _ (by first | assumption | exact (Below.refl _ _).drew)) (by intro u hu; simp at hu; obtain ⟨j, _, rfl⟩ := hu; rfl) (by omega) (by omega) (by omega) (by first | exact Below.size (by assumption) | exact Nat.le_refl _) _ rfl ?_; intro gB cB wB hownB hgB hatB hltB; have EB := hid (hatB.resolve_left (by simp [Value.ownBlock])); have LB := grown_new hgB; have BB : Below W.heap.size W wB := (by first | assumption | exact (Below.refl _ _).drew : Below W.heap.size W _).trans (LB.mono (by first | exact Below.size (by assumption) | exact Nat.le_refl _)); rw [Nat.zero_add, List.nil_append] at hownB; have RB := hid (own_row hownB (by omega)); have HLB := hid LB; rw [Nat.zero_add]; obtain ⟨a0, a1, a2, a3, a4⟩ := Row5.cells (HX1.out.below BB (by omega)); obtain ⟨f0, f1, f2, f3, f4⟩ := Row5.frz (HX1.out.below BB (by omega)); clear hownB hgB hatB LB))
  all_goals first
    | (have hAB : gA < gB := by have h1 := EB.out; have h2 := RA.out.2.2.1; first | omega | (rw [World.size_drew] at h1; omega)
       have CA := Cells.below (f := fun j => ((List.range S.n).map fun j => Value.int .u32 (S.gen (j + 1))).getD j undef) ⟨RA.out.2.2.1, RA.out.2.2.2.2⟩ HLB.out RA.out.2.2.1
       have CB : Cells wB gB S.n (fun j => ((List.range S.n).map fun j => Value.bool (S.on (j + 1))).getD j undef) := ⟨RB.out.2.2.1, RB.out.2.2.2.2⟩
       have BZ := BB
       have hne : gA ≠ gB := by omega
       obtain ⟨wz, hwz⟩ : ∃ wz, wz = wB := ⟨_, rfl⟩
       subst hwz)
    | (have hAB : gB < gA := by have h1 := EA.out; have h2 := RB.out.2.2.1; first | omega | (rw [World.size_drew] at h1; omega)
       have CA : Cells wA gA S.n (fun j => ((List.range S.n).map fun j => Value.int .u32 (S.gen (j + 1))).getD j undef) := ⟨RA.out.2.2.1, RA.out.2.2.2.2⟩
       have CB := Cells.below (f := fun j => ((List.range S.n).map fun j => Value.bool (S.on (j + 1))).getD j undef) ⟨RB.out.2.2.1, RB.out.2.2.2.2⟩ HLA.out RB.out.2.2.1
       have BZ := BA
       have hne : gA ≠ gB := by omega
       obtain ⟨wz, hwz⟩ : ∃ wz, wz = wA := ⟨_, rfl⟩
       subst hwz)
  all_goals (
    replace CA : Cells wz gA S.n (fun j => .int .u32 (S.gen (j + 1))) := CA.congr fun j hj => by simp [List.getD, hj]
    replace CB : Cells wz gB S.n (fun j => .bool (S.on (j + 1))) := CB.congr fun j hj => by simp [List.getD, hj]
    have hcA := RA.out.1
    have hcA2 := RA.out.2.1
    have hcB := RB.out.1
    have hcB2 := RB.out.2.1
    have hgA := RA.out.2.2.2.1
    have hgB := RB.out.2.2.2.1
    obtain ⟨cA1, fA1⟩ := CA.2 (i - 1) (by omega)
    obtain ⟨cB1, fB1⟩ := CB.2 (i - 1) (by omega)
    simp only [show i - 1 + 1 = i by omega] at cA1 cB1
    have hx0 : 0 ≤ S.gen i ∧ S.gen i ≤ 4294967295 := HW.out.g0 i
    obtain ⟨x, hx⟩ : ∃ x, x = S.gen i := ⟨_, rfl⟩
    rw [← hx] at cA1 hx0
    obtain ⟨b0, hb0⟩ : ∃ b, b = S.on i := ⟨_, rfl⟩
    rw [← hb0] at cB1
    obtain ⟨d0, d1, d2, d3, d4⟩ := Row5.cells (HX2.out.below BZ (by omega))
    obtain ⟨g0, g1, g2, g3, g4⟩ := Row5.frz (HX2.out.below BZ (by omega))
    have e1 : ((i : Int) - 1) = ((i - 1 : Nat) : Int) := by omega
    have HX := hid hx
    have HCA := hid CA
    have HCB := hid CB
    have HBZ := hid BZ
    have n1 : ¬ gA = H := by omega
    have n2 : ¬ gA = H + 1 := by omega
    have n3 : ¬ gB = H := by omega
    have n4 : ¬ gB = H + 1 := by omega
    have n5 : ¬ H = gA := by omega
    have n6 : ¬ H + 1 = gA := by omega
    have n7 : ¬ H = gB := by omega
    have n8 : ¬ H + 1 = gB := by omega
    have n9 : ¬ gA = gB := hne
    have n10 : ¬ gB = gA := fun e => hne e.symm
    clear hx hb0 CA CB BZ hAB hne
    (try clear BA)
    (try clear BB))
  all_goals go_wp2
  all_goals (try simp only [Exit.inBlock, Exit.then])
  all_goals (
    have hnx := HNX.out
    have hfre := HFR.out
    have hln := HLN.out
    have hno := S.alloc_n
    refine bodyPost_ret (v := .tuple #[RL.val ⟨A2, c2, gA, cA, gB, cB⟩ S.alloc, .int .u32 (S.next : Int), .int .i64 0]) ?_ rfl ⟨_, rfl, ?_⟩
    · unfold RL.val
      rw [hnx, hfre, hln, hno]
      clear hnx hfre hln hno
      rw [results_cell_tmp2 rfl]
      go_simp
    · rw [HX.out, ← u32_wrap]
      have hC : Chg (fun k => k = H ∨ k = H + 1) W wz := Chg.of_below HBZ.out
      have hB : Below w.heap.size w wz := HBW.out.trans (HBZ.out.mono (by have := HEQ.out; omega))
      have heq := HEQ.out
      have hCC := ((((((((hC.setCell (p := ⟨H, 3, none⟩) (.inl (.inl rfl)) (.slice (some ⟨gA, 0, none⟩) S.n cA)).setCell (p := ⟨H, 4, none⟩) (.inl (.inl rfl)) (.slice (some ⟨gB, 0, none⟩) S.n cB)).setCell (p := ⟨gA, i - 1, none⟩) (.inr hgA) (.int .u32 (IntKind.u32.wrap (S.gen i + 1)))).setCell (p := ⟨gB, i - 1, none⟩) (.inr hgB) (.bool true)).setCell (p := ⟨H + 1, 0, none⟩) (.inl (.inr rfl)) (.int .i64 S.n)).setCell (p := ⟨H + 1, 1, none⟩) (.inl (.inr rfl)) (.slice A2 r.length c2)).setCell (p := ⟨H + 1, 2, none⟩) (.inl (.inr rfl)) (.int .i64 ((S.fresh : Int) + 1))).setCell (p := ⟨H + 1, 3, none⟩) (.inl (.inr rfl)) (.slice (some ⟨gA, 0, none⟩) S.n cA)).setCell (p := ⟨H + 1, 4, none⟩) (.inl (.inr rfl)) (.slice (some ⟨gB, 0, none⟩) S.n cB)
      have hBB := ((((((((hB.setCell (p := ⟨H, 3, none⟩) (by show w.heap.size ≤ H; omega) (.slice (some ⟨gA, 0, none⟩) S.n cA)).setCell (p := ⟨H, 4, none⟩) (by show w.heap.size ≤ H; omega) (.slice (some ⟨gB, 0, none⟩) S.n cB)).setCell (p := ⟨gA, i - 1, none⟩) (by show w.heap.size ≤ gA; omega) (.int .u32 (IntKind.u32.wrap (S.gen i + 1)))).setCell (p := ⟨gB, i - 1, none⟩) (by show w.heap.size ≤ gB; omega) (.bool true)).setCell (p := ⟨H + 1, 0, none⟩) (by show w.heap.size ≤ H + 1; omega) (.int .i64 S.n)).setCell (p := ⟨H + 1, 1, none⟩) (by show w.heap.size ≤ H + 1; omega) (.slice A2 r.length c2)).setCell (p := ⟨H + 1, 2, none⟩) (by show w.heap.size ≤ H + 1; omega) (.int .i64 ((S.fresh : Int) + 1))).setCell (p := ⟨H + 1, 3, none⟩) (by show w.heap.size ≤ H + 1; omega) (.slice (some ⟨gA, 0, none⟩) S.n cA)).setCell (p := ⟨H + 1, 4, none⟩) (by show w.heap.size ≤ H + 1; omega) (.slice (some ⟨gB, 0, none⟩) S.n cB)
      have K1 := ((((((((HCA.out.other ⟨H, 3, none⟩ n5 (.slice (some ⟨gA, 0, none⟩) S.n cA)).other ⟨H, 4, none⟩ n5 (.slice (some ⟨gB, 0, none⟩) S.n cB)).set (i - 1) (.int .u32 (IntKind.u32.wrap (S.gen i + 1)))).other ⟨gB, i - 1, none⟩ n10 (.bool true)).other ⟨H + 1, 0, none⟩ n6 (.int .i64 S.n)).other ⟨H + 1, 1, none⟩ n6 (.slice A2 r.length c2)).other ⟨H + 1, 2, none⟩ n6 (.int .i64 ((S.fresh : Int) + 1))).other ⟨H + 1, 3, none⟩ n6 (.slice (some ⟨gA, 0, none⟩) S.n cA)).other ⟨H + 1, 4, none⟩ n6 (.slice (some ⟨gB, 0, none⟩) S.n cB)
      have K2 := ((((((((HCB.out.other ⟨H, 3, none⟩ n7 (.slice (some ⟨gA, 0, none⟩) S.n cA)).other ⟨H, 4, none⟩ n7 (.slice (some ⟨gB, 0, none⟩) S.n cB)).other ⟨gA, i - 1, none⟩ n9 (.int .u32 (IntKind.u32.wrap (S.gen i + 1)))).set (i - 1) (.bool true)).other ⟨H + 1, 0, none⟩ n8 (.int .i64 S.n)).other ⟨H + 1, 1, none⟩ n8 (.slice A2 r.length c2)).other ⟨H + 1, 2, none⟩ n8 (.int .i64 ((S.fresh : Int) + 1))).other ⟨H + 1, 3, none⟩ n8 (.slice (some ⟨gA, 0, none⟩) S.n cA)).other ⟨H + 1, 4, none⟩ n8 (.slice (some ⟨gB, 0, none⟩) S.n cB)
      refine ⟨⟨?_, fun h0 => HSC.out.1 (hln.symm.trans h0), by rw [hln]; exact HSC.out.2, K1.1, fun hf => ?_, fun j hj => ?_, by rw [hno]; exact ⟨hcA, hcA2⟩, K2.1, fun hf => ?_, fun j hj => ?_, by rw [hno]; exact ⟨hcB, hcB2⟩⟩, hBB⟩
      · rw [hln]
        exact HNW.out.keep hCC (fun k hk => by show k < H + 2; omega) (fun k hk => .inl (by have := HF.out k hk; show k < H + 2; omega))
      · have : gA < w.heap.size := HF.out _ hf
        omega
      · rw [hno] at hj
        refine (K1.2 j hj).1.trans ?_
        rw [S.alloc_gen, hnx]
        by_cases e : j = i - 1
        · have e2 : i - 1 + 1 = i := by omega
          subst e
          simp [e2, u32_wrap]
        · have e2 : ¬ j + 1 = i := by omega
          simp [e, e2]
      · have : gB < w.heap.size := HF.out _ hf
        omega
      · rw [hno] at hj
        refine (K2.2 j hj).1.trans ?_
        rw [S.alloc_on, hnx]
        by_cases e : j = i - 1
        · have e2 : i - 1 + 1 = i := by omega
          subst e
          simp [e2]
        · have e2 : ¬ j + 1 = i := by omega
          simp [e, e2])

theorem ref_alloc (h : RAt F w R S) (hw : S.wf) (hF : ∀ k, F k → k < w.heap.size) (hf : 0 < S.free) :
    Calls Try.prog 27 #[R.val S] w fun e w' => ∃ R' : RL, e = .returned (.tuple #[R'.val S.alloc, .int .u32 (S.next : Int), .int .i64 0]) ∧ RAt F w' R' S.alloc ∧ Below w.heap.size w w' := by
  cases hr : S.rl with
  | nil => exact ref_alloc_fresh h hw hF hr (by simp [SS.free, hr] at hf; omega)
  | cons i r => exact ref_alloc_top i r h hw hF hr
end
end Go.Proofs.Ytbmamikhjfieoaa
