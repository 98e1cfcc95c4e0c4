/-
  THE CONTRACTS OF versionmapref3's Slots, continued: Release.
-/
import Derived.Test.YtbmamikhjfieoaaRef
namespace Go.Proofs.Ytbmamikhjfieoaa
open Go.RowKit

theorem cell_of_heap {w : World} {b : Nat} {cs : Array Value} {t : TypeId} {fr : Nat × Nat} (h : w.heap[b]? = some (.cells cs t fr)) (i : Nat) (v : Value) (hv : cs[i]? = some v) : w.cell? ⟨b, i, none⟩ = some v := by
  simp [World.cell?, h, hv]
theorem frozen_of_heap {w : World} {b : Nat} {cs : Array Value} {t : TypeId} (h : w.heap[b]? = some (.cells cs t)) (i : Nat) : w.frozen? ⟨b, i, none⟩ = false := by
  simp [World.frozen?, h]
/-- A struct of five cells in a block of its own. -/
def Row5 (w : World) (b : Nat) (v0 v1 v2 v3 v4 : Value) : Prop := w.heap[b]? = some (.cells #[v0, v1, v2, v3, v4] 42)
section
variable {w w' : World} {b : Nat} {v0 v1 v2 v3 v4 : Value}
theorem Row5.cells (h : Row5 w b v0 v1 v2 v3 v4) : w.cell? ⟨b, 0, none⟩ = some v0 ∧ w.cell? ⟨b, 1, none⟩ = some v1 ∧ w.cell? ⟨b, 2, none⟩ = some v2 ∧ w.cell? ⟨b, 3, none⟩ = some v3 ∧ w.cell? ⟨b, 4, none⟩ = some v4 :=
  ⟨cell_of_heap h 0 _ rfl, cell_of_heap h 1 _ rfl, cell_of_heap h 2 _ rfl, cell_of_heap h 3 _ rfl, cell_of_heap h 4 _ rfl⟩
theorem Row5.frz (h : Row5 w b v0 v1 v2 v3 v4) : w.frozen? ⟨b, 0, none⟩ = false ∧ w.frozen? ⟨b, 1, none⟩ = false ∧ w.frozen? ⟨b, 2, none⟩ = false ∧ w.frozen? ⟨b, 3, none⟩ = false ∧ w.frozen? ⟨b, 4, none⟩ = false :=
  ⟨frozen_of_heap h 0, frozen_of_heap h 1, frozen_of_heap h 2, frozen_of_heap h 3, frozen_of_heap h 4⟩
theorem Row5.below {B : Nat} (h : Row5 w b v0 v1 v2 v3 v4) (hb : Below B w w') (hlt : b < B) : Row5 w' b v0 v1 v2 v3 v4 := (hb.block b hlt).trans h
theorem Row5.set1 (h : Row5 w b v0 v1 v2 v3 v4) (u : Value) : Row5 (w.setCell ⟨b, 1, none⟩ u) b v0 u v2 v3 v4 := by
  unfold Row5 at *
  simp [World.setCell, Array.getElem?_modify, h]
theorem Row5.set2 (h : Row5 w b v0 v1 v2 v3 v4) (u : Value) : Row5 (w.setCell ⟨b, 2, none⟩ u) b v0 v1 u v3 v4 := by
  unfold Row5 at *
  simp [World.setCell, Array.getElem?_modify, h]
theorem Row5.set3 (h : Row5 w b v0 v1 v2 v3 v4) (u : Value) : Row5 (w.setCell ⟨b, 3, none⟩ u) b v0 v1 v2 u v4 := by
  unfold Row5 at *
  simp [World.setCell, Array.getElem?_modify, h]
theorem Row5.set4 (h : Row5 w b v0 v1 v2 v3 v4) (u : Value) : Row5 (w.setCell ⟨b, 4, none⟩ u) b v0 v1 v2 v3 u := by
  unfold Row5 at *
  simp [World.setCell, Array.getElem?_modify, h]
theorem Row5.other (h : Row5 w b v0 v1 v2 v3 v4) (a : Addr) (hne : b ≠ a.block) (u : Value) : Row5 (w.setCell a u) b v0 v1 v2 v3 v4 := (Below.heap_setCell w a u b hne).trans h
end
/-- A copy of a row of bools, or numbers, is a row. -/
theorem Copied.row {w w' : World} {e : TypeId} {A : Option Addr} {n c : Nat} {xs : List Value} (h : Copied w w' e A n c xs) (hn : 0 < n) (j : Nat) (hj : j < n) : w'.cell? ⟨w.heap.size, j, none⟩ = some (xs.getD j undef) ∧ w'.frozen? ⟨w.heap.size, j, none⟩ = false ∧ w.heap.size < w'.heap.size := by
  have ho := h.own
  have hl : xs.length = n := by have := h.own.1; omega
  rw [h.at_ hn] at ho
  refine ⟨by rw [ho.cellAt j (by omega)]; simp [List.getD, show j < xs.length by omega], ?_, (ho.lt _ rfl).2⟩
  rcases ho.2 with ⟨hv, h0⟩ | ⟨g, cap, cur, hv, _, hg, _⟩
  · omega
  · injection hv with hA
    injection hA with hA
    injection hA with hA
    subst hA
    exact frozen_of_heap hg j

section
variable {F : Nat → Prop} {w : World} {R : RL} {S : SS}

set_option maxRecDepth 100000 in
set_option maxHeartbeats 1000000 in
theorem ref_release_no (i : Nat) (h : RAt F w R S) (hw : S.wf) (hi : i ≤ 4294967295) (ho : S.on i = false) :
    Calls Try.prog 25 #[R.val S, .int .u32 (i : Int)] w fun e w' => e = .returned (.tuple #[R.val S, .int .i64 3]) ∧ Below w.heap.size w w' := by
  have hn := hw.n2
  have hrc := h.sc
  have hgc := h.gc
  have hoc := h.oc
  have HH := hid h
  have HW := hid hw
  have HO := hid ho
  clear h hw ho
  unfold RL.val
  go_enter Try.func25, Try.ntmps25
  go_wp2_with fail
  refine (ref_allocd i (HH.out.below (((Below.refl _ w).alloc (Nat.le_refl _) _).alloc (by simp) _)) HW.out hi).mono ?_
  rintro e w1 ⟨rfl, hb⟩
  rw [HO.out]
  have B1 : w1.heap[w.heap.size]? = some _ := (hb.block _ (by simp; omega)).trans (heap_alloc2_old w _ _)
  have B2 : w1.heap[w.heap.size + 1]? = some _ := (hb.block _ (by simp)).trans (heap_alloc2_new w _ _)
  have hb' : Below w.heap.size w w1 := (((Below.refl _ w).alloc (Nat.le_refl _) _).alloc (by simp) _).trans (hb.mono (by simp; omega))
  obtain ⟨a0, a1, a2, a3, a4⟩ := Row5.cells B1
  obtain ⟨b0, b1, b2, b3, b4⟩ := Row5.cells B2
  obtain ⟨f0, f1, f2, f3, f4⟩ := Row5.frz B2
  have HB := hid hb'
  clear hb hb' B1 B2
  go_wp2
  (try simp only [Exit.inBlock, Exit.then])
  refine bodyPost_ret (v := .tuple #[RL.val R S, .int .i64 3]) ?_ rfl ⟨rfl, ?_⟩
  · unfold RL.val
    rw [results_cell_tmp1 rfl]
    go_simp
  · exact ((((HB.out.setCell (by simp) _).setCell (by simp) _).setCell (by simp) _).setCell (by simp) _).setCell (by simp) _

set_option maxRecDepth 100000 in
set_option maxHeartbeats 2000000 in
theorem ref_release (i : Nat) (h : RAt F w R S) (hw : S.wf) (hF : ∀ k, F k → k < w.heap.size) (ho : S.on i = true) :
    Calls Try.prog 25 #[R.val S, .int .u32 (i : Int)] w fun e w' => ∃ R' : RL, e = .returned (.tuple #[R'.val (S.release i), .int .i64 0]) ∧ RAt F w' R' (S.release i) ∧ Below w.heap.size w w' := by
  obtain ⟨i0, hi0, hz0, hz1, hz2⟩ := info_parts info30
  obtain ⟨i1, hi1, hy0, hy1, hy2⟩ := info_parts info4
  have hn := hw.n2
  have hfr := hw.fr
  have hlen := hw.len
  have hon := hw.on i ho
  have hrc := h.sc
  have hgc := h.gc
  have hoc := h.oc
  have HH := hid h
  have HW := hid hw
  have HO := hid ho
  have HF := hid hF
  clear h hw ho hF
  unfold RL.val
  go_enter Try.func25, Try.ntmps25
  go_wp2_with fail
  refine (ref_allocd i (HH.out.below (((Below.refl _ w).alloc (Nat.le_refl _) _).alloc (by simp) _)) HW.out (by omega)).mono ?_
  rintro e w1 ⟨rfl, hb⟩
  rw [HO.out]
  have B1 : Row5 w1 w.heap.size _ _ _ _ _ := (hb.block _ (by simp; omega)).trans (heap_alloc2_old w _ _)
  have B2 : Row5 w1 (w.heap.size + 1) _ _ _ _ _ := (hb.block _ (by simp)).trans (heap_alloc2_new w _ _)
  have hb' : Below w.heap.size w w1 := (((Below.refl _ w).alloc (Nat.le_refl _) _).alloc (by simp) _).trans (hb.mono (by simp; omega))
  have hs1 : w.heap.size + 2 ≤ w1.heap.size := by have := hb.size; simp at this; omega
  obtain ⟨a0, a1, a2, a3, a4⟩ := Row5.cells B1
  have HB1 := hid B1
  have HB2 := hid B2
  have HB := hid hb'
  have H1 := hid (HH.out.below hb')
  clear hb hb' B1 B2
  obtain ⟨H, hH⟩ : ∃ H, H = w.heap.size := ⟨_, rfl⟩
  rw [← hH] at a0 a1 a2 a3 a4 hs1 HB1 HB2 ⊢
  have HEQ := hid hH
  clear hH
  go_wp2_with (at_builtin; refine wpList_clone rfl (.tmp 12) 28 rfl 30 i0 (.int .u32 0) 4 Try.underlying28 hi0 hz0 hz1 hz2 rfl R.a S.rl.length R.c ((natsI S.rl.reverse).map (Value.int .u32)) rfl (by simp [natsI]) ?hn ?hc (ints_one _ _) ?hm (by omega) ?_)
  case hn => intro h0; have := H1.out.st.2; by_cases hm : S.rl.length = 0; exact ⟨hm, (H1.out.s0 hm).2⟩; obtain ⟨b, off, hA, _⟩ := this (by omega); rw [h0] at hA; cases hA
  case hc => exact H1.out.st.src
  case hm => omega
  intro A2 c2 w2 hc2
  have HA2 := hid hc2.own
  have B1 := HB1.out.below hc2.low (by omega)
  have B2 := HB2.out.below hc2.low (by omega)
  have hs2 := hc2.low.size
  have hL2 := hid hc2.low
  clear hc2 a0 a1 a2 a3 a4 HB1 HB2
  go_wp2_with (at_builtin; refine wpList_append_lies _ rfl (.tmp 13) (.tmp 15) 28 rfl w1.heap.size 30 i0 (.int .u32 0) 1 4 Try.underlying28 hi0 hz0 hz1 hz2 rfl (by decide) (.slice A2 S.rl.length c2) S.rl.length _ rfl (HA2.out.alloc _) ⟨w2.heap.size, 0, none⟩ 1 1 [.int .u32 (i : Int)] rfl rfl (cell_one_new _ _ _) (by intro u hu; simp at hu; subst hu; rfl) (by omega) (by unfold maxLen; omega) (by omega) (by simp; omega) _ rfl ?_)
  intro g3 cap3 w3 hown3 hg3 hat3 hlt3
  have hb23 : Below w1.heap.size w2 w3 := ((Below.refl _ w2).alloc hs2 _).grown hg3 (by simp; omega) (fun k hk => (HA2.out.lt k hk).1)
  have hg31 : w1.heap.size ≤ g3 := (hown3.lt g3 rfl).1
  have hs3 := hb23.size
  have D1 := B1.below hb23 (by omega)
  have D2 := B2.below hb23 (by omega)
  have hb13 : Below w1.heap.size w1 w3 := hL2.out.trans hb23
  have H3 := hid (H1.out.below hb13)
  have HN3 : Hid (Nums .u32 (fun k => k < H + 2) w3 (some ⟨g3, 0, none⟩) (S.rl.length + 1) (natsI (S.release i).rl.reverse)) := by
    refine hid (Nums.own (zs := natsI (S.release i).rl.reverse) (g := g3) (base := w1.heap.size) (e := 30) (cap := cap3) ?_ (by omega))
    have e : (natsI (S.release i).rl.reverse).map (Value.int .u32) = (natsI S.rl.reverse).map (Value.int .u32) ++ [.int .u32 (i : Int)] := by simp [natsI, SS.release]
    rw [e]
    exact hown3
  have HR3 := hid (ownsRow_room hown3)
  have HB13 := hid hb13
  clear hown3 hg3 hat3 B1 B2 hb23 hb13
  obtain ⟨a0, a1, a2, a3, a4⟩ := Row5.cells D1
  obtain ⟨f0, f1, f2, f3, f4⟩ := Row5.frz D1
  have HD1 := hid D1
  have HD2 := hid D2
  clear D1 D2
  have hos : ∀ ad, (some ⟨R.ob, 0, none⟩ : Option Addr) = some ad → ∀ j u, ((List.range S.n).map fun j => Value.bool (S.on (j + 1)))[j]? = some u → (w3.setCell ⟨H, 1, none⟩ (.slice (some ⟨g3, 0, none⟩) (S.rl.length + 1) cap3)).cell? (ad.add j) = some u := by
    intro ad had j u hu
    injection had with had
    subst had
    simp at hu
    obtain ⟨x, hx, rfl⟩ := hu
    have hj := List.getElem?_eq_some_iff.1 hx
    obtain ⟨hj1, hj2⟩ := hj
    simp at hj1 hj2
    subst hj2
    rw [Addr.add_lit, Nat.zero_add, World.cell?_setCell_far _ _ _ _ (by show H ≠ R.ob; have := HH.out.ol; have := HEQ.out; omega)]
    exact H3.out.os j hj1
  have HOS := hid hos
  clear hos
  go_wp2_with (at_builtin; refine wpList_clone rfl (.tmp 19) 27 rfl 4 i1 (.bool false) 1 Try.underlying27 hi1 hy0 hy1 hy2 rfl (some ⟨R.ob, 0, none⟩) S.n R.oc ((List.range S.n).map fun j => Value.bool (S.on (j + 1))) rfl (by simp) (fun h => by cases h) HOS.out (by intro u hu; simp at hu; obtain ⟨j, _, rfl⟩ := hu; rfl) (by omega) (by omega) ?_)
  intro A4 c4 w4 hc4
  have hA4 := hc4.at_ (by omega)
  have hcr := hc4.row (by omega) (i - 1) (by omega)
  have hrow : ∀ j, j < S.n → w4.cell? ⟨w3.heap.size, j, none⟩ = some (.bool (S.on (j + 1))) := fun j hj => by
    have := (hc4.row (by omega) j hj).1
    rw [size_set] at this
    rw [this]; simp [List.getD, hj]
  have hL4 := hc4.low
  have hrm := hc4.room
  rw [size_set] at hA4 hcr hL4
  subst hA4
  have HL4 := hid hL4
  have HROW := hid hrow
  have ci := hcr.1
  have fi := hcr.2.1
  have hs4 := hcr.2.2
  have E1 := (HD1.out.set1 (.slice (some ⟨g3, 0, none⟩) (S.rl.length + 1) cap3)).below hL4 (by omega)
  have E2 := (HD2.out.other ⟨H, 1, none⟩ (by simp) (.slice (some ⟨g3, 0, none⟩) (S.rl.length + 1) cap3)).below hL4 (by omega)
  clear a0 a1 a2 a3 a4 f0 f1 f2 f3 f4 hc4 hcr hrow hL4
  obtain ⟨a0, a1, a2, a3, a4⟩ := Row5.cells E1
  obtain ⟨f0, f1, f2, f3, f4⟩ := Row5.frz E1
  obtain ⟨d0, d1, d2, d3, d4⟩ := Row5.cells E2
  obtain ⟨g0, g1, g2, g3', g4⟩ := Row5.frz E2
  clear E1 E2
  have e1 : ((i : Int) - 1) = ((i - 1 : Nat) : Int) := by omega
  go_wp2
  (try simp only [Exit.inBlock, Exit.then])
  have hgl := HH.out.gl
  have heq := HEQ.out
  refine bodyPost_ret (v := .tuple #[RL.val ⟨some ⟨g3, 0, none⟩, cap3, R.gb, R.gc, w3.heap.size, c4⟩ (S.release i), .int .i64 0]) ?_ rfl ⟨_, rfl, ?_⟩
  · unfold RL.val
    have hne : ¬ w3.heap.size = H + 1 := by omega
    have hne2 : ¬ H + 1 = w3.heap.size := by omega
    clear heq
    rw [results_cell_tmp1 rfl]
    go_simp
    exact ⟨rfl, rfl, rfl, rfl⟩
  · have hC : Chg (fun k => k = H ∨ k = H + 1) w3 w4 := ((Chg.refl _ w3).setCell (.inl (.inl rfl)) _).trans (Chg.of_below (F := Nil) (by rw [size_set]; exact HL4.out)) (fun _ h => h.elim)
    have hB4 : Below w.heap.size w w4 := ((HB.out.trans (HB13.out.mono (by omega))).setCell (by show w.heap.size ≤ H; omega) _).trans (HL4.out.mono (by omega))
    have hCC := (((((((hC.setCell (p := ⟨H, 4, none⟩) (.inl (.inl rfl)) (.slice (some ⟨w3.heap.size, 0, none⟩) S.n c4)).setCell (p := ⟨w3.heap.size, i - 1, none⟩) (.inr (Nat.le_refl _)) (.bool false)).setCell (p := ⟨H + 1, 0, none⟩) (.inl (.inr rfl)) (.int .i64 S.n)).setCell (p := ⟨H + 1, 1, none⟩) (.inl (.inr rfl)) (.slice (some ⟨g3, 0, none⟩) (S.rl.length + 1) cap3)).setCell (p := ⟨H + 1, 2, none⟩) (.inl (.inr rfl)) (.int .i64 (S.fresh + 1))).setCell (p := ⟨H + 1, 3, none⟩) (.inl (.inr rfl)) (.slice (some ⟨R.gb, 0, none⟩) S.n R.gc)).setCell (p := ⟨H + 1, 4, none⟩) (.inl (.inr rfl)) (.slice (some ⟨w3.heap.size, 0, none⟩) S.n c4))
    have hBB : Below w.heap.size w _ := (((((((hB4.setCell (p := ⟨H, 4, none⟩) (by show w.heap.size ≤ H; omega) (.slice (some ⟨w3.heap.size, 0, none⟩) S.n c4)).setCell (p := ⟨w3.heap.size, i - 1, none⟩) (by show w.heap.size ≤ w3.heap.size; omega) (.bool false)).setCell (p := ⟨H + 1, 0, none⟩) (by show w.heap.size ≤ H + 1; omega) (.int .i64 S.n)).setCell (p := ⟨H + 1, 1, none⟩) (by show w.heap.size ≤ H + 1; omega) (.slice (some ⟨g3, 0, none⟩) (S.rl.length + 1) cap3)).setCell (p := ⟨H + 1, 2, none⟩) (by show w.heap.size ≤ H + 1; omega) (.int .i64 (S.fresh + 1))).setCell (p := ⟨H + 1, 3, none⟩) (by show w.heap.size ≤ H + 1; omega) (.slice (some ⟨R.gb, 0, none⟩) S.n R.gc)).setCell (p := ⟨H + 1, 4, none⟩) (by show w.heap.size ≤ H + 1; omega) (.slice (some ⟨w3.heap.size, 0, none⟩) S.n c4))
    have hold := HH.out.below hBB
    refine ⟨⟨HN3.out.keep hCC (fun k hk => by show k < H + 2; omega) (fun k hk => .inl (by have := HF.out k hk; show k < H + 2; omega)), fun h0 => by simp [SS.release] at h0, HR3.out, hold.gl, hold.gF, hold.gs, hgc, by simp; omega, fun hf => by have : w3.heap.size < w.heap.size := HF.out _ hf; omega, fun j hj => ?_, hrm⟩, hBB⟩
    have hj' : j < S.n := hj
    show World.cell? _ ⟨w3.heap.size, j, none⟩ = _
    have hne : H + 1 ≠ w3.heap.size := by omega
    rw [World.cell?_setCell_far _ _ _ _ hne, World.cell?_setCell_far _ _ _ _ hne, World.cell?_setCell_far _ _ _ _ hne, World.cell?_setCell_far _ _ _ _ hne, World.cell?_setCell_far _ _ _ _ hne]
    have hn4 : (w4.setCell ⟨H, 4, none⟩ (.slice (some ⟨w3.heap.size, 0, none⟩) S.n c4)).cell? ⟨w3.heap.size, j, none⟩ = some (.bool (S.on (j + 1))) := by
      rw [World.cell?_setCell_far _ _ _ _ (by show H ≠ w3.heap.size; omega)]
      exact HROW.out j hj'
    by_cases hji : j = i - 1
    · subst hji
      rw [World.cell?_setCell_same _ _ _ hn4]
      have e : i - 1 + 1 = i := by omega
      simp [SS.release, e]
    · rw [World.cell?_setCell_other _ _ _ _ (by simp <;> omega), hn4]
      simp [SS.release, show j + 1 ≠ i by omega]
end
end Go.Proofs.Ytbmamikhjfieoaa
