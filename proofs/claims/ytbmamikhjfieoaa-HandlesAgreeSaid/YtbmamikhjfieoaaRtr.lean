/-
  THE CONTRACTS OF versionmapref4's Table, continued: Replace of an open handle.
-/
import Derived.Test.YtbmamikhjfieoaaRtl
namespace Go.Proofs.Ytbmamikhjfieoaa
open Go.RowKit

section
variable {F : Nat → Prop} {w : World} {Q : RTL} {S : SS} {v : Nat → Int}

theorem RTAt.vsrc (h : RTAt F w Q S v) {w' : World} (hb : ∀ j, j < S.n → w'.cell? ⟨Q.vb, j, none⟩ = w.cell? ⟨Q.vb, j, none⟩) :
    ∀ ad, (some ⟨Q.vb, 0, none⟩ : Option Addr) = some ad → ∀ j u, ((List.range S.n).map fun j => Value.int .u32 (v (j + 1)))[j]? = some u → w'.cell? (ad.add j) = some u := by
  intro ad had j u hu
  injection had with had
  subst had
  simp at hu
  obtain ⟨x, hx, rfl⟩ := hu
  obtain ⟨hj1, hj2⟩ := List.getElem?_eq_some_iff.1 hx
  simp at hj1 hj2
  subst hj2
  rw [Addr.add_lit, Nat.zero_add, hb j hj1]
  exact h.vs j hj1

set_option maxRecDepth 100000 in
set_option maxHeartbeats 2000000 in
theorem ref_replace (h : Nat) (x : Int) (hR : RTAt F w Q S v) (hw : S.wf) (hF : ∀ k, F k → k < w.heap.size) (hh : h ≤ 18446744073709551615) (ho : S.op h = true) :
    Calls Try.prog 44 #[Q.val S, .int .u64 (h : Int), .int .u32 x] w fun e w' => ∃ Q' : RTL, e = .returned (.tuple #[Q'.val S, .int .i64 0]) ∧ RTAt F w' Q' S (upd v (ent h) x) ∧ Below w.heap.size w w' := by
  obtain ⟨i0, hi0, hz0, hz1, hz2⟩ := info_parts info30
  have hon := hw.on _ (SS.op_on ho).1
  have hfr := hw.fr
  have hn2 := hw.n2
  have hvc := hR.vc
  have HR := hid hR
  have HW := hid hw
  have HO := hid ho
  have HF := hid hF
  obtain ⟨i, hi'⟩ : ∃ i, i = ent h := ⟨_, rfl⟩
  have HI := hid hi'
  rw [← hi'] at hon ⊢
  have e1 : ((i : Int) - 1) = ((i - 1 : Nat) : Int) := by omega
  have i0' : ((i : Int) == 0) = false := by simp; omega
  clear hR hw ho hi' hF
  unfold RTL.val
  go_enter Try.func44, Try.ntmps44
  go_wp2_with fail
  refine (ref_entry_yes h (HR.out.below (((Below.refl _ w).alloc (Nat.le_refl _) _).alloc (by simp) _)) HW.out hh HO.out).mono ?_
  rintro e w1 ⟨rfl, hb⟩
  rw [← HI.out]
  have B1 : Row6 w1 w.heap.size _ _ _ _ _ _ := (hb.block _ (by simp; omega)).trans (heap_alloc2_old w _ _)
  have B2 : Row6 w1 (w.heap.size + 1) _ _ _ _ _ _ := (hb.block _ (by simp)).trans (heap_alloc2_new w _ _)
  have hbb : Below w.heap.size w w1 := (((Below.refl _ w).alloc (Nat.le_refl _) _).alloc (by simp) _).trans (hb.mono (by simp; omega))
  have hs1 : w.heap.size + 2 ≤ w1.heap.size := by have := hb.size; simp at this; omega
  obtain ⟨a0, a1, a2, a3, a4, a5⟩ := B1.cells
  have HB1 := hid B1
  have HB2 := hid B2
  have HB := hid hbb
  have HR1 := hid (HR.out.below hbb)
  have HSRC := hid (HR1.out.vsrc (w' := w1) (fun _ _ => rfl))
  clear hb hbb B1 B2
  obtain ⟨H, hH⟩ : ∃ H, H = w.heap.size := ⟨_, rfl⟩
  rw [← hH] at a0 a1 a2 a3 a4 a5 hs1 HB1 HB2 ⊢
  have HEQ := hid hH
  clear hH
  go_wp2_with (at_builtin; refine wpList_clone rfl (.tmp 16) 28 rfl 30 i0 (.int .u32 0) 4 Try.underlying28 hi0 hz0 hz1 hz2 rfl (some ⟨Q.vb, 0, none⟩) S.n Q.vc ((List.range S.n).map fun j => Value.int .u32 (v (j + 1))) rfl (by simp) (fun h => by cases h) HSRC.out (by intro u hu; simp at hu; obtain ⟨j, _, rfl⟩ := hu; rfl) (by omega) (by omega) ?_)
  intro A4 c4 w4 hc4
  have hA4 := hc4.at_ (by omega)
  have hcr := hc4.row (by omega) (i - 1) (by omega)
  have hrow : ∀ j, j < S.n → w4.cell? ⟨w1.heap.size, j, none⟩ = some (.int .u32 (v (j + 1))) := fun j hj => by
    have := (hc4.row (by omega) j hj).1
    rw [this]; simp [List.getD, hj]
  have hL4 := hc4.low
  have hrm := hc4.room
  subst hA4
  have HL4 := hid hL4
  have HROW := hid hrow
  have ci := hcr.1
  have fi := hcr.2.1
  have hs4 := hcr.2.2
  have E1 := HB1.out.below hL4 (by omega)
  have E2 := HB2.out.below hL4 (by omega)
  clear a0 a1 a2 a3 a4 a5 hc4 hcr hrow hL4
  obtain ⟨a0, a1, a2, a3, a4, a5⟩ := E1.cells
  obtain ⟨f0, f1, f2, f3, f4, f5⟩ := E1.frz
  obtain ⟨d0, d1, d2, d3, d4, d5⟩ := E2.cells
  obtain ⟨g0, g1, g2, g3, g4, g5⟩ := E2.frz
  clear E1 E2
  go_wp2
  (try simp only [Exit.inBlock, Exit.then])
  have heq := HEQ.out
  refine bodyPost_ret (v := .tuple #[RTL.val ⟨Q.R, w1.heap.size, c4⟩ S, .int .i64 0]) ?_ rfl ⟨_, rfl, ?_⟩
  · unfold RTL.val
    have hne : ¬ w1.heap.size = H + 1 := by omega
    have hne2 : ¬ H + 1 = w1.heap.size := by omega
    clear heq
    rw [results_cell_tmp1 rfl]
    go_simp
  · have hB4 : Below w.heap.size w w4 := HB.out.trans (HL4.out.mono (by omega))
    have hB5 := ((((((((hB4.setCell (p := ⟨H, 5, none⟩) (by show w.heap.size ≤ H; omega) (.slice (some ⟨w1.heap.size, 0, none⟩) S.n c4)).setCell (p := ⟨w1.heap.size, i - 1, none⟩) (by show w.heap.size ≤ w1.heap.size; omega) (.int .u32 x)).setCell (p := ⟨H + 1, 0, none⟩) (by show w.heap.size ≤ H + 1; omega) (.int .i64 S.n)).setCell (p := ⟨H + 1, 1, none⟩) (by show w.heap.size ≤ H + 1; omega) (.slice Q.R.a S.rl.length Q.R.c)).setCell (p := ⟨H + 1, 2, none⟩) (by show w.heap.size ≤ H + 1; omega) (.int .i64 (S.fresh + 1))).setCell (p := ⟨H + 1, 3, none⟩) (by show w.heap.size ≤ H + 1; omega) (.slice (some ⟨Q.R.gb, 0, none⟩) S.n Q.R.gc)).setCell (p := ⟨H + 1, 4, none⟩) (by show w.heap.size ≤ H + 1; omega) (.slice (some ⟨Q.R.ob, 0, none⟩) S.n Q.R.oc)).setCell (p := ⟨H + 1, 5, none⟩) (by show w.heap.size ≤ H + 1; omega) (.slice (some ⟨w1.heap.size, 0, none⟩) S.n c4))
    have hold := HR.out.below hB5
    refine ⟨⟨hold.r, ?_, fun hf => ?_, fun j hj => ?_, hrm⟩, hB5⟩
    · simp only [size_set]; exact hs4
    · have : w1.heap.size < w.heap.size := HF.out _ hf
      omega
    · show World.cell? _ ⟨w1.heap.size, j, none⟩ = _
      have hne : H + 1 ≠ w1.heap.size := by omega
      rw [World.cell?_setCell_far _ _ _ _ hne, World.cell?_setCell_far _ _ _ _ hne, World.cell?_setCell_far _ _ _ _ hne, World.cell?_setCell_far _ _ _ _ hne, World.cell?_setCell_far _ _ _ _ hne, World.cell?_setCell_far _ _ _ _ hne]
      have hn4 : ∀ j, j < S.n → (w4.setCell ⟨H, 5, none⟩ (.slice (some ⟨w1.heap.size, 0, none⟩) S.n c4)).cell? ⟨w1.heap.size, j, none⟩ = some (.int .u32 (v (j + 1))) := fun j hj => by
        rw [World.cell?_setCell_far _ _ _ _ (by show H ≠ w1.heap.size; omega)]
        exact HROW.out j hj
      by_cases hji : j = i - 1
      · subst hji
        rw [World.cell?_setCell_same _ _ _ (hn4 _ hj)]
        have e : i - 1 + 1 = i := by omega
        rw [e]; simp [upd]
      · rw [World.cell?_setCell_other _ _ _ _ (by simp <;> omega), hn4 j hj]
        simp [upd, show j + 1 ≠ i by omega]
end
end Go.Proofs.Ytbmamikhjfieoaa
