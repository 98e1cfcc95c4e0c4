/-
  THE CONTRACTS OF versionmapref4's Table, continued: Close.
-/
import Derived.Test.YtbmamikhjfieoaaRtr
namespace Go.Proofs.Ytbmamikhjfieoaa
open Go.RowKit

section
variable {F : Nat → Prop} {w : World} {Q : RTL} {S : SS} {v : Nat → Int}

set_option maxRecDepth 100000 in
set_option maxHeartbeats 1000000 in
theorem ref_close_no (h : Nat) (hR : RTAt F w Q S v) (hw : S.wf) (hh : h ≤ 18446744073709551615) (ho : S.op h = false) :
    Calls Try.prog 45 #[Q.val S, .int .u64 (h : Int)] w fun e w' => e = .returned (.tuple #[Q.val S, .int .u32 0, .int .i64 5]) ∧ Below w.heap.size w w' := by
  have HR := hid hR
  have HW := hid hw
  have HO := hid ho
  clear hR hw ho
  unfold RTL.val
  go_enter Try.func45, Try.ntmps45
  go_wp2_with fail
  refine (ref_entry_no h (HR.out.below (((Below.refl _ w).alloc (Nat.le_refl _) _).alloc (by simp) _)) HW.out hh HO.out).mono ?_
  rintro e w1 ⟨rfl, hb⟩
  have B1 : Row6 w1 w.heap.size _ _ _ _ _ _ := (hb.block _ (by simp; omega)).trans (heap_alloc2_old w _ _)
  have B2 : Row6 w1 (w.heap.size + 1) _ _ _ _ _ _ := (hb.block _ (by simp)).trans (heap_alloc2_new w _ _)
  have hbb : Below w.heap.size w w1 := (((Below.refl _ w).alloc (Nat.le_refl _) _).alloc (by simp) _).trans (hb.mono (by simp; omega))
  obtain ⟨a0, a1, a2, a3, a4, a5⟩ := B1.cells
  obtain ⟨b0, b1, b2, b3, b4, b5⟩ := B2.cells
  obtain ⟨f0, f1, f2, f3, f4, f5⟩ := B2.frz
  have HB := hid hbb
  clear hb hbb B1 B2
  go_wp2
  (try simp only [Exit.inBlock, Exit.then])
  refine bodyPost_ret (v := .tuple #[RTL.val Q S, .int .u32 0, .int .i64 5]) ?_ rfl ⟨rfl, ?_⟩
  · unfold RTL.val
    rw [results_cell_tmp2 rfl]
    go_simp
  · exact (((((HB.out.setCell (by simp) _).setCell (by simp) _).setCell (by simp) _).setCell (by simp) _).setCell (by simp) _).setCell (by simp) _

set_option maxRecDepth 100000 in
set_option maxHeartbeats 2000000 in
theorem ref_close (h : Nat) (hR : RTAt F w Q S v) (hw : S.wf) (hF : ∀ k, F k → k < w.heap.size) (hh : h ≤ 18446744073709551615) (ho : S.op h = true) :
    Calls Try.prog 45 #[Q.val S, .int .u64 (h : Int)] w fun e w' => ∃ Q' : RTL, e = .returned (.tuple #[Q'.val (S.release (ent h)), .int .u32 (v (ent h)), .int .i64 0]) ∧ RTAt F w' Q' (S.release (ent h)) v ∧ Below w.heap.size w w' := by
  have hon := hw.on _ (SS.op_on ho).1
  have hfr := hw.fr
  have hn2 := hw.n2
  have hvc := hR.vc
  have hvl := hR.vl
  have HR := hid hR
  have HW := hid hw
  have HO := hid ho
  have HF := hid hF
  have HON := hid (SS.op_on ho).1
  have HVS : Hid (∀ w', Below w.heap.size w w' → w'.cell? ⟨Q.vb, ent h - 1, none⟩ = some (.int .u32 (v (ent h)))) := hid fun w' hb => by
    have := (hR.below hb).vs (ent h - 1) (by omega)
    rw [show ent h - 1 + 1 = ent h by omega] at this
    exact this
  obtain ⟨x, hx⟩ : ∃ x, x = v (ent h) := ⟨_, rfl⟩
  rw [← hx] at HVS ⊢
  obtain ⟨i, hi'⟩ : ∃ i, i = ent h := ⟨_, rfl⟩
  have HI := hid hi'
  rw [← hi'] at hon HON HVS ⊢
  have e1 : ((i : Int) - 1) = ((i - 1 : Nat) : Int) := by omega
  have i0' : ((i : Int) == 0) = false := by simp; omega
  clear hR hw ho hi' hF hx
  unfold RTL.val
  go_enter Try.func45, Try.ntmps45
  go_wp2_with fail
  refine (ref_entry_yes h (HR.out.below (((Below.refl _ w).alloc (Nat.le_refl _) _).alloc (by simp) _)) HW.out hh HO.out).mono ?_
  rintro e w1 ⟨rfl, hb⟩
  rw [← HI.out]
  have B1 : Row6 w1 w.heap.size _ _ _ _ _ _ := (hb.block _ (by simp; omega)).trans (heap_alloc2_old w _ _)
  have B2 : Row6 w1 (w.heap.size + 1) _ _ _ _ _ _ := (hb.block _ (by simp)).trans (heap_alloc2_new w _ _)
  have hbb : Below w.heap.size w w1 := (((Below.refl _ w).alloc (Nat.le_refl _) _).alloc (by simp) _).trans (hb.mono (by simp; omega))
  have hs1 : w.heap.size + 2 ≤ w1.heap.size := by have := hb.size; simp at this; omega
  obtain ⟨a0, a1, a2, a3, a4, a5⟩ := B1.cells
  have HB1 := hid B1
  have HB2 := hid B2
  have HB := hid hbb
  have HR1 : Hid (RAt (fun k => F k ∨ k = w.heap.size ∨ k = w.heap.size + 1) w1 Q.R S) := hid (HR.out.r.keep (Chg.of_below (F := Nil) hbb) (fun _ h => h.elim) (fun k hk => hk.imp id (fun h => by omega)))
  have HF1 : Hid (∀ k, (F k ∨ k = w.heap.size ∨ k = w.heap.size + 1) → k < w1.heap.size) := hid (fun k hk => by
    rcases hk with hk | hk
    · exact Nat.lt_of_lt_of_le (HF.out k hk) hbb.size
    · omega)
  clear hb hbb B1 B2
  go_wp2_with fail
  refine (ref_release (R := Q.R) i HR1.out HW.out HF1.out HON.out).mono ?_
  rintro e w2 ⟨R', rfl, hR2, hb2⟩
  obtain ⟨T, hT⟩ : ∃ T, T = S.release i := ⟨_, rfl⟩
  have HTN := hid (show T.n = S.n by rw [hT]; rfl)
  have HTF := hid (show T.fresh = S.fresh by rw [hT]; rfl)
  rw [← hT] at hR2 ⊢
  have HT := hid hT
  have HR2 := hid hR2
  have HBB := hid (HB.out.trans (hb2.mono (by omega)))
  have hs2 := hb2.size
  have hbx : Below w2.heap.size w2 (w2.alloc (.cells #[.int .i64 (T.n : Int), .slice R'.a T.rl.length R'.c, .int .i64 ((T.fresh : Int) + 1), .slice (some ⟨R'.gb, 0, none⟩) T.n R'.gc, .slice (some ⟨R'.ob, 0, none⟩) T.n R'.oc] 42)) := (Below.refl _ _).alloc (Nat.le_refl _) _
  have E1 := (HB1.out.below hb2 (by omega)).below hbx (by omega)
  have E2 := (HB2.out.below hb2 (by omega)).below hbx (by omega)
  have HBX := hid hbx
  have HBXX := hid (HBB.out.trans (hbx.mono HBB.out.size))
  clear a0 a1 a2 a3 a4 a5 hT hR2 hb2 hbx
  have cv := HVS.out _ HBXX.out
  obtain ⟨a0, a1, a2, a3, a4, a5⟩ := E1.cells
  obtain ⟨f0, f1, f2, f3, f4, f5⟩ := E1.frz
  obtain ⟨d0, d1, d2, d3, d4, d5⟩ := E2.cells
  obtain ⟨g0, g1, g2, g3, g4, g5⟩ := E2.frz
  obtain ⟨H, hH⟩ : ∃ H, H = w.heap.size := ⟨_, rfl⟩
  rw [← hH] at a0 a1 a2 a3 a4 a5 f0 f1 f2 f3 f4 f5 d0 d1 d2 d3 d4 d5 g0 g1 g2 g3 g4 g5 hs1 hvl ⊢
  have HEQ := hid hH
  have n1 : ¬ Q.vb = H := by omega
  have n2 : ¬ H = Q.vb := by omega
  have n3 : ¬ Q.vb = H + 1 := by omega
  have n4 : ¬ H + 1 = Q.vb := by omega
  clear hH E1 E2
  unfold RL.val
  go_wp2_with fail
  go_region
  all_goals go_wp2
  all_goals (try simp only [Exit.inBlock, Exit.then])
  all_goals
    refine bodyPost_ret (v := .tuple #[.agg #[.int .i64 (T.n : Int), .slice R'.a T.rl.length R'.c, .int .i64 ((T.fresh : Int) + 1), .slice (some ⟨R'.gb, 0, none⟩) T.n R'.gc, .slice (some ⟨R'.ob, 0, none⟩) T.n R'.oc, .slice (some ⟨Q.vb, 0, none⟩) S.n Q.vc], .int .u32 x, .int .i64 0]) ?_ rfl ⟨⟨R', Q.vb, Q.vc⟩, by rw [HT.out]; rfl, ?_⟩
    · rw [results_cell_tmp2 rfl]
      go_simp
    · have heq := HEQ.out
      have hC0 := (Chg.refl (fun k => k = H ∨ k = H + 1) w2).alloc (.cells #[.int .i64 (T.n : Int), .slice R'.a T.rl.length R'.c, .int .i64 ((T.fresh : Int) + 1), .slice (some ⟨R'.gb, 0, none⟩) T.n R'.gc, .slice (some ⟨R'.ob, 0, none⟩) T.n R'.oc] 42)
      have hC1 := ((((hC0.setCell (p := ⟨H, 0, none⟩) (.inl (.inl rfl)) (.int .i64 T.n)).setCell (p := ⟨H, 1, none⟩) (.inl (.inl rfl)) (.slice R'.a T.rl.length R'.c)).setCell (p := ⟨H, 2, none⟩) (.inl (.inl rfl)) (.int .i64 (T.fresh + 1))).setCell (p := ⟨H, 3, none⟩) (.inl (.inl rfl)) (.slice (some ⟨R'.gb, 0, none⟩) T.n R'.gc)).setCell (p := ⟨H, 4, none⟩) (.inl (.inl rfl)) (.slice (some ⟨R'.ob, 0, none⟩) T.n R'.oc)
      have hC2 := (((((hC1.setCell (p := ⟨H + 1, 0, none⟩) (.inl (.inr rfl)) (.int .i64 T.n)).setCell (p := ⟨H + 1, 1, none⟩) (.inl (.inr rfl)) (.slice R'.a T.rl.length R'.c)).setCell (p := ⟨H + 1, 2, none⟩) (.inl (.inr rfl)) (.int .i64 (T.fresh + 1))).setCell (p := ⟨H + 1, 3, none⟩) (.inl (.inr rfl)) (.slice (some ⟨R'.gb, 0, none⟩) T.n R'.gc)).setCell (p := ⟨H + 1, 4, none⟩) (.inl (.inr rfl)) (.slice (some ⟨R'.ob, 0, none⟩) T.n R'.oc)).setCell (p := ⟨H + 1, 5, none⟩) (.inl (.inr rfl)) (.slice (some ⟨Q.vb, 0, none⟩) S.n Q.vc)
      have hCE := hC2.drew
      have hBE := HBB.out.trans ((hCE.below (B := w.heap.size) HBB.out.size (fun k hk => by rcases hk with hk | hk <;> omega)))
      have hr := HR2.out.keep (F' := F) hCE (fun k hk => .inr (by rcases hk with hk | hk <;> omega)) (fun k hk => .inl (.inl hk))
      have hold := HR.out.below hBE
      exact ⟨⟨by rw [← HT.out]; exact hr, hold.vl, hold.vF, hold.vs, hold.vc⟩, hBE⟩
end
end Go.Proofs.Ytbmamikhjfieoaa
