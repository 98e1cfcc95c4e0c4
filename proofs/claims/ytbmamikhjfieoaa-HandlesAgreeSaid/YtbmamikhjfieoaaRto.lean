/-
  THE CONTRACTS OF versionmapref4's Table, continued: Open.
-/
import Derived.Test.YtbmamikhjfieoaaRtc
import Derived.Deep.RegionLaw
import Derived.Deep.RegionHeld3
namespace Go.Proofs.Ytbmamikhjfieoaa
open Go.RowKit

section
variable {F : Nat → Prop} {w : World} {Q : RTL} {S : SS} {v : Nat → Int}

set_option maxRecDepth 100000 in
set_option maxHeartbeats 1000000 in
theorem ref_open_full (x : Int) (hR : RTAt F w Q S v) (hw : S.wf) (hf : S.free = 0) :
    Calls Try.prog 46 #[Q.val S, .int .u32 x] w fun e w' => e = .returned (.tuple #[Q.val S, .int .u64 0, .int .i64 2]) ∧ Below w.heap.size w w' := by
  have HR := hid hR
  have HW := hid hw
  have HF := hid hf
  clear hR hw hf
  unfold RTL.val
  go_enter Try.func46, Try.ntmps46
  go_wp2_with fail
  refine (ref_alloc_full (R := Q.R) (HR.out.r.below (((Below.refl _ w).alloc (Nat.le_refl _) _).alloc (by simp) _)) HW.out HF.out).mono ?_
  rintro e w1 ⟨rfl, hb⟩
  have hbx : Below w1.heap.size w1 (w1.alloc (.cells #[.int .i64 (S.n : Int), .slice Q.R.a S.rl.length Q.R.c, .int .i64 ((S.fresh : Int) + 1), .slice (some ⟨Q.R.gb, 0, none⟩) S.n Q.R.gc, .slice (some ⟨Q.R.ob, 0, none⟩) S.n Q.R.oc] 42)) := (Below.refl _ _).alloc (Nat.le_refl _) _
  have hs1 : w.heap.size + 2 ≤ w1.heap.size := by have := hb.size; simp at this; omega
  have B1 : Row6 w1 w.heap.size _ _ _ _ _ _ := (hb.block _ (by simp; omega)).trans (heap_alloc2_old w _ _)
  have B2 : Row6 w1 (w.heap.size + 1) _ _ _ _ _ _ := (hb.block _ (by simp)).trans (heap_alloc2_new w _ _)
  have E1 := B1.below hbx (by omega)
  have E2 := B2.below hbx (by omega)
  have hbb : Below w.heap.size w w1 := (((Below.refl _ w).alloc (Nat.le_refl _) _).alloc (by simp) _).trans (hb.mono (by simp; omega))
  obtain ⟨a0, a1, a2, a3, a4, a5⟩ := E1.cells
  obtain ⟨b0, b1, b2, b3, b4, b5⟩ := E2.cells
  obtain ⟨f0, f1, f2, f3, f4, f5⟩ := E2.frz
  have HB := hid (hbb.trans (hbx.mono hbb.size))
  clear hb hbb B1 B2 E1 E2 hbx
  unfold RL.val
  go_wp2
  (try simp only [Exit.inBlock, Exit.then])
  refine bodyPost_ret (v := .tuple #[RTL.val Q S, .int .u64 0, .int .i64 2]) ?_ rfl ⟨rfl, ?_⟩
  · unfold RTL.val
    rw [results_cell_tmp2 rfl]
    go_simp
  · exact (((((HB.out.setCell (by simp) _).setCell (by simp) _).setCell (by simp) _).setCell (by simp) _).setCell (by simp) _).setCell (by simp) _

set_option maxRecDepth 100000 in
set_option maxHeartbeats 4000000 in
theorem ref_open (x : Int) (hR : RTAt F w Q S v) (hw : S.wf) (hF : ∀ k, F k → k < w.heap.size) (hf : 0 < S.free) :
    Calls Try.prog 46 #[Q.val S, .int .u32 x] w fun e w' => ∃ Q' : RTL, e = .returned (.tuple #[Q'.val S.alloc, .int .u64 ((S.alloc.hdl S.next : Nat) : Int), .int .i64 0]) ∧ RTAt F w' Q' S.alloc (upd v S.next x) ∧ Below w.heap.size w w' := by
  obtain ⟨i0, hi0, hz0, hz1, hz2⟩ := info_parts info30
  have hno := hw.next_ok hf
  have hn1 := hw.n1
  have hn2 := hw.n2
  have hvc := hR.vc
  have hvl := hR.vl
  have HR := hid hR
  have HW := hid hw
  have HFR := hid hf
  have HF := hid hF
  have HW2 := hid (hw.alloc hf)
  have hg := (hw.alloc hf).g0 S.next
  obtain ⟨i, hi'⟩ : ∃ i, i = S.next := ⟨_, rfl⟩
  have HI := hid hi'
  rw [← hi'] at hno hg ⊢
  have hi1 := hno.1
  have hi2 := hno.2.1
  obtain ⟨gx, hgx⟩ : ∃ gx, gx = S.alloc.gen i := ⟨_, rfl⟩
  rw [← hgx] at hg
  have HGX := hid hgx
  have HD := hid (show ((S.alloc.hdl i : Nat) : Int) = gx * 4294967296 + (i : Int) by rw [hgx] at hg ⊢; unfold SS.hdl; omega)
  rw [HD.out]
  have e1 : ((i : Int) - 1) = ((i - 1 : Nat) : Int) := by omega
  clear hR hw hf hi' hF hno hgx
  unfold RTL.val
  go_enter Try.func46, Try.ntmps46
  go_wp2_with fail
  have h0b : Below w.heap.size w ((w.alloc (.cells #[.int .i64 (S.n : Int), .slice Q.R.a S.rl.length Q.R.c, .int .i64 ((S.fresh : Int) + 1), .slice (some ⟨Q.R.gb, 0, none⟩) S.n Q.R.gc, .slice (some ⟨Q.R.ob, 0, none⟩) S.n Q.R.oc, .slice (some ⟨Q.vb, 0, none⟩) S.n Q.vc] 74)).alloc (.cells #[.int .i64 0, .slice none 0 0, .int .i64 0, .slice none 0 0, .slice none 0 0, .slice none 0 0] 74)) := ((Below.refl _ w).alloc (Nat.le_refl _) _).alloc (by simp) _
  have hR1 : RAt (fun k => F k ∨ k = w.heap.size ∨ k = w.heap.size + 1) _ Q.R S := HR.out.r.keep (Chg.of_below (F := Nil) h0b) (fun _ h => h.elim) (fun k hk => hk.imp id (fun h => by omega))
  refine (ref_alloc (R := Q.R) hR1 HW.out (fun k hk => by
    rcases hk with hk | hk
    · have := HF.out k hk; simp; omega
    · simp; omega) HFR.out).mono ?_
  rintro e w2 ⟨R', rfl, hR2, hb⟩
  rw [← HI.out]
  obtain ⟨T, hT⟩ : ∃ T, T = S.alloc := ⟨_, rfl⟩
  rw [← hT] at hR2 ⊢
  have HTN := hid (show T.n = S.n by rw [hT]; exact S.alloc_n)
  have HT := hid hT
  have HR2 := hid hR2
  have hbb : Below w.heap.size w w2 := h0b.trans (hb.mono (by simp; omega))
  have hs2 : w.heap.size + 2 ≤ w2.heap.size := by have := hb.size; simp at this; omega
  have B1 : Row6 w2 w.heap.size _ _ _ _ _ _ := (hb.block _ (by simp; omega)).trans (heap_alloc2_old w _ _)
  have B2 : Row6 w2 (w.heap.size + 1) _ _ _ _ _ _ := (hb.block _ (by simp)).trans (heap_alloc2_new w _ _)
  have HB1 := hid B1
  have HB2 := hid B2
  have HB := hid hbb
  clear hT hR2 hR1 h0b hb hbb B1 B2
  unfold RL.val
  go_wp2_with fail
  obtain ⟨X, hX⟩ : ∃ X, X = w2.alloc (.cells #[.int .i64 (T.n : Int), .slice R'.a T.rl.length R'.c, .int .i64 ((T.fresh : Int) + 1), .slice (some ⟨R'.gb, 0, none⟩) T.n R'.gc, .slice (some ⟨R'.ob, 0, none⟩) T.n R'.oc] 42) := ⟨_, rfl⟩
  rw [← hX]
  have hxb : Below w2.heap.size w2 X := by rw [hX]; exact (Below.refl _ _).alloc (Nat.le_refl _) _
  have HX1 := hid (HB1.out.below hxb (by omega))
  have HX2 := hid (HB2.out.below hxb (by omega))
  have HXP : Hid (Row5 X w2.heap.size (.int .i64 (T.n : Int)) (.slice R'.a T.rl.length R'.c) (.int .i64 ((T.fresh : Int) + 1)) (.slice (some ⟨R'.gb, 0, none⟩) T.n R'.gc) (.slice (some ⟨R'.ob, 0, none⟩) T.n R'.oc)) := hid (by rw [hX]; exact heap_alloc_new w2 _)
  have hsx : X.heap.size = w2.heap.size + 1 := by rw [hX]; simp
  have HBX := hid (HB.out.trans (hxb.mono HB.out.size))
  have HRX := hid (HR2.out.below hxb)
  obtain ⟨H, hH⟩ : ∃ H, H = w.heap.size := ⟨_, rfl⟩
  obtain ⟨p, hp⟩ : ∃ p, p = w2.heap.size := ⟨_, rfl⟩
  rw [← hH] at HX1 HX2 hs2 hvl ⊢
  rw [← hp] at HXP hs2 hsx ⊢
  have HEQ := hid hH
  have HPQ := hid hp
  clear hX hxb hH hp HB1 HB2
  obtain ⟨a0, a1, a2, a3, a4, a5⟩ := HX1.out.cells
  obtain ⟨f0, f1, f2, f3, f4, f5⟩ := HX1.out.frz
  obtain ⟨p0, p1, p2, p3, p4⟩ := HXP.out.cells
  have HSRC : Hid (∀ W', Below X.heap.size X W' → ∀ j u, ((List.range S.n).map fun j => Value.int .u32 (v (j + 1)))[j]? = some u → W'.cell? ((⟨Q.vb, 0, none⟩ : Addr).add j) = some u) := hid fun W' hb => (HR.out.below HBX.out).vsrc (w' := W') (fun j _ => hb.cell (p := ⟨Q.vb, j, none⟩) (by show Q.vb < X.heap.size; omega)) _ rfl
  go_region_law (refine step_append_lies _ rfl (.const (.slice none 0 0)) (.tmp 23) 28 rfl X.heap.size 30 i0 (.int .u32 0) 1 4 Try.underlying28 hi0 hz0 hz1 hz2 rfl (by decide) (.slice none 0 0) 0 [] rfl (World.ownsRow_nil _ _ _ _) ⟨Q.vb, 0, none⟩ S.n Q.vc ((List.range S.n).map fun j => Value.int .u32 (v (j + 1))) (by simp [Act.eval, Act.put]) (by simp) (HSRC.out _ (by first | exact (Below.refl _ _).drew | exact Below.refl _ _)) (by intro u hu; simp at hu; obtain ⟨j, _, rfl⟩ := hu; rfl) (by omega) (by omega) (by omega) (by first | exact Nat.le_refl _ | simp) _ rfl ?_; intro gA cA wA hownA hgA hatA hltA; have EA := hid (hatA.resolve_left (by simp [Value.ownBlock])); have LA := grown_new hgA; have BA : Below X.heap.size X wA := (by first | exact (Below.refl _ _).drew | exact Below.refl _ _ : Below X.heap.size X _).trans (LA.mono (by first | exact Nat.le_refl _ | simp)); rw [Nat.zero_add, List.nil_append] at hownA; have RA := hid (own_row hownA (by omega)); rw [Nat.zero_add]; have q1 := HX1.out.below BA (by omega); have q2 := HXP.out.below BA (by omega); clear a0 a1 a2 a3 a4 a5 f0 f1 f2 f3 f4 f5 p0 p1 p2 p3 p4; obtain ⟨a0, a1, a2, a3, a4, a5⟩ := q1.cells; obtain ⟨f0, f1, f2, f3, f4, f5⟩ := q1.frz; obtain ⟨p0, p1, p2, p3, p4⟩ := q2.cells; have HQ1 := hid q1; have HQ2 := hid q2; have HBA := hid BA; clear hownA hgA hatA LA q1 q2 BA)
  all_goals (
    obtain ⟨y, hy⟩ : ∃ y, y = (((((wA.setCell ⟨H, 0, none⟩ (.int .i64 (T.n : Int))).setCell ⟨H, 1, none⟩ (.slice R'.a T.rl.length R'.c)).setCell ⟨H, 2, none⟩ (.int .i64 ((T.fresh : Int) + 1))).setCell ⟨H, 3, none⟩ (.slice (some ⟨R'.gb, 0, none⟩) T.n R'.gc)).setCell ⟨H, 4, none⟩ (.slice (some ⟨R'.ob, 0, none⟩) T.n R'.oc)).setCell ⟨H, 5, none⟩ (.slice (some ⟨gA, 0, none⟩) S.n cA) := ⟨_, rfl⟩
    rw [← hy]
    have hyc : Chg (fun k => k = H) wA y := by rw [hy]; exact ((((((Chg.refl (fun k => k = H) wA).setCell (p := ⟨H, 0, none⟩) (.inl rfl) _).setCell (p := ⟨H, 1, none⟩) (.inl rfl) _).setCell (p := ⟨H, 2, none⟩) (.inl rfl) _).setCell (p := ⟨H, 3, none⟩) (.inl rfl) _).setCell (p := ⟨H, 4, none⟩) (.inl rfl) _).setCell (p := ⟨H, 5, none⟩) (.inl rfl) _
    have hy1 : Row6 y H (.int .i64 (T.n : Int)) (.slice R'.a T.rl.length R'.c) (.int .i64 ((T.fresh : Int) + 1)) (.slice (some ⟨R'.gb, 0, none⟩) T.n R'.gc) (.slice (some ⟨R'.ob, 0, none⟩) T.n R'.oc) (.slice (some ⟨gA, 0, none⟩) S.n cA) := by rw [hy]; exact HQ1.out.set05 _ _ _ _ _ _
    have hgAX : X.heap.size ≤ gA := RA.out.2.2.2.1
    have hgAl : gA < wA.heap.size := RA.out.2.2.1
    have hwAX := HBA.out.size
    have HRA := hid RA.out.2.2.2.2
    have hcA := RA.out.1
    have hcA2 := RA.out.2.1
    have hy2 : Row5 y p (.int .i64 (T.n : Int)) (.slice R'.a T.rl.length R'.c) (.int .i64 ((T.fresh : Int) + 1)) (.slice (some ⟨R'.gb, 0, none⟩) T.n R'.gc) (.slice (some ⟨R'.ob, 0, none⟩) T.n R'.oc) := (hyc.block p (by omega) (by omega)).trans HQ2.out
    have hy3 : Row6 y (H + 1) (.int .i64 0) (.slice none 0 0) (.int .i64 0) (.slice none 0 0) (.slice none 0 0) (.slice none 0 0) := (hyc.block (H + 1) (by omega) (by omega)).trans (HX2.out.below HBA.out (by omega))
    have hcy : ∀ j, j < S.n → y.cell? ⟨gA, j, none⟩ = some (.int .u32 (v (j + 1))) := fun j hj => by
      rw [World.cell?_of_block (w := wA) (a := ⟨gA, j, none⟩) (hyc.block gA hgAl (by omega)), (HRA.out j hj).1]
      simp [List.getD, hj]
    have fy := (World.frozen?_of_block (w := wA) (w' := y) (a := ⟨gA, i - 1, none⟩) (hyc.block gA hgAl (by omega))).trans (HRA.out (i - 1) (by omega)).2
    have cy := hcy (i - 1) (by omega)
    have hys : X.heap.size ≤ y.heap.size ∧ gA < y.heap.size := ⟨by have := hyc.size; omega, by have := hyc.size; omega⟩
    have HY1 := hid hy1
    have HY2 := hid hy2
    have HY3 := hid hy3
    have HCY := hid hcy
    have HYC := hid (hyc.mono (G := fun k => k = H ∨ k = H + 1) (fun _ h => .inl h))
    clear hy hyc hy2 hy3 hcy a0 a1 a2 a3 a4 a5 f0 f1 f2 f3 f4 f5 p0 p1 p2 p3 p4
    obtain ⟨a0, a1, a2, a3, a4, a5⟩ := hy1.cells
    obtain ⟨yv, hyv⟩ : ∃ yv, yv = v (i - 1 + 1) := ⟨_, rfl⟩
    rw [← hyv] at cy
    clear hy1 hyv
    go_wp2_with fail
    obtain ⟨z, hz⟩ : ∃ z, z = y.setCell ⟨gA, i - 1, none⟩ (.int .u32 x) := ⟨_, rfl⟩
    rw [← hz]
    have hne1 : H ≠ gA := by omega
    have hne2 : p ≠ gA := by omega
    have hne3 : H + 1 ≠ gA := by omega
    have hz1' := HY1.out.other ⟨gA, i - 1, none⟩ hne1 (.int .u32 x)
    have hz2' := HY2.out.other ⟨gA, i - 1, none⟩ hne2 (.int .u32 x)
    have hz3' := HY3.out.other ⟨gA, i - 1, none⟩ hne3 (.int .u32 x)
    rw [← hz] at hz1' hz2' hz3'
    have HCZ : Hid (∀ j, j < S.n → z.cell? ⟨gA, j, none⟩ = some (.int .u32 (upd v i x (j + 1)))) := hid fun j hj => by
      rw [hz]
      by_cases hji : j = i - 1
      · subst hji
        rw [World.cell?_setCell_same _ _ _ (HCY.out _ hj)]
        have e : i - 1 + 1 = i := by omega
        rw [e]; simp [upd]
      · rw [World.cell?_setCell_other _ _ _ _ (by simp <;> omega), HCY.out j hj]
        simp [upd, show j + 1 ≠ i by omega]
    have hzs : y.heap.size = z.heap.size := by rw [hz]; simp [World.setCell]
    have HZC : Hid (Chg (fun k => k = H ∨ k = H + 1) X z) := hid (by
      rw [hz]
      exact ((Chg.of_below HBA.out).trans HYC.out (fun _ h => .inl h)).setCell (p := ⟨gA, i - 1, none⟩) (.inr hgAX) _)
    have HZ1 := hid hz1'
    have HZ2 := hid hz2'
    have HZ3 := hid hz3'
    clear hz a0 a1 a2 a3 a4 a5 cy fy
    obtain ⟨a0, a1, a2, a3, a4, a5⟩ := hz1'.cells
    obtain ⟨p0, p1, p2, p3, p4⟩ := hz2'.cells
    clear hz1' hz2' hz3'
    have heq := HEQ.out
    have HRZ := hid (HRX.out.keep (F' := F) HZC.out (fun k hk => .inr (by omega)) (fun k hk => .inl (.inl hk)))
    have CG : Hid (∀ W, Below z.heap.size z W → Calls Try.prog 29 #[.agg #[.int .i64 (T.n : Int), .slice R'.a T.rl.length R'.c, .int .i64 ((T.fresh : Int) + 1), .slice (some ⟨R'.gb, 0, none⟩) T.n R'.gc, .slice (some ⟨R'.ob, 0, none⟩) T.n R'.oc], .int .u32 (i : Int)] W fun e w' => e = .returned (.int .u32 gx) ∧ Below z.heap.size z w') := hid fun W hW => by
      refine (ref_gen (R := R') (S := T) i (HRZ.out.below hW) (by rw [HT.out]; exact HW2.out) (by omega)).mono ?_
      rintro e w' ⟨he, hb⟩
      refine ⟨?_, hW.trans (hb.mono hW.size)⟩
      rw [he, HGX.out, HT.out]
    clear heq
    have nn1 : ¬ H + 1 = p := by omega
    have nn2 : ¬ p = H + 1 := by omega
    go_region_held3 (fun W => (W.cell? ⟨H, 0, none⟩ = some (.int .i64 (T.n : Int)) ∧ W.cell? ⟨H, 1, none⟩ = some (.slice R'.a T.rl.length R'.c) ∧ W.cell? ⟨H, 2, none⟩ = some (.int .i64 ((T.fresh : Int) + 1)) ∧ W.cell? ⟨H, 3, none⟩ = some (.slice (some ⟨R'.gb, 0, none⟩) T.n R'.gc) ∧ W.cell? ⟨H, 4, none⟩ = some (.slice (some ⟨R'.ob, 0, none⟩) T.n R'.oc) ∧ W.cell? ⟨H, 5, none⟩ = some (.slice (some ⟨gA, 0, none⟩) S.n cA)) ∧
        (W.cell? ⟨p, 0, none⟩ = some (.int .i64 (T.n : Int)) ∧ W.cell? ⟨p, 1, none⟩ = some (.slice R'.a T.rl.length R'.c) ∧ W.cell? ⟨p, 2, none⟩ = some (.int .i64 ((T.fresh : Int) + 1)) ∧ W.cell? ⟨p, 3, none⟩ = some (.slice (some ⟨R'.gb, 0, none⟩) T.n R'.gc) ∧ W.cell? ⟨p, 4, none⟩ = some (.slice (some ⟨R'.ob, 0, none⟩) T.n R'.oc)))
      (first | with_reducible exact ⟨(HZ1.out.below HB5.out (by omega)).cells, (HZ2.out.below HB5.out (by omega)).cells⟩ | go_keep)
      ((first
        | (go_at_call 29; refine (CG.out _ (by first | exact (Below.refl _ _).drew | exact Below.refl _ _)).mono ?_; rintro e w5 ⟨rfl, hb5⟩; have HB5 := hid hb5; obtain ⟨b0, b1, b2, b3, b4, b5⟩ := (HZ3.out.below hb5 (by omega)).cells; obtain ⟨g0, g1, g2, g3, g4, g5⟩ := (HZ3.out.below hb5 (by omega)).frz; clear hb5)
        | (go_at_call 52; refine (rpack_any (i : Int) gx _ (by omega) (by omega) hg.1 hg.2).mono ?_; rintro e w6 ⟨rfl, rfl⟩)))
    all_goals go_wp2
    all_goals (try simp only [Exit.inBlock, Exit.then])
    all_goals (
      refine bodyPost_ret (v := .tuple #[.agg #[.int .i64 (T.n : Int), .slice R'.a T.rl.length R'.c, .int .i64 ((T.fresh : Int) + 1), .slice (some ⟨R'.gb, 0, none⟩) T.n R'.gc, .slice (some ⟨R'.ob, 0, none⟩) T.n R'.oc, .slice (some ⟨gA, 0, none⟩) S.n cA], .int .u64 (gx * 4294967296 + (i : Int)), .int .i64 0]) ?_ rfl ⟨⟨R', gA, cA⟩, ?_, ?_⟩
      · rw [results_cell_tmp2 rfl]
        go_simp
      · have h1 : S.alloc.n = S.n := S.alloc_n
        rw [← HT.out] at h1 ⊢
        show _ = Ending.returned (.tuple #[.agg #[_, _, _, _, _, .slice (some ⟨gA, 0, none⟩) T.n cA], _, _])
        rw [h1]
      · have heq := HEQ.out
        have hC2 := ((((((Chg.of_below (F := fun k => k = H ∨ k = H + 1) HB5.out).setCell (p := ⟨H + 1, 0, none⟩) (.inl (.inr rfl)) (.int .i64 T.n)).setCell (p := ⟨H + 1, 1, none⟩) (.inl (.inr rfl)) (.slice R'.a T.rl.length R'.c)).setCell (p := ⟨H + 1, 2, none⟩) (.inl (.inr rfl)) (.int .i64 (T.fresh + 1))).setCell (p := ⟨H + 1, 3, none⟩) (.inl (.inr rfl)) (.slice (some ⟨R'.gb, 0, none⟩) T.n R'.gc)).setCell (p := ⟨H + 1, 4, none⟩) (.inl (.inr rfl)) (.slice (some ⟨R'.ob, 0, none⟩) T.n R'.oc)).setCell (p := ⟨H + 1, 5, none⟩) (.inl (.inr rfl)) (.slice (some ⟨gA, 0, none⟩) S.n cA)
        have hXE := HZC.out.trans hC2 (fun k hk => .inl hk)
        have hBE := HBX.out.trans (hXE.below (B := w.heap.size) HBX.out.size (fun k hk => by rcases hk with hk | hk <;> omega))
        have hr := HRX.out.keep (F' := F) hXE (fun k hk => .inr (by rcases hk with hk | hk <;> omega)) (fun k hk => .inl (.inl hk))
        have hgz : gA < z.heap.size := by omega
        have h1 : S.alloc.n = S.n := S.alloc_n
        refine ⟨⟨by rw [← HT.out]; exact hr, Nat.lt_of_lt_of_le hgz hC2.size, fun hf => by have : gA < w.heap.size := HF.out _ hf; omega, fun j hj => ?_, by rw [h1]; exact ⟨hcA, hcA2⟩⟩, hBE⟩
        rw [h1] at hj
        exact (World.cell?_of_block (w := z) (a := ⟨gA, j, none⟩) (hC2.block gA hgz (by intro hk; rcases hk with hk | hk <;> omega))).trans (HCZ.out j hj)))
end
end Go.Proofs.Ytbmamikhjfieoaa
