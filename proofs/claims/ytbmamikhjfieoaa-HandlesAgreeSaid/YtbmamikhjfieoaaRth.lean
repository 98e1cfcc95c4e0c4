/-
  THE CONTRACTS OF versionmapref4's Table, continued: New and Handles.
-/
import Derived.Test.YtbmamikhjfieoaaRto
namespace Go.Proofs.Ytbmamikhjfieoaa
open Go.RowKit

theorem tnew_end {F : Nat → Prop} {w w5 W : World} {R : RL} {n vb : Nat} (h2 : n ≤ 4096) (hF : ∀ k, F k → k < w.heap.size) (hR : RAt (fun k => F k ∨ k = w.heap.size) w5 R (SS.new n)) (hb : Below w.heap.size w w5) (hc : Chg (fun k => k = w.heap.size) w5 W)
    (hv : vb < W.heap.size) (hv2 : w.heap.size < vb) (hrow : ∀ j, j < n → W.cell? ⟨vb, j, none⟩ = some (.int .u32 0)) (u0 u1 u2 u3 u4 u5 : Value) :
    RTAt F ((((((W.setCell ⟨w.heap.size, 0, none⟩ u0).setCell ⟨w.heap.size, 1, none⟩ u1).setCell ⟨w.heap.size, 2, none⟩ u2).setCell ⟨w.heap.size, 3, none⟩ u3).setCell ⟨w.heap.size, 4, none⟩ u4).setCell ⟨w.heap.size, 5, none⟩ u5) ⟨R, vb, n⟩ (SS.new n) (fun _ => 0) ∧
      Below w.heap.size w ((((((W.setCell ⟨w.heap.size, 0, none⟩ u0).setCell ⟨w.heap.size, 1, none⟩ u1).setCell ⟨w.heap.size, 2, none⟩ u2).setCell ⟨w.heap.size, 3, none⟩ u3).setCell ⟨w.heap.size, 4, none⟩ u4).setCell ⟨w.heap.size, 5, none⟩ u5) := by
  have hC : Chg (fun k => k = w.heap.size) W _ := ((((((Chg.refl (fun k => k = w.heap.size) W).setCell (p := ⟨w.heap.size, 0, none⟩) (.inl rfl) u0).setCell (p := ⟨w.heap.size, 1, none⟩) (.inl rfl) u1).setCell (p := ⟨w.heap.size, 2, none⟩) (.inl rfl) u2).setCell (p := ⟨w.heap.size, 3, none⟩) (.inl rfl) u3).setCell (p := ⟨w.heap.size, 4, none⟩) (.inl rfl) u4).setCell (p := ⟨w.heap.size, 5, none⟩) (.inl rfl) u5
  have hCC := hc.trans hC (fun _ h => .inl h)
  refine ⟨⟨hR.keep hCC (fun _ h => .inr h) (fun _ h => .inl (.inl h)), Nat.lt_of_lt_of_le hv hC.size, fun hf => by have : vb < w.heap.size := hF _ hf; omega, fun j hj => ?_, ?_⟩, hb.trans (hCC.below hb.size (fun k hk => by omega))⟩
  · exact (World.cell?_of_block (w := W) (a := ⟨vb, j, none⟩) (hC.block vb hv (by intro h; omega))).trans (hrow j hj)
  · simp [SS.new, maxLen]; omega

section
set_option maxRecDepth 100000 in
set_option maxHeartbeats 2000000 in
theorem ref_tnew (n : Nat) (w : World) (F : Nat → Prop) (hF : ∀ k, F k → k < w.heap.size) (h1 : 1 ≤ n) (h2 : n ≤ 4096) :
    Calls Try.prog 41 #[.int .i64 (n : Int)] w fun e w' => ∃ Q : RTL, e = .returned (Q.val (SS.new n)) ∧ RTAt F w' Q (SS.new n) (fun _ => 0) ∧ Below w.heap.size w w' := by
  have hm2 := fun W => make_at' (z := .int .u32 0) 28 30 4 Try.underlying28 info30 rfl n (by omega) (by omega) W
  have HF := hid hF
  clear hF
  obtain ⟨Z, hZ⟩ : ∃ Z, Z = Obj.cells #[.int .i64 0, .slice none 0 0, .int .i64 0, .slice none 0 0, .slice none 0 0, .slice none 0 0] 74 := ⟨_, rfl⟩
  have HZ := hid hZ
  have CN : Hid (∀ W, Below (w.heap.size + 1) (w.alloc Z) W → Calls Try.prog 23 #[.int .i64 (n : Int)] W fun e w' => ∃ R : RL, e = .returned (R.val (SS.new n)) ∧ RAt (fun k => F k ∨ k = w.heap.size) w' R (SS.new n) ∧ Below W.heap.size W w' ∧ Below (w.heap.size + 1) (w.alloc Z) w' ∧ Row6 w' w.heap.size (.int .i64 0) (.slice none 0 0) (.int .i64 0) (.slice none 0 0) (.slice none 0 0) (.slice none 0 0)) := hid fun W hW => by
    have hs : w.heap.size + 1 ≤ W.heap.size := by have := hW.size; simpa using this
    refine (ref_new n W (fun k => F k ∨ k = w.heap.size) (fun k hk => by
      rcases hk with hk | hk
      · have := HF.out k hk; omega
      · omega) h1 (by omega)).mono ?_
    rintro e w' ⟨R, he, hR, hb⟩
    have hb2 := hW.trans (hb.mono hs)
    exact ⟨R, he, hR, hb, hb2, (hb2.block w.heap.size (by omega)).trans (by rw [HZ.out]; exact heap_alloc_new w _)⟩
  rw [hZ] at CN
  clear hZ
  go_enter Try.func41, Try.ntmps41
  go_wp2_with fail
  go_region_held3 (fun _ => True) (trivial)
    ((go_at_call 23; refine (CN.out _ (by first | exact (Below.refl _ _).drew | exact (((Below.refl (w.heap.size + 1) _).alloc (by simp) _).drew) | exact (((Below.refl (w.heap.size + 1) _).drew).alloc (by simp) _))).mono ?_; rintro e w5 ⟨R, rfl, hR5, hb5, hb6, hz5⟩; obtain ⟨b0, b1, b2, b3, b4, b5⟩ := hz5.cells; obtain ⟨f0, f1, f2, f3, f4, f5⟩ := hz5.frz; have hza := fun o => Row6.below hz5 ((Below.refl w5.heap.size w5).alloc (Nat.le_refl _) o) (World.block_lt_of_cell? w5 _ b0); have c0 := fun o => (hza o).cells.1; have c1 := fun o => (hza o).cells.2.1; have c2 := fun o => (hza o).cells.2.2.1; have c3 := fun o => (hza o).cells.2.2.2.1; have c4 := fun o => (hza o).cells.2.2.2.2.1; have c5 := fun o => (hza o).cells.2.2.2.2.2; have g0 := fun o => (hza o).frz.1; have g1 := fun o => (hza o).frz.2.1; have g2 := fun o => (hza o).frz.2.2.1; have g3 := fun o => (hza o).frz.2.2.2.1; have g4 := fun o => (hza o).frz.2.2.2.2.1; have g5 := fun o => (hza o).frz.2.2.2.2.2; clear hza; have HR5 := hid hR5; have HB5 := hid hb5; have HB6 := hid hb6; have HZ5 := hid hz5; clear hR5 hb5 hb6 hz5; unfold RL.val))
  all_goals go_wp2
  all_goals (try simp only [Exit.inBlock, Exit.then])
  · have hb5 : Below w.heap.size w w5 := ((Below.refl _ w).alloc (Nat.le_refl _) _).trans (HB6.out.mono (by omega))
    have hs : w.heap.size + 1 ≤ w5.heap.size := by have := HB6.out.size; simpa using this
    refine bodyPost_ret (v := RTL.val ⟨R, w5.heap.size, n⟩ (SS.new n)) ?_ rfl ⟨_, rfl, ?_⟩
    · unfold RTL.val
      rw [results_cell rfl]
      go_simp
      rfl
    · exact tnew_end h2 HF.out HR5.out hb5 ((Chg.refl _ w5).alloc _) (by simp) (by omega) (fun j hj => (made_row w5 w5.heap.size rfl (.int .u32 0) n 30).cell (i := j) hj) _ _ _ _ _ _
  · have hb5 : Below w.heap.size w w5 := ((Below.refl _ w).alloc (Nat.le_refl _) _).trans (HB6.out.mono (by omega))
    have hs : w.heap.size + 2 ≤ w5.heap.size := by have := HB5.out.size; simp at this; omega
    refine bodyPost_ret (v := RTL.val ⟨R, w.heap.size + 1, n⟩ (SS.new n)) ?_ rfl ⟨_, rfl, ?_⟩
    · unfold RTL.val
      rw [results_cell rfl]
      go_simp
      rfl
    · exact tnew_end h2 HF.out HR5.out hb5 (Chg.refl _ w5) (by omega) (by omega) (fun j hj => (HB5.out.cell (p := ⟨w.heap.size + 1, j, none⟩) (by simp)).trans ((made_row _ (w.heap.size + 1) (by simp) (.int .u32 0) n 30).cell (i := j) hj)) _ _ _ _ _ _
end
section
variable {F : Nat → Prop} {w : World} {Q : RTL} {S : SS} {v : Nat → Int}
set_option maxRecDepth 100000 in
set_option maxHeartbeats 2000000 in
theorem ref_handles (hR : RTAt F w Q S v) (hw : S.wf) :
    Calls Try.prog 47 #[Q.val S] w fun e w' => ∃ A c, e = .returned (.slice A (opens S).length c) ∧ Nums .u64 (fun k => k < w.heap.size) w' A (opens S).length (natsI (opens S)) ∧ Below w.heap.size w w' := by
  obtain ⟨i0, hi0, hz0, hz1, hz2⟩ := info_parts info58
  have hn2 := hw.n2
  have HH := hid hR
  have HW := hid hw
  clear hR hw
  unfold RTL.val
  go_enter Try.func47, Try.ntmps47
  go_wp2
  obtain ⟨W0, hW0⟩ : ∃ W0, W0 = w.alloc (.cells #[.int .i64 (S.n : Int), .slice Q.R.a S.rl.length Q.R.c, .int .i64 ((S.fresh : Int) + 1), .slice (some ⟨Q.R.gb, 0, none⟩) S.n Q.R.gc, .slice (some ⟨Q.R.ob, 0, none⟩) S.n Q.R.oc, .slice (some ⟨Q.vb, 0, none⟩) S.n Q.vc] 74) := ⟨_, rfl⟩
  rw [← hW0]
  have X1 : Row6 W0 w.heap.size (.int .i64 (S.n : Int)) (.slice Q.R.a S.rl.length Q.R.c) (.int .i64 ((S.fresh : Int) + 1)) (.slice (some ⟨Q.R.gb, 0, none⟩) S.n Q.R.gc) (.slice (some ⟨Q.R.ob, 0, none⟩) S.n Q.R.oc) (.slice (some ⟨Q.vb, 0, none⟩) S.n Q.vc) := by rw [hW0]; exact heap_alloc_new w _
  have hsz : W0.heap.size = w.heap.size + 1 := by rw [hW0]; simp
  have HB0 : Hid (Below w.heap.size w W0) := hid (by rw [hW0]; exact (Below.refl _ w).alloc (Nat.le_refl _) _)
  clear hW0
  obtain ⟨H, hH⟩ : ∃ H, H = w.heap.size := ⟨_, rfl⟩
  rw [← hH] at X1 hsz ⊢
  have HEQ := hid hH
  have HX1 := hid X1
  clear hH X1
  go_loopw [3, 4] (fun out i wr => ∃ k : Nat, k ≤ S.n ∧ i = .int .u32 ((k : Int) + 1) ∧ wr.ownsRow (H + 1) 58 1 out (pre S k).length ((natsI (pre S k)).map (Value.int .u64)) ∧ Below (H + 1) W0 wr) (fun _ i _ => (S.n + 1 - intOf i).toNat)
  case atStart => exact ⟨0, by omega, by simp, World.ownsRow_nil _ _ _ _, Below.refl _ _⟩
  case round =>
    obtain ⟨k, hk, rfl, hown, hb⟩ := hrel
    have hpl : (pre S k).length ≤ k := opens_len S k
    have hws : H + 1 ≤ wr.heap.size := by have := hb.size; omega
    have HR := hid (HH.out.below (HB0.out.trans (hb.mono (by have := HEQ.out; omega))))
    have HOWN := hid hown
    have HB := hid hb
    obtain ⟨a0, a1, a2, a3, a4, a5⟩ := (HX1.out.below hb (by omega)).cells
    clear hown hb
    by_cases hlt : k < S.n
    · have ek := hid (show (k : Int) + 1 = ((k + 1 : Nat) : Int) by omega)
      cases ho : S.on (k + 1) with
      | true =>
        have HO := hid ho
        have HP := hid (pre_on ho)
        have hlen := hid (show (pre S (k + 1)).length = (pre S k).length + 1 by unfold pre; rw [opens_snoc, ho]; simp)
        have hg := HW.out.g0 (k + 1)
        have HD := hid (show ((S.hdl (k + 1) : Nat) : Int) = S.gen (k + 1) * 4294967296 + ((k : Int) + 1) by unfold SS.hdl; omega)
        obtain ⟨gx, hgx⟩ : ∃ gx, gx = S.gen (k + 1) := ⟨_, rfl⟩
        rw [← hgx] at hg HD
        have HGX := hid hgx
        clear ho hgx
        go_wp2_with fail
        rw [ek.out]
        refine (ref_allocd (R := Q.R) (k + 1) HR.out.r HW.out (by omega)).mono ?_
        rintro e w1 ⟨rfl, hb1⟩
        rw [HO.out]
        have hb1' : Below (H + 1) wr w1 := hb1.mono hws
        have HR1 := hid (HR.out.below hb1)
        have HB1 := hid (HB.out.trans hb1')
        have HOWN1 := hid (own_of_block HOWN.out (fun k hk => hb1.block k (HOWN.out.lt k hk).2))
        have hws1 : H + 1 ≤ w1.heap.size := Nat.le_trans hws hb1.size
        clear hb1 hb1' a0 a1 a2 a3 a4 a5
        obtain ⟨a0, a1, a2, a3, a4, a5⟩ := (HX1.out.below HB1.out (by omega)).cells
        go_wp2_with fail
        refine (ref_gen (R := Q.R) (k + 1) HR1.out.r HW.out (by omega)).mono ?_
        rintro e w2 ⟨rfl, hb2⟩
        rw [← HGX.out]
        have HB2 := hid (HB1.out.trans (hb2.mono hws1))
        have HOWN2 := hid (own_of_block HOWN1.out (fun k hk => hb2.block k (HOWN1.out.lt k hk).2))
        have hws2 : H + 1 ≤ w2.heap.size := Nat.le_trans hws1 hb2.size
        clear hb2 a0 a1 a2 a3 a4 a5
        go_wp2_with fail
        refine (rpack_any _ gx _ (by omega) (by omega) hg.1 hg.2).mono ?_
        rintro e w3 ⟨rfl, rfl⟩
        rw [← HD.out]
        obtain ⟨y, hy⟩ : ∃ y, y = S.hdl (k + 1) := ⟨_, rfl⟩
        rw [← hy] at HP ⊢
        obtain ⟨l, hl⟩ : ∃ l, l = (pre S k).length := ⟨_, rfl⟩
        rw [← hl] at hpl HOWN2 hlen
        clear hy hl HD HOWN HOWN1
        go_wp2_with (at_builtin; refine wpList_append_both rfl (.tmp 17) (.tmp 24) 62 rfl (H + 1) 58 i0 (.int .u64 0) 8 Try.underlying62 hi0 hz0 hz1 hz2 rfl _ l _ rfl (HOWN2.out.alloc _) (some ⟨w2.heap.size, 0, none⟩) 1 1 [.int .u64 (y : Int)] rfl (fun h => by cases h) (by simp) (fun ad had => by injection had with had; subst had; exact cell_one_new _ _ _) (by intro u hu; simp at hu; subst hu; rfl) (by unfold maxLen; omega) (by omega) (by simp; omega) ?_)
        intro v' w4 hown4 hc4
        have hb4 : Below (H + 1) w2 w4 := (((Chg.refl _ w2).alloc _).trans hc4 (fun _ h => .inl h)).below hws2 (fun k hk => (HOWN2.out.lt k hk).1)
        have HOWN4 : Hid (w4.ownsRow (H + 1) 58 1 v' (pre S (k + 1)).length ((natsI (pre S (k + 1))).map (Value.int .u64))) := hid (by rw [hlen.out, HP.out]; exact hown4)
        have HB4 := hid (HB2.out.trans hb4)
        clear hown4 hc4 hb4
        go_wp2
        go_roundw
        case rel => exact ⟨k + 1, by omega, by go_num, HOWN4.out, HB4.out⟩
        case measure => simp [intOf]; omega
      | false =>
        have HO := hid ho
        have HP := hid (pre_off ho)
        clear ho
        go_wp2_with fail
        rw [ek.out]
        refine (ref_allocd (R := Q.R) (k + 1) HR.out.r HW.out (by omega)).mono ?_
        rintro e w1 ⟨rfl, hb1⟩
        rw [HO.out]
        have hb1' : Below (H + 1) wr w1 := hb1.mono hws
        have HB1 := hid (HB.out.trans hb1')
        have HOWN1 := hid (own_of_block HOWN.out (fun k hk => hb1.block k (HOWN.out.lt k hk).2))
        rw [← ek.out]
        clear hb1 hb1' a0 a1 a2 a3 a4 a5
        go_wp2
        go_roundw
        case rel => exact ⟨k + 1, by omega, by go_num, by rw [HP.out]; exact HOWN1.out, HB1.out⟩
        case measure => simp [intOf]; omega
    · have hkn : k = S.n := by omega
      have HE := hid (show pre S k = opens S by rw [hkn]; rfl)
      clear hkn hpl
      rw [HE.out] at HOWN
      obtain ⟨A, c, rfl, hN⟩ := own_nums HOWN.out (F := fun k => k < w.heap.size) (fun _ h => by have := HEQ.out; omega)
      have HN := hid hN
      clear hN HOWN HE
      go_wp2
      go_ret
      exact ⟨A, c, rfl, HN.out, HB0.out.trans (HB.out.mono (by have := HEQ.out; omega))⟩
end
end Go.Proofs.Ytbmamikhjfieoaa
