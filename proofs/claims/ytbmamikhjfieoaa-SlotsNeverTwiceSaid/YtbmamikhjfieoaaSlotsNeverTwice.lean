/-
  SlotsNeverTwice: for every int and every slice of calls the law returns true; no condition (the slice lies within the form's own reach).
-/
import Derived.Test.YtbmamikhjfieoaaOpen
namespace Go.Proofs.Ytbmamikhjfieoaa.WSlotsNeverTwice
open Go.ChangeShapes Go.WideShapes Go.ChangeAt Go.RowKit

set_option maxRecDepth 100000 in
set_option maxHeartbeats 4000000 in
set_option linter.unusedVariables false in
theorem walk (c : Int) (A : Option Addr) (m d : Nat) (f : Nat → Bool × Nat) (w : World) (w0 : (Lit.int .i64 c).wf = true) (w1 : CArg3 w A m d f) :
    Calls Try.prog 3 #[.int .i64 c, .slice A m d] w fun e w' => e = .returned (.bool true) ∧ Below w.heap.size w w' := by
  have hm0 := Int.emod_nonneg c (show (30 : Int) ≠ 0 by omega)
  have hm1 := Int.emod_lt_of_pos c (show (0 : Int) < 30 by omega)
  obtain ⟨n0, hn0⟩ := Int.eq_ofNat_of_zero_le hm0
  rw [hn0] at hm1
  have HM := hid hn0
  obtain ⟨n, hn⟩ : ∃ n, n = n0 + 1 := ⟨_, rfl⟩
  have HNN := hid (show (1 : Int) + (n0 : Int) = (n : Int) by omega)
  have hn29 : n0 ≤ 29 := by omega
  have hn1 : 1 ≤ n := by omega
  have hn30 : n ≤ 30 := by omega
  obtain ⟨hC, _, hm⟩ := w1
  have HC := hid hC
  clear hm0 hm1 hn0 hn hC
  obtain ⟨ib, hib, hbz0, hbz1, hbz2⟩ := info_parts info4
  obtain ⟨iu, hiu, huz0, huz1, huz2⟩ := info_parts info30
  go_enter Try.func3, Try.ntmps3
  go_wp2_with fail
  refine (mod_any c 30 _ (by omega) (by omega)).mono ?_
  rintro e x1 ⟨rfl, rfl⟩
  rw [HM.out]
  go_wp2_with fail
  rw [HNN.out]
  refine (play_any n A m d f _ hn1 (by omega) HC.out hm).mono ?_
  rintro e x2 ⟨g, rfl, ⟨L, S, hS, hw, hSn, hg⟩, hb⟩
  have HS := hid hS
  have HW := hid hw
  have HN := hid hSn
  have HG := hid hg
  clear hS hw hSn hg
  go_wp2_with fail
  refine (awake_any _).mono ?_
  rintro e x3 ⟨rfl, hb3⟩
  have HS3 := hid (HS.out.below hb3)
  have hb := hb.trans (hb3.mono hb.size)
  clear hb3
  obtain ⟨B0, hB0⟩ : ∃ B0, B0 = x3.heap.size := ⟨_, rfl⟩
  have HB0 : Hid (w.heap.size ≤ B0) := hid (by rw [hB0]; exact hb.size)
  have HFT : Hid (∀ k, L.foot k → k < B0) := hid (fun k hk => by rw [hB0]; exact HS3.out.foot_lt hk)
  have hB0x : B0 ≤ x3.heap.size := by omega
  clear hB0
  rw [← HG.out]
  go_wp2
  go_loopw [7, 8, 9] (fun u v i wr => ∃ k : Nat, k ≤ n + 1 ∧ i = .int .i64 k ∧ wr.ownsRow B0 4 1 u k ((List.range k).map (fun j => Value.bool (S.on j))) ∧ wr.ownsRow B0 30 1 v k ((List.range k).map (fun j => Value.int .u32 (S.gen j))) ∧ Hid (SAt w.heap.size wr L S) ∧ Below w.heap.size w wr ∧ B0 ≤ wr.heap.size) (fun _ _ i _ => n + 1 - (intOf i).toNat)
  case atStart => exact ⟨0, Nat.zero_le _, rfl, World.ownsRow_nil _ _ _ _, World.ownsRow_nil _ _ _ _, HS3, hb, hB0x⟩
  case round =>
    clear hb hB0x
    obtain ⟨k, hk, rfl, hu, hv, HS4, hb, hB0x⟩ := hrel
    by_cases hlt : k < n + 1
    · have hru : ∀ b, u7.ownBlock = some b → B0 ≤ b := fun b hb => (hu.lt b hb).1
      have hrv : ∀ b, u8.ownBlock = some b → B0 ≤ b := fun b hb => (hv.lt b hb).1
      have HRU := hid hru
      have HRV := hid hrv
      have hsep : ∀ b, u8.ownBlock = some b → u7.ownBlock ≠ some b := fun b hb hb7 => by
        rcases hu.2 with ⟨e, _⟩ | ⟨g1, c1, r1, e, _, h1, _⟩
        · subst e; simp [Value.ownBlock] at hb7
        · rcases hv.2 with ⟨e', _⟩ | ⟨g2, c2, r2, e', _, h2, _⟩
          · subst e'; simp [Value.ownBlock] at hb
          · subst e; subst e'
            simp [Value.ownBlock] at hb hb7
            subst hb; subst hb7
            rw [h1] at h2
            injection h2 with h2
            injection h2 with _ ht
            exact absurd ht (by decide)
      have HSEP := hid hsep
      obtain ⟨bo, hbo⟩ : ∃ bo, bo = S.on k := ⟨_, rfl⟩
      obtain ⟨gx, hgx⟩ : ∃ gx, gx = S.gen k := ⟨_, rfl⟩
      have HBO := hid hbo
      have HGX := hid hgx
      have HU := hid hu
      have HV := hid hv
      clear hru hrv hsep hbo hgx hu hv
      go_wp2_with fail
      refine (allocd_any k HS4.out HW.out (by omega)).mono ?_
      rintro e y1 ⟨rfl, rfl⟩
      rw [← HBO.out]
      go_wp2_with (first
        | (at_builtin; refine wpList_append_own _ rfl (.tmp 30) (.tmp 35) 27 rfl B0 4 ib (.bool false) 1 1 Try.underlying27 hib hbz0 hbz1 hbz2 rfl (by decide) u7 k _ rfl (HU.out.alloc _) ⟨wr.heap.size, 0, none⟩ 1 1 [.bool bo] rfl (by simp) (cell_one_new _ _ _) (by intro u hu; simp at hu; subst hu; rfl) (by unfold maxLen; omega) (by omega) (by simp; omega) ?_))
      intro v1 w1 hu1 hg1 _
      have hc1 : Chg (fun b => u7.ownBlock = some b) wr w1 := ((Chg.refl _ wr).alloc _).grown hg1 (fun k hk => .inl hk)
      have HS5 := hid (HS4.out.keep hc1 (fun b hb hf => by have := HRU.out b hb; have := HFT.out b hf; omega))
      have HV1 := hid (own_of_block (w' := w1) HV.out (fun b hb => hc1.block b (HV.out.lt b hb).2 (HSEP.out b hb)))
      have hb1 : Below w.heap.size w w1 := hb.trans (hc1.below hb.size (fun b hb => Nat.le_trans HB0.out (HRU.out b hb)))
      have hB1 : B0 ≤ w1.heap.size := Nat.le_trans hB0x hc1.size
      have HU1 := hid hu1
      clear hu1 hg1 hc1 hb hB0x HS4 HU HV
      go_wp2_with fail
      refine (gen_any k HS5.out HW.out (by omega)).mono ?_
      rintro e y1 ⟨rfl, rfl⟩
      rw [← HGX.out]
      have hsep1 : ∀ b, u8.ownBlock = some b → v1.ownBlock ≠ some b := fun b hb hb7 => by
        rcases HU1.out.2 with ⟨e, _⟩ | ⟨g1, c1, r1, e, _, h1, _⟩
        · subst e; simp [Value.ownBlock] at hb7
        · rcases HV1.out.2 with ⟨e', _⟩ | ⟨g2, c2, r2, e', _, h2, _⟩
          · subst e'; simp [Value.ownBlock] at hb
          · subst e; subst e'
            simp [Value.ownBlock] at hb hb7
            subst hb; subst hb7
            rw [h1] at h2
            injection h2 with h2
            injection h2 with _ ht
            exact absurd ht (by decide)
      have HSEP1 := hid hsep1
      clear hsep1
      go_wp2_with (first
        | (at_builtin; refine wpList_append_own _ rfl (.tmp 37) (.tmp 42) 28 rfl B0 30 iu (.int .u32 0) 1 4 Try.underlying28 hiu huz0 huz1 huz2 rfl (by decide) u8 k _ rfl (HV1.out.alloc _) ⟨w1.heap.size, 0, none⟩ 1 1 [.int .u32 gx] rfl (by simp) (cell_one_new _ _ _) (by intro u hu; simp at hu; subst hu; rfl) (by unfold maxLen; omega) (by omega) (by simp; omega) ?_))
      intro v2 w2 hv2 hg2 _
      have hc2 : Chg (fun b => u8.ownBlock = some b) w1 w2 := ((Chg.refl _ w1).alloc _).grown hg2 (fun k hk => .inl hk)
      have HS6 := hid (HS5.out.keep hc2 (fun b hb hf => by have := HRV.out b hb; have := HFT.out b hf; omega))
      have HU2 := hid (own_of_block (w' := w2) HU1.out (fun b hb => hc2.block b (HU1.out.lt b hb).2 (fun h8 => HSEP1.out b h8 hb)))
      have hb2 : Below w.heap.size w w2 := hb1.trans (hc2.below hb1.size (fun b hb => Nat.le_trans HB0.out (HRV.out b hb)))
      have hB2 : B0 ≤ w2.heap.size := Nat.le_trans hB1 hc2.size
      have HV2 := hid hv2
      clear hv2 hg2 hc2 hb1 hB1 HS5 HU1 HV1
      go_wp2
      go_roundw
      case rel => exact ⟨k + 1, by omega, by first | rfl | go_num, by rw [List.range_succ, List.map_append]; have := HU2.out; rw [HBO.out] at this; exact this, by rw [List.range_succ, List.map_append]; have := HV2.out; rw [HGX.out] at this; exact this, HS6, hb2, hB2⟩
      case measure => simp [intOf]; omega
    · have hkn : k = n + 1 := by omega
      subst hkn
      obtain ⟨g7, c7, e7, hg7, hl7⟩ := hu.form (by omega)
      obtain ⟨g8, c8, e8, hg8, hl8⟩ := hv.form (by omega)
      subst e7; subst e8
      have hcu : ∀ j, j ≤ n → wr.cell? ⟨g7, j, none⟩ = some (.bool (S.on j)) := fun j hj => by rw [hu.cellAt j (by omega)]; simp [show j < n + 1 by omega]
      have hcv : ∀ j, j ≤ n → wr.cell? ⟨g8, j, none⟩ = some (.int .u32 (S.gen j)) := fun j hj => by rw [hv.cellAt j (by omega)]; simp [show j < n + 1 by omega]
      have HCU := hid hcu
      have HCV := hid hcv
      have HN7 : Hid (¬ L.foot g7) := hid (fun hf => by have := HFT.out g7 hf; omega)
      have HN8 : Hid (¬ L.foot g8) := hid (fun hf => by have := HFT.out g8 hf; omega)
      clear hu hv hcu hcv
      rcases Nat.eq_zero_or_pos S.free with hf0 | hf0
      · have HF := hid hf0
        clear hf0
        go_wp2_with fail
        refine (alloc_full HS4.out HW.out HF.out).mono ?_
        rintro e y1 ⟨rfl, hq⟩
        have HS5 := hid (HS4.out.qt hq)
        have hb1 := hb.trans ((hq.chg Nil).below hb.size (fun _ h => h.elim))
        clear hb hq
        go_wp2_with fail
        refine (free_any HS5.out HW.out).mono ?_
        rintro e y2 ⟨rfl, hq⟩
        rw [HF.out]
        have hb2 := hb1.trans ((hq.chg Nil).below hb1.size (fun _ h => h.elim))
        clear hb1 hq
        go_wp2
        go_ret
        exact ⟨rfl, hb2⟩
      · have HF := hid hf0
        have hno := HW.out.next_ok hf0
        rw [HN.out] at hno
        obtain ⟨x, hx⟩ : ∃ x, x = S.next := ⟨_, rfl⟩
        rw [← hx] at hno
        obtain ⟨hx1, hxn, hxo⟩ := hno
        have HX := hid hx
        have HXO := hid hxo
        have HWA := hid (HW.out.alloc hf0)
        clear hf0 hx hxo
        go_wp2_with fail
        refine (alloc_any HS4.out HW.out HF.out).mono ?_
        rintro e y1 ⟨rfl, hS5, hc⟩
        rw [← HX.out]
        have HS5 := hid hS5
        have hb1 := hb.trans (HS4.out.chg_below hc)
        have HCU5 : Hid (∀ j, j ≤ n → y1.cell? ⟨g7, j, none⟩ = some (.bool (S.on j))) := hid (fun j hj => (World.cell?_of_block (w := wr) (a := ⟨g7, j, none⟩) (hc.block g7 hl7 HN7.out)).trans (HCU.out j hj))
        have HCV5 : Hid (∀ j, j ≤ n → y1.cell? ⟨g8, j, none⟩ = some (.int .u32 (S.gen j))) := hid (fun j hj => (World.cell?_of_block (w := wr) (a := ⟨g8, j, none⟩) (hc.block g8 hl8 HN8.out)).trans (HCV.out j hj))
        have HON : Hid (S.alloc.on x = true) := hid (by rw [S.alloc_on, HX.out]; simp)
        clear hS5 hc hb
        have hwx := HCU5.out x hxn
        rw [HXO.out] at hwx
        go_wp2_with fail
        refine (allocd_any x HS5.out HWA.out (by omega)).mono ?_
        rintro e y2 ⟨rfl, rfl⟩
        rw [HON.out]
        clear hwx
        go_wp2
        go_loopw [12] (fun i wr => ∃ (k : Nat), 1 ≤ k ∧ k ≤ n + 1 ∧ i = .int .i64 k ∧ Hid (SAt w.heap.size wr L S.alloc) ∧ Hid (∀ j, j ≤ n → wr.cell? ⟨g7, j, none⟩ = some (.bool (S.on j))) ∧ Hid (∀ j, j ≤ n → wr.cell? ⟨g8, j, none⟩ = some (.int .u32 (S.gen j))) ∧ Below w.heap.size w wr) (fun i _ => n + 1 - (intOf i).toNat)
        case atStart => exact ⟨1, by omega, by omega, rfl, HS5, HCU5, HCV5, hb1⟩
        case round =>
          clear HS5 HCU5 HCV5 hb1
          obtain ⟨k, hk1, hkn, rfl, HS6, HCU6, HCV6, hb⟩ := hrel
          by_cases hlt : k < n + 1
          · have cu := HCU6.out k (by omega)
            have cv := HCV6.out k (by omega)
            obtain ⟨gk, hgk⟩ : ∃ gk, gk = S.gen k := ⟨_, rfl⟩
            rw [← hgk] at cv
            have HGK := hid hgk
            by_cases hkx : k = x
            · have hkx1 : ((k : Int) == (x : Int)) = true := by simp; omega
              have hkx2 : ((k : Int) != (x : Int)) = false := by simp; omega
              obtain ⟨G, hG⟩ : ∃ G, G = S.alloc.gen x := ⟨_, rfl⟩
              have HG2 := hid hG.symm
              have hne : (G != (gk + 1) % 4294967296) = false := by
                rw [hG, S.alloc_gen, ← HX.out, if_pos rfl, HGK.out, hkx]; simp
              have hwk : IntKind.u32.wrap (k : Int) = (k : Int) := by rw [u32_wrap]; omega
              clear hgk hG hkx
              go_wp2_with fail
              go_quiet ((go_at_call 17; refine Calls.quiet_of_same (HG2.out ▸ gen_q x _ HS6.out HWA.out (by omega))))
              go_wp2
              go_roundw
              case rel => exact ⟨k + 1, by omega, by omega, by first | rfl | go_num, hid (HS6.out.qt ⟨_, rfl⟩), HCU6, HCV6, below_drewN hb _⟩
              case measure => simp [intOf]; omega
            · have hkx1 : ((k : Int) == (x : Int)) = false := by simp; omega
              have hkx2 : ((k : Int) != (x : Int)) = true := by simp; omega
              obtain ⟨bk, hbk⟩ : ∃ bk, bk = S.on k := ⟨_, rfl⟩
              rw [← hbk] at cu
              have HON2 : Hid (S.alloc.on k = bk) := hid (by rw [S.alloc_on, ← HX.out, if_neg hkx, hbk])
              have HGN2 : Hid (S.alloc.gen k = gk) := hid (by rw [S.alloc_gen, ← HX.out, if_neg hkx, hgk])
              have hwk : IntKind.u32.wrap (k : Int) = (k : Int) := by rw [u32_wrap]; omega
              clear hgk hbk hkx
              go_wp2_with fail
              go_quiet ((first | (go_at_call 17; refine Calls.quiet_of_same (HGN2.out ▸ gen_q k _ HS6.out HWA.out (by omega))) | (go_at_call 16; refine Calls.quiet_of_same (HON2.out ▸ allocd_q k _ HS6.out HWA.out (by omega)))))
              go_wp2
              go_roundw
              case rel => exact ⟨k + 1, by omega, by omega, by first | rfl | go_num, hid (HS6.out.qt ⟨_, rfl⟩), HCU6, HCV6, below_drewN hb _⟩
              case measure => simp [intOf]; omega
          · go_wp2
            go_ret
            exact ⟨rfl, hb⟩


set_option maxRecDepth 100000 in
set_option linter.unusedVariables false in
theorem lifted (os : Os) (started : os.Started) (H : Type) (enc : TypeId × Value → H) :
    ReturnsInHanded {} Try.checked os 3 .any (Rows.slotsNeverTwiceSpec.pre6 enc Try.prog Try.f3 Rows.slotsNeverTwiceRow.domain false) (Rows.slotsNeverTwiceSpec.post enc Try.prog Try.f3 false true false false) := by
  refine returnsInHanded_of_change_sized (C := Try.checked) own started (by kernel_rfl) Try.func3
    (ChangeSpec.witness6 (enc := enc) (C := Try.checked) false ⟨#[], #[.int .i64 0, .slice none 0 0], []⟩ 8 (by kernel_rfl) (by kernel_rfl) (by kernel_rfl) (by kernel_rfl)) ?_
  intro W base args ds gs before hval0 hW hcnd hsz0 _
  have hsz : (DataW.weightsEach Try.prog (Try.f3.params.toList ++ Rows.slotsNeverTwiceSpec.plain.varTypes Try.prog) (ds ++ gs)).all (· ≤ reachBytes) = true := hsz0
  clear hsz0
  have hval : ∀ (j : Nat) t v, Try.f3.params[j]? = some t → args[j]? = some v → Value.okWide Try.prog W .any base t v := hval0
  have hW' := hW
  obtain ⟨p, q, hA0, hV, rfl, hfz, hnd⟩ := hW
  have hA : DataW.TrodAll enc Try.prog W 0 (fun _ => true) true Try.f3.params.toList args.toList ds p := hA0
  rw [Try.params3] at hA hval hsz
  obtain ⟨v0, vs0, d0, ds0, p0, q0, hargs, rfl, rfl, h0, r0⟩ := trodAll_cons hA
  obtain ⟨v1, vs1, d1, ds1, p1, q1, rfl, rfl, rfl, h1, r1⟩ := trodAll_cons r0
  obtain ⟨rfl, rfl, rfl⟩ := trodAll_nil r1
  obtain rfl : args = #[v0, v1] := by cases args; simp_all
  obtain ⟨rfl, rfl⟩ := trodVars_none hV
  obtain ⟨a0, rfl, rfl, rfl, w0⟩ := open_int Try.underlying3 (hval 0 3 v0 rfl rfl) h0
  obtain ⟨a1, len1, cap1, rfl⟩ := okWide_slice Try.underlying22 (hval 1 22 v1 rfl rfl)
  have k1 := h1
  have lt1 : ∀ x ∈ p1, x.block < W.heap.size := by obtain ⟨m, hm⟩ := k1; exact DataW.trod_lt m _ _ _ hm
  obtain ⟨z1, w1⟩ : ∃ zs, CArg3 W a1 len1 cap1 zs := CArg3.open_ (j := 1) k1 hsz rfl rfl
  clear hA0 hval0
  refine (walk a0 a1 len1 cap1 z1 W w0 w1).mono fun e W' ⟨he, bel⟩ => ?_
  subst he
  exact ⟨_, rfl, _, _, _, [], _, [], hW', trodAll_mk1 (shut_bool Try.underlying4 _), (trodAll_cons_mk (shut_int Try.underlying3 w0) (trodAll_cons_mk (Below.trod laidOut (by kernel_rfl) (of_decide_eq_true (by kernel_rfl)) k1 bel lt1) trodAll_mk0)), rfl, bel.frame _, fun h => by cases h⟩

theorem over : Rows.slotsNeverTwiceRow.holds Try.pinned (OpenSpec.ofChange Rows.slotsNeverTwiceSpec) :=
  OpenClaim.holds_of_wide 3 Try.f3 rfl rfl rfl rfl rfl rfl rfl ⟨rfl, rfl, rfl, rfl, rfl⟩ rfl rfl rfl rfl rfl (by kernel_rfl) Try.func3 (by kernel_rfl)
    (of_decide_eq_true (by kernel_rfl)) (by unfold Func.isWrapper; first | (rw [if_pos (by decide +kernel)]; kernel_rfl) | (rw [if_neg (by decide +kernel)]; exact ⟨rfl, rfl⟩))
    (fun os started H enc _ => lifted os started H enc)

end Go.Proofs.Ytbmamikhjfieoaa.WSlotsNeverTwice

namespace Go.Proofs.Ytbmamikhjfieoaa
theorem slotsNeverTwice_holds : Rows.SlotsNeverTwiceSaid := WSlotsNeverTwice.over
#print axioms slotsNeverTwice_holds
end Go.Proofs.Ytbmamikhjfieoaa
