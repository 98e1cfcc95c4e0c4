/-
  HandlesKeepValues: for every int, every two slices of calls, every uint32 and every bool the law returns true; no condition (the slices lie within the form's own reach).
-/
import Derived.Test.YtbmamikhjfieoaaHop
import Derived.Test.YtbmamikhjfieoaaHkv
import Derived.Deep.CutRange
namespace Go.Proofs.Ytbmamikhjfieoaa.WHandlesKeepValues
open Go.ChangeShapes Go.WideShapes Go.ChangeAt Go.RowKit

set_option maxRecDepth 100000 in
set_option maxHeartbeats 4000000 in
set_option linter.unusedVariables false in
theorem walk (c : Int) (A : Option Addr) (m d : Nat) (f : Nat → C4) (A2 : Option Addr) (m2 d2 : Nat) (f2 : Nat → C4) (y0 : Int) (rp : Bool) (w : World) (w0 : (Lit.int .i64 c).wf = true) (w1 : CArg4 w A m d f) (w2 : CArg4 w A2 m2 d2 f2) (w3 : (Lit.int .u32 y0).wf = true) :
    Calls Try.prog 10 #[.int .i64 c, .slice A m d, .slice A2 m2 d2, .int .u32 y0, .bool rp] w fun e w' => e = .returned (.bool true) ∧ Below w.heap.size w w' := by
  obtain ⟨i0, hi0, hz0, hz1, hz2⟩ := info_parts info58
  obtain ⟨hy0, hy1⟩ := bounds_u32 w3
  have hm2 := w2.2.1
  have HC2 := hid w2
  clear w3 w2
  have hm0 := Int.emod_nonneg c (show (10 : Int) ≠ 0 by omega)
  have hm1 := Int.emod_lt_of_pos c (show (0 : Int) < 10 by omega)
  obtain ⟨n0, hn0⟩ := Int.eq_ofNat_of_zero_le hm0
  rw [hn0] at hm1
  have HM := hid hn0
  obtain ⟨n, hn⟩ : ∃ n, n = n0 + 2 := ⟨_, rfl⟩
  have HNN := hid (show (2 : Int) + (n0 : Int) = (n : Int) by omega)
  have hn9 : n0 ≤ 9 := by omega
  have hn1 : 1 ≤ n := by omega
  have hn30 : n ≤ 30 := by omega
  have HC := hid w1
  clear hm0 hm1 hn0 hn w1
  go_enter Try.func10, Try.ntmps10
  go_wp2_with fail
  refine (mod_any c 10 _ (by omega) (by omega)).mono ?_
  rintro e x1 ⟨rfl, rfl⟩
  rw [HM.out]
  go_wp2_with fail
  rw [HNN.out]
  refine (hplay_any n A m d f _ hn1 (by omega) HC.out).mono ?_
  rintro e x2 ⟨t, X, T, S, v, zs, rfl, hP, hb⟩
  have HP := hid hP
  clear hP
  go_wp2_with fail
  refine (hawake_any _).mono ?_
  rintro e x3 ⟨rfl, hb3⟩
  have HP3 := hid (HP.out.below hb3)
  have hb := hb.trans (hb3.mono hb.size)
  clear hb3
  obtain ⟨Ax, cx, hX, hN⟩ := HP3.out.nums
  subst hX
  have HN := hid hN
  obtain ⟨l, hl⟩ : ∃ l, l = zs.length := ⟨_, rfl⟩
  have HL := hid hl
  have hl150 : l ≤ 150 := by rw [hl]; exact HP3.out.iss.len
  rw [← hl] at HN ⊢
  clear hN hl
  rcases Nat.eq_zero_or_pos S.free with hf0 | hf0
  · have HF := hid hf0
    clear hf0
    go_wp2_with fail
    refine (HP3.out.t_ ▸ open_full y0 HP3.out.tab HP3.out.wf HF.out).mono ?_
    rintro e x4 ⟨rfl, hq⟩
    have hb4 := hb.trans ((hq.chg Nil).below hb.size (fun _ h => h.elim))
    clear hq
    go_wp2
    go_ret
    exact ⟨rfl, hb4⟩
  · have HF := hid hf0
    clear hf0
    go_wp2_with fail
    refine (HP3.out.t_ ▸ open_any y0 HP3.out.tab HP3.out.wf HF.out).mono ?_
    rintro e x4 ⟨rfl, hT4, hc4⟩
    have hnew := op_alloc_new HP3.out.wf HF.out
    obtain ⟨h, hh0⟩ : ∃ h, h = S.alloc.hdl S.next := ⟨_, rfl⟩
    have hh : h ≤ 18446744073709551615 := by rw [hh0]; exact (HP3.out.wf.alloc HF.out).hdl_le _ (by have := HP3.out.wf.next_ok HF.out; have := HP3.out.wf.n2; omega)
    rw [← hh0] at hnew ⊢
    have HKI0 : Hid (KI w.heap.size x4 t n h y0 (.slice none 0 0) T S.alloc (upd v S.next y0) [] 0) :=
      hid ⟨hT4, HP3.out.wf.alloc HF.out, by rw [S.alloc_n]; exact HP3.out.n_, HP3.out.t_, World.ownsRow_nil _ _ _ _, hnew.1, by rw [hnew.2]; simp [upd], fun _ h => (List.not_mem_nil h).elim, Nat.le_refl _⟩
    have HB4 := hid (hb.trans (HP3.out.tab.chg_below hc4))
    clear hT4 hc4 hnew hh0 hb
    go_upto_if 55 with fail
    go_cut [3] from 56 to 62 (fun v3 wc => ∃ (y : Int) (v' : Nat → Int), v3 = .int .u32 y ∧ Hid (KI w.heap.size wc t n h y (.slice none 0 0) T S.alloc v' [] 0) ∧ Below w.heap.size w wc)
    case first =>
      cases rp with
      | false =>
        go_wp2
        go_meet
        exact ⟨y0, _, rfl, HKI0, HB4.out⟩
      | true =>
        go_wp2_with fail
        refine (HKI0.out.t_ ▸ replace_yes h _ HKI0.out.tab HKI0.out.wf hh HKI0.out.op).mono ?_
        rintro e z1 ⟨rfl, hz⟩
        have hcz : Chg T.foot x4 z1 := by rw [hz]; exact (Chg.refl _ _).setCell (.inl (.inr (.inl rfl))) _
        have hTz := HKI0.out.tab.updv (ent h) (IntKind.u32.wrap (y0 + 1))
        have HBZ := hid (HB4.out.trans (HKI0.out.tab.chg_below hcz))
        have HZ := hid hz
        clear hz hcz
        have HTZ := hid hTz
        clear hTz
        go_wp2
        go_meet
        refine ⟨_, upd (upd v S.next y0) (ent h) (IntKind.u32.wrap (y0 + 1)), rfl, hid ⟨by rw [HZ.out]; exact HTZ.out, HKI0.out.wf, HKI0.out.n_, HKI0.out.t_, World.ownsRow_nil _ _ _ _, HKI0.out.op, if_pos rfl, fun _ h => (List.not_mem_nil h).elim, Nat.le_refl _⟩, HBZ.out⟩
    case rest =>
      obtain ⟨y, v', rfl, HKI, hb⟩ := hcut
      clear HKI0 HB4 HF HP HP3 HN
      obtain ⟨S1, hS1⟩ : ∃ S1, S1 = S.alloc := ⟨_, rfl⟩
      rw [← hS1] at HKI
      clear hS1
      go_wp2
      go_loopw [15, 16, 17, 18, 19, 20] (fun x i _ _ _ _ wr => ∃ (k : Nat) (T : TL) (S : SS) (v : Nat → Int) (ms : List Nat), k ≤ m2 ∧ k ≤ 100 ∧ i = .int .i64 k ∧ Hid (KI w.heap.size wr t n h y x T S v ms k) ∧ Below w.heap.size w wr) (fun _ i _ _ _ _ _ => m2 - (intOf i).toNat)
      case atStart => exact ⟨0, T, S1, v', [], Nat.zero_le _, by omega, rfl, HKI, hb⟩
      case round =>
        clear HKI hb
        obtain ⟨k, T, S, v, ms, hk, hk2, rfl, HKI, hb⟩ := hrel
        by_cases hlt : k < m2 ∧ k < 100
        · obtain ⟨hlt, hlt2⟩ := hlt
          obtain ⟨b, off, hA, hbl, ca, cb, cc, cd, hkd, hh', hv'⟩ := HC2.out.get hb (Nat.le_refl _) k hlt
          subst hA
          obtain ⟨⟨kd, hx, vl, r⟩, hfk⟩ : ∃ x, f2 k = x := ⟨_, rfl⟩
          rw [hfk] at ca cb cc cd hkd hh' hv'
          simp only at ca cb cc cd hkd hh' hv'
          have HB := hid hb
          have hlen := HKI.out.len
          clear hfk cb cd hkd hh' hb
          have hd100 : decide ((k : Int) < 100) = true := by simp; omega
          go_upto_region 15 with fail
          go_cut [84] from 73 to 84 (fun v84 wc => ∃ bp : Bool, v84 = .bool bp ∧ wc = wr ∧ (bp = true → 0 < ms.length))
          case first =>
            obtain ⟨Am, cm, hxm, hNm⟩ := own_nums (k := .u64) (F := Nil) HKI.out.own (fun _ h => h.elim)
            subst hxm
            clear hNm
            by_cases hml : 0 < ms.length
            · cases hk3 : (kd.tmod 3 == 0) with
              | true =>
                go_wp2
                go_meet
                exact ⟨true, rfl, rfl, fun _ => hml⟩
              | false =>
                go_wp2
                go_meet
                exact ⟨false, rfl, rfl, fun h => by cases h⟩
            · cases hk3 : (kd.tmod 3 == 0) with
              | true =>
                go_wp2
                go_meet
                exact ⟨false, rfl, rfl, fun h => by cases h⟩
              | false =>
                go_wp2
                go_meet
                exact ⟨false, rfl, rfl, fun h => by cases h⟩
          case rest =>
          obtain ⟨bp, rfl, rfl, hbp⟩ := hcut
          have HBP := hid hbp
          clear hbp
          go_upto_if 84 with fail
          go_cut [15, 17, 18] from 85 to 113 (fun v15 _ _ wc => ∃ (T : TL) (S : SS) (v : Nat → Int) (ms : List Nat), Hid (KI w.heap.size wc t n h y v15 T S v ms (k + 1)) ∧ Below w.heap.size w wc)
          case first =>
            cases bp with
            | true =>
              obtain ⟨g, j, cj, z, zs, hx, hms, hzl, hjc, hcm, cz⟩ := HKI.out.top (HBP.out rfl)
              subst hx hms
              have HNE := hid (HKI.out.ne z (by simp))
              have hj99 : j + 1 ≤ 100 := by simp at hlen; omega
              unfold maxLen at hcm
              have HZL := hid hzl
              have ej : ((j : Int) + 1 - 1) = (j : Int) := by omega
              clear hzl hlen
              go_wp2_with fail
              refine (ki_close z HKI.out HNE.out.1 HNE.out.2).mono ?_
              rintro e z1 ⟨a1, r1, T1, S1, rfl, hk1, hb1⟩
              have HK1 := hid (hk1.pop HZL.out)
              have HB1 := hid (HB.out.trans hb1)
              clear hk1 hb1 cz ca cc
              go_wp2
              go_meet
              exact ⟨T1, S1, v, zs, hid HK1.out.more, HB1.out⟩
            | false =>
              rcases Nat.eq_zero_or_pos S.free with hf0 | hf0
              · have HF := hid hf0
                clear hf0
                go_wp2_with fail
                refine (ki_open_full (vl : Int) HKI.out HF.out).mono ?_
                rintro e z1 ⟨rfl, hk1, hb1⟩
                have HK1 := hid hk1.more
                have HB1 := hid (HB.out.trans hb1)
                clear hk1 hb1 ca cc
                go_wp2
                go_meet
                exact ⟨T, S, v, ms, HK1, HB1.out⟩
              · have HF := hid hf0
                clear hf0
                go_wp2_with fail
                refine (ki_open (vl : Int) HKI.out HF.out).mono ?_
                rintro e z1 ⟨rfl, hk1, hb1⟩
                have HNE := hid (HKI.out.new_ne HF.out)
                obtain ⟨z, hz⟩ : ∃ z, z = S.alloc.hdl S.next := ⟨_, rfl⟩
                rw [← hz] at HNE ⊢
                obtain ⟨l, hl⟩ : ∃ l, l = ms.length := ⟨_, rfl⟩
                have HL := hid hl
                have hl2 : l ≤ 100 := by omega
                have HX : Hid (z1.ownsRow w.heap.size 58 1 u15 l ((natsI ms).map (Value.int .u64))) := hid (by rw [hl]; exact hk1.own)
                have HS1 := hid (hk1.size_le)
                have HK1 := hid hk1
                have HB1 := hid (HB.out.trans hb1)
                clear hk1 hb1 ca cc hz hl
                go_wp2_with (at_builtin; refine wpList_append_both rfl (.tmp 110) (.tmp 112) 62 rfl w.heap.size 58 i0 (.int .u64 0) 8 Try.underlying62 hi0 hz0 hz1 hz2 rfl u15 l _ rfl (HX.out.alloc _) (some ⟨z1.heap.size, 0, none⟩) 1 1 [.int .u64 (z : Int)] rfl (fun h => by cases h) (by simp) (fun ad had => by injection had with had; subst had; exact cell_one_new _ _ _) (by intro u hu; simp at hu; subst hu; rfl) (by unfold maxLen; omega) (by omega) (by have := HS1.out; simp; omega) ?_)
                intro x' z2 hown2 hc2
                have hc2' : Chg (fun k => u15.ownBlock = some k) z1 z2 := ((Chg.refl _ z1).alloc _).trans hc2 (fun _ h => .inl h)
                have HK2 := hid (HK1.out.push HNE.out (by rw [← HL.out]; exact hown2) hc2')
                have HB2 := hid (HB1.out.trans (hc2'.below HS1.out (fun k hk => (HX.out.lt k hk).1)))
                clear hown2 hc2 hc2'
                go_wp2
                go_meet
                exact ⟨T, S.alloc, _, _, HK2, HB2.out⟩
          case rest =>
            obtain ⟨T, S, v, ms, HKI, hb⟩ := hcut
            go_wp2_with fail
            refine (ki_lookup HKI.out hh).mono ?_
            rintro e z1 ⟨rfl, rfl⟩
            go_wp2
            go_roundw
            case rel => exact ⟨k + 1, T, S, v, ms, by omega, by omega, by first | rfl | go_num, HKI, hb⟩
            case measure => simp [intOf]; omega
        · by_cases hkm : k < m2
          · have h100 : 100 ≤ k := by omega
            clear hlt
            have HK := HKI.out
            have ho := HK.op
            have hn2 := HK.wf.n2
            have HOP := hid ho
            clear ho
            go_wp2_with fail
            refine (HK.t_ ▸ HK.val ▸ close_yes h HK.tab HK.wf hh HOP.out).mono ?_
            rintro e z1 ⟨T1, rfl, ht1, hT1, hc1, _⟩
            have HT1 := hid hT1
            have HE1 := hid ht1
            have HB1 := hid (hb.trans (HK.tab.chg_below hc1))
            have HW1 := hid (HK.wf.release (SS.op_on HOP.out).1)
            have HV := hid HK.val
            have HTT := hid HK.t_
            have HCA := hid (op_closed_alloc HK.wf h HOP.out)
            have HFR := hid (free_release S (ent h))
            clear hT1 ht1 hc1 hb HK
            go_wp2_with fail
            refine (HE1.out ▸ open_any 1 HT1.out HW1.out HFR.out).mono ?_
            rintro e z2 ⟨rfl, hT2, hc2⟩
            have HT2 := hid hT2
            have HB2 := hid (HB1.out.trans (HT1.out.chg_below hc2))
            have HW2 := hid (HW1.out.alloc HFR.out)
            clear hT2 hc2
            go_wp2_with fail
            refine (HE1.out ▸ lookup_no h HT2.out HW2.out hh HCA.out).mono ?_
            rintro e z3 ⟨rfl, rfl⟩
            go_wp2_with fail
            refine (HE1.out ▸ close_no h HT2.out HW2.out hh HCA.out).mono ?_
            rintro e z3 ⟨rfl, rfl⟩
            go_wp2_with fail
            refine (HE1.out ▸ replace_no h 1 HT2.out HW2.out hh HCA.out).mono ?_
            rintro e z3 ⟨rfl, rfl⟩
            go_wp2
            go_ret
            exact ⟨rfl, HB2.out⟩
          · clear hlt
            have HK := HKI.out
            have ho := HK.op
            have hn2 := HK.wf.n2
            have HOP := hid ho
            clear ho
            go_wp2_with fail
            refine (HK.t_ ▸ HK.val ▸ close_yes h HK.tab HK.wf hh HOP.out).mono ?_
            rintro e z1 ⟨T1, rfl, ht1, hT1, hc1, _⟩
            have HT1 := hid hT1
            have HE1 := hid ht1
            have HB1 := hid (hb.trans (HK.tab.chg_below hc1))
            have HW1 := hid (HK.wf.release (SS.op_on HOP.out).1)
            have HV := hid HK.val
            have HTT := hid HK.t_
            have HCA := hid (op_closed_alloc HK.wf h HOP.out)
            have HFR := hid (free_release S (ent h))
            clear hT1 ht1 hc1 hb HK
            go_wp2_with fail
            refine (HE1.out ▸ open_any 1 HT1.out HW1.out HFR.out).mono ?_
            rintro e z2 ⟨rfl, hT2, hc2⟩
            have HT2 := hid hT2
            have HB2 := hid (HB1.out.trans (HT1.out.chg_below hc2))
            have HW2 := hid (HW1.out.alloc HFR.out)
            clear hT2 hc2
            go_wp2_with fail
            refine (HE1.out ▸ lookup_no h HT2.out HW2.out hh HCA.out).mono ?_
            rintro e z3 ⟨rfl, rfl⟩
            go_wp2_with fail
            refine (HE1.out ▸ close_no h HT2.out HW2.out hh HCA.out).mono ?_
            rintro e z3 ⟨rfl, rfl⟩
            go_wp2_with fail
            refine (HE1.out ▸ replace_no h 1 HT2.out HW2.out hh HCA.out).mono ?_
            rintro e z3 ⟨rfl, rfl⟩
            go_wp2
            go_ret
            exact ⟨rfl, HB2.out⟩


set_option maxRecDepth 100000 in
set_option linter.unusedVariables false in
theorem lifted (os : Os) (started : os.Started) (H : Type) (enc : TypeId × Value → H) :
    ReturnsInHanded {} Try.checked os 10 .any (Rows.handlesKeepValuesSpec.pre6 enc Try.prog Try.f10 Rows.handlesKeepValuesRow.domain false) (Rows.handlesKeepValuesSpec.post enc Try.prog Try.f10 false true false false) := by
  refine returnsInHanded_of_change_sized (C := Try.checked) own started (by kernel_rfl) Try.func10
    (ChangeSpec.witness6 (enc := enc) (C := Try.checked) false ⟨#[], #[.int .i64 0, .slice none 0 0, .slice none 0 0, .int .u32 0, .bool false], []⟩ 8 (by kernel_rfl) (by kernel_rfl) (by kernel_rfl) (by kernel_rfl)) ?_
  intro W base args ds gs before hval0 hW hcnd hsz0 _
  have hsz : (DataW.weightsEach Try.prog (Try.f10.params.toList ++ Rows.handlesKeepValuesSpec.plain.varTypes Try.prog) (ds ++ gs)).all (· ≤ reachBytes) = true := hsz0
  clear hsz0
  have hval : ∀ (j : Nat) t v, Try.f10.params[j]? = some t → args[j]? = some v → Value.okWide Try.prog W .any base t v := hval0
  have hW' := hW
  obtain ⟨p, q, hA0, hV, rfl, hfz, hnd⟩ := hW
  have hA : DataW.TrodAll enc Try.prog W 0 (fun _ => true) true Try.f10.params.toList args.toList ds p := hA0
  rw [Try.params10] at hA hval hsz
  obtain ⟨v0, vs0, d0, ds0, p0, q0, hargs, rfl, rfl, h0, r0⟩ := trodAll_cons hA
  obtain ⟨v1, vs1, d1, ds1, p1, q1, rfl, rfl, rfl, h1, r1⟩ := trodAll_cons r0
  obtain ⟨v2, vs2, d2, ds2, p2, q2, rfl, rfl, rfl, h2, r2⟩ := trodAll_cons r1
  obtain ⟨v3, vs3, d3, ds3, p3, q3, rfl, rfl, rfl, h3, r3⟩ := trodAll_cons r2
  obtain ⟨v4, vs4, d4, ds4, p4, q4, rfl, rfl, rfl, h4, r4⟩ := trodAll_cons r3
  obtain ⟨rfl, rfl, rfl⟩ := trodAll_nil r4
  obtain rfl : args = #[v0, v1, v2, v3, v4] := by cases args; simp_all
  obtain ⟨rfl, rfl⟩ := trodVars_none hV
  obtain ⟨a0, rfl, rfl, rfl, w0⟩ := open_int Try.underlying3 (hval 0 3 v0 rfl rfl) h0
  obtain ⟨a1, len1, cap1, rfl⟩ := okWide_slice Try.underlying61 (hval 1 61 v1 rfl rfl)
  have k1 := h1
  have lt1 : ∀ x ∈ p1, x.block < W.heap.size := by obtain ⟨m, hm⟩ := k1; exact DataW.trod_lt m _ _ _ hm
  obtain ⟨z1, w1⟩ : ∃ zs, CArg4 W a1 len1 cap1 zs := CArg4.open_ (j := 1) k1 hsz rfl rfl
  obtain ⟨a2, len2, cap2, rfl⟩ := okWide_slice Try.underlying61 (hval 2 61 v2 rfl rfl)
  have k2 := h2
  have lt2 : ∀ x ∈ p2, x.block < W.heap.size := by obtain ⟨m, hm⟩ := k2; exact DataW.trod_lt m _ _ _ hm
  obtain ⟨z2, w2⟩ : ∃ zs, CArg4 W a2 len2 cap2 zs := CArg4.open_ (j := 2) k2 hsz rfl rfl
  obtain ⟨a3, rfl, rfl, rfl, w3⟩ := open_int Try.underlying30 (hval 3 30 v3 rfl rfl) h3
  obtain ⟨a4, rfl, rfl, rfl⟩ := open_bool Try.underlying4 (hval 4 4 v4 rfl rfl) h4
  clear hA0 hval0
  refine (walk a0 a1 len1 cap1 z1 a2 len2 cap2 z2 a3 a4 W w0 w1 w2 w3).mono fun e W' ⟨he, bel⟩ => ?_
  subst he
  exact ⟨_, rfl, _, _, _, [], _, [], hW', trodAll_mk1 (shut_bool Try.underlying4 _), (trodAll_cons_mk (shut_int Try.underlying3 w0) (trodAll_cons_mk (Below.trod laidOut (by kernel_rfl) (of_decide_eq_true (by kernel_rfl)) k1 bel lt1) (trodAll_cons_mk (Below.trod laidOut (by kernel_rfl) (of_decide_eq_true (by kernel_rfl)) k2 bel lt2) (trodAll_cons_mk (shut_int Try.underlying30 w3) (trodAll_cons_mk (shut_bool Try.underlying4 _) trodAll_mk0))))), rfl, bel.frame _, fun h => by cases h⟩

theorem over : Rows.handlesKeepValuesRow.holds Try.pinned (OpenSpec.ofChange Rows.handlesKeepValuesSpec) :=
  OpenClaim.holds_of_wide 10 Try.f10 rfl rfl rfl rfl rfl rfl rfl ⟨rfl, rfl, rfl, rfl, rfl⟩ rfl rfl rfl rfl rfl (by kernel_rfl) Try.func10 (by kernel_rfl)
    (of_decide_eq_true (by kernel_rfl)) (by unfold Func.isWrapper; first | (rw [if_pos (by decide +kernel)]; kernel_rfl) | (rw [if_neg (by decide +kernel)]; exact ⟨rfl, rfl⟩))
    (fun os started H enc _ => lifted os started H enc)

end Go.Proofs.Ytbmamikhjfieoaa.WHandlesKeepValues

namespace Go.Proofs.Ytbmamikhjfieoaa
theorem handlesKeepValues_holds : Rows.HandlesKeepValuesSaid := WHandlesKeepValues.over
#print axioms handlesKeepValues_holds
end Go.Proofs.Ytbmamikhjfieoaa
