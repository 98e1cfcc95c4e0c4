/-
  SlotsAreReusedFirst: for every int, every slice of calls and every uint32 the law returns true; no condition (the slice lies within the form's own reach).
-/
import Derived.Test.YtbmamikhjfieoaaOpen
namespace Go.Proofs.Ytbmamikhjfieoaa.WSlotsAreReusedFirst
open Go.ChangeShapes Go.WideShapes Go.ChangeAt Go.RowKit

set_option maxRecDepth 100000 in
set_option maxHeartbeats 4000000 in
set_option linter.unusedVariables false in
theorem walk (c : Int) (A : Option Addr) (m d : Nat) (f : Nat → Bool × Nat) (sl : Int) (w : World) (w0 : (Lit.int .i64 c).wf = true) (w1 : CArg3 w A m d f) (w2 : (Lit.int .u32 sl).wf = true) :
    Calls Try.prog 7 #[.int .i64 c, .slice A m d, .int .u32 sl] w fun e w' => e = .returned (.bool true) ∧ Below w.heap.size w w' := by
  obtain ⟨s0, s1⟩ := bounds_u32 w2
  obtain ⟨s, rfl⟩ := Int.eq_ofNat_of_zero_le s0
  clear w2
  have hm0 := Int.emod_nonneg c (show (30 : Int) ≠ 0 by omega)
  have hm1 := Int.emod_lt_of_pos c (show (0 : Int) < 30 by omega)
  obtain ⟨n0, hn0⟩ := Int.eq_ofNat_of_zero_le hm0
  rw [hn0] at hm1
  have HM := hid hn0
  obtain ⟨n, hn⟩ : ∃ n, n = n0 + 1 := ⟨_, rfl⟩
  have HNN := hid (show (1 : Int) + (n0 : Int) = (n : Int) by omega)
  have hn29 : n0 ≤ 29 := by omega
  have hn1 : 1 ≤ n := by omega
  have hn30 : n ≤ 30 := by omega
  obtain ⟨hC, _, hm⟩ := w1
  have HC := hid hC
  clear hm0 hm1 hn0 hn hC
  have hr := Nat.mod_lt s (show 0 < n by omega)
  obtain ⟨r, hrr⟩ : ∃ r, r = s % n := ⟨_, rfl⟩
  rw [← hrr] at hr
  have HR : Hid ((s : Int) % (n : Int) = (r : Int)) := hid (by rw [hrr]; exact (Int.natCast_emod s n).symm)
  have HR1 := hid (show ((1 : Int) + (r : Int)) % 4294967296 = ((r + 1 : Nat) : Int) by omega)
  clear hrr
  go_enter Try.func7, Try.ntmps7
  go_wp2_with fail
  refine (mod_any c 30 _ (by omega) (by omega)).mono ?_
  rintro e x1 ⟨rfl, rfl⟩
  rw [HM.out]
  go_wp2_with fail
  rw [HNN.out]
  refine (play_any n A m d f _ hn1 (by omega) HC.out hm).mono ?_
  rintro e x2 ⟨g, rfl, ⟨L, S, hS, hw, hSn, hg⟩, hb⟩
  have HS := hid hS
  have HW := hid hw
  have HN := hid hSn
  have HG := hid hg
  clear hS hw hSn hg
  go_wp2_with fail
  refine (awake_any _).mono ?_
  rintro e x3 ⟨rfl, hb3⟩
  have HS3 := hid (HS.out.below hb3)
  have hb := hb.trans (hb3.mono hb.size)
  clear hb3
  rw [← HG.out]
  go_wp2_with fail
  rw [HR.out]
  rw [HR1.out]
  cases hon : S.on (r + 1) with
  | false =>
    have HON := hid hon
    clear hon
    refine (release_no (r + 1) HS3.out HW.out (by omega) HON.out).mono ?_
    rintro e x4 ⟨rfl, rfl⟩
    obtain ⟨L1, hL1⟩ : ∃ L1, L1 = L := ⟨_, rfl⟩
    obtain ⟨T, hT⟩ : ∃ T, T = S := ⟨_, rfl⟩
    rw [← hL1]
    have HS5 : Hid (SAt w.heap.size x3 L1 T) := hid (by rw [hL1, hT]; exact HS3.out)
    have HW5 : Hid T.wf := hid (by rw [hT]; exact HW.out)
    have hb5 := hb
    clear hL1 hT hb
    go_wp2_with fail
    refine (order_any HS5.out HW5.out).mono ?_
    rintro e x5 ⟨O, cO, rfl, hO, hS6, hb6⟩
    obtain ⟨N, hN⟩ : ∃ N, N = T.free := ⟨_, rfl⟩
    rw [← hN] at hO ⊢
    have HNF := hid hN
    have hNle : N ≤ 65536 := by rw [hN]; have := HW5.out.free_le; have := HW5.out.n2; omega
    have HO := hid (hO.weak (F' := L1.foot) (fun i hi => HS5.out.foot_lt hi))
    have hb7 := hb5.trans (hb6.mono hb5.size)
    have HS6 := hid hS6
    clear hO hN hS6 hb6 hb5
    go_wp2
    go_loopw [12] (fun i wr => ∃ (k : Nat) (Z : SS), k ≤ N ∧ i = .int .i64 k ∧ Hid (SAt w.heap.size wr L1 Z) ∧ Hid Z.wf ∧ Hid (Z.ord = T.ord.drop k) ∧ Hid (Nums .u32 L1.foot wr O N (natsI T.ord)) ∧ Below w.heap.size w wr) (fun i _ => N - (intOf i).toNat)
    case atStart => exact ⟨0, T, Nat.zero_le _, rfl, HS6, HW5, hid rfl, HO, hb7⟩
    case round =>
      clear hb7 HS6 HO
      obtain ⟨k, Z, hk, rfl, HS6, HWZ, HOZ, HO, hb⟩ := hrel
      have HTL := hid (show T.ord.length = N by rw [T.ord_len, HNF.out])
      by_cases hlt : k < N
      · have hzf : 0 < Z.free := by rw [← Z.ord_len, HOZ.out, List.length_drop, HTL.out]; omega
        have hor := HWZ.out.ord_alloc hzf
        have hdr : T.ord.drop k = T.ord.getD k 0 :: T.ord.drop (k + 1) := by
          rw [List.drop_eq_getElem_cons (by rw [HTL.out]; exact hlt)]
          simp [List.getD, HTL.out, hlt]
        rw [HOZ.out, hdr] at hor
        injection hor with hz1 hz2
        obtain ⟨z, hz⟩ : ∃ z, z = T.ord.getD k 0 := ⟨_, rfl⟩
        rw [← hz] at hz1
        have HZ1 := hid hz1
        have HZ2 := hid hz2
        have HZ := hid hz
        have HZF := hid hzf
        clear hzf hdr hz1 hz2 hz
        go_wp2_with fail
        refine (alloc_any HS6.out HWZ.out HZF.out).mono ?_
        rintro e y1 ⟨rfl, hS7, hc7⟩
        rw [← HZ1.out]
        have HS7 := hid hS7
        have HO7 := hid (HO.out.keep hc7 (fun _ h => h) (fun _ h => .inl h))
        have hb8 := hb.trans (HS6.out.chg_below hc7)
        obtain ⟨b, off, hAe, hbl, _, hcell⟩ := HO7.out.2 (by omega)
        subst hAe
        have hck := hcell k hlt
        rw [natsI_getD, ← HZ.out] at hck
        clear hS7 hc7 hb hcell hbl HS6
        go_wp2
        go_roundw
        case rel => exact ⟨k + 1, _, by omega, by first | rfl | go_num, HS7, hid (HWZ.out.alloc HZF.out), hid HZ2.out.symm, HO7, hb8⟩
        case measure => simp [intOf]; omega
      · have hkN : k = N := by omega
        subst hkN
        have HZ0 : Hid (Z.free = 0) := hid (by rw [← Z.ord_len, HOZ.out, List.length_drop, HTL.out]; omega)
        go_wp2_with fail
        refine (alloc_full HS6.out HWZ.out HZ0.out).mono ?_
        rintro e y1 ⟨rfl, hq⟩
        have HS7 := hid (HS6.out.qt hq)
        have hb8 := hb.trans ((hq.chg Nil).below hb.size (fun _ h => h.elim))
        clear hq hb
        go_wp2_with fail
        refine (free_any HS7.out HWZ.out).mono ?_
        rintro e y2 ⟨rfl, hq⟩
        rw [HZ0.out]
        have HS8 := hid (HS7.out.qt hq)
        have hb9 := hb8.trans ((hq.chg Nil).below hb8.size (fun _ h => h.elim))
        clear hq hb8
        go_wp2_with fail
        refine (order_any HS8.out HWZ.out).mono ?_
        rintro e y3 ⟨O2, cO2, rfl, hO2, _, hb10⟩
        rw [HZ0.out]
        clear hO2
        go_wp2
        go_ret
        exact ⟨rfl, hb9.trans (hb10.mono hb9.size)⟩
  | true =>
    have HON := hid hon
    clear hon
    refine (release_any (r + 1) HS3.out HW.out HS3.out.size_le HON.out).mono ?_
    rintro e x4 ⟨L1, rfl, hg1, hS4, hc4, _⟩
    rw [← hg1]
    have HS4 := hid hS4
    have HW5 := hid (HW.out.release HON.out)
    have hb4 := hb.trans (HS3.out.chg_below hc4)
    clear hS4 hc4 hb hg1
    go_wp2_with fail
    refine (order_any HS4.out HW5.out).mono ?_
    rintro e x5 ⟨P, cP, rfl, hP, hS5, hbP⟩
    have hb5 := hb4.trans (hbP.mono hb4.size)
    have hPf : 0 < (S.release (r + 1)).free := by simp [SS.free, SS.release]; omega
    obtain ⟨bp, offp, hPe, _, _, hcp⟩ := hP.2 hPf
    subst hPe
    have hck0 : x5.cell? ⟨bp, offp, none⟩ = some (.int .u32 ((r + 1 : Nat) : Int)) := by
      have := hcp 0 hPf
      rw [natsI_getD, S.ord_release] at this
      simpa using this
    obtain ⟨T, hT⟩ : ∃ T, T = S.release (r + 1) := ⟨_, rfl⟩
    rw [← hT] at HW5 hPf ⊢
    have HS5 : Hid (SAt w.heap.size x5 L1 T) := hid (by rw [hT]; exact hS5)
    obtain ⟨M, hM⟩ : ∃ M, M = T.free := ⟨_, rfl⟩
    rw [← hM] at hPf ⊢
    have hMn : ((M : Int) == 0) = false := by simp; omega
    have HM2 := hid hM
    have hMle : M ≤ 65536 := by rw [hM]; have := HW5.out.free_le; have := HW5.out.n2; omega
    clear hP hS5 hb4 hbP hcp hT hM HS4
    go_wp2_with fail
    refine (order_any HS5.out HW5.out).mono ?_
    rintro e x5 ⟨O, cO, rfl, hO, hS6, hb6⟩
    obtain ⟨N, hN⟩ : ∃ N, N = T.free := ⟨_, rfl⟩
    rw [← hN] at hO ⊢
    have HNF := hid hN
    have hNle : N ≤ 65536 := by rw [hN]; have := HW5.out.free_le; have := HW5.out.n2; omega
    have HO := hid (hO.weak (F' := L1.foot) (fun i hi => HS5.out.foot_lt hi))
    have hb7 := hb5.trans (hb6.mono hb5.size)
    have HS6 := hid hS6
    clear hO hN hS6 hb6 hb5
    go_wp2
    go_loopw [12] (fun i wr => ∃ (k : Nat) (Z : SS), k ≤ N ∧ i = .int .i64 k ∧ Hid (SAt w.heap.size wr L1 Z) ∧ Hid Z.wf ∧ Hid (Z.ord = T.ord.drop k) ∧ Hid (Nums .u32 L1.foot wr O N (natsI T.ord)) ∧ Below w.heap.size w wr) (fun i _ => N - (intOf i).toNat)
    case atStart => exact ⟨0, T, Nat.zero_le _, rfl, HS6, HW5, hid rfl, HO, hb7⟩
    case round =>
      clear hb7 HS6 HO
      obtain ⟨k, Z, hk, rfl, HS6, HWZ, HOZ, HO, hb⟩ := hrel
      have HTL := hid (show T.ord.length = N by rw [T.ord_len, HNF.out])
      by_cases hlt : k < N
      · have hzf : 0 < Z.free := by rw [← Z.ord_len, HOZ.out, List.length_drop, HTL.out]; omega
        have hor := HWZ.out.ord_alloc hzf
        have hdr : T.ord.drop k = T.ord.getD k 0 :: T.ord.drop (k + 1) := by
          rw [List.drop_eq_getElem_cons (by rw [HTL.out]; exact hlt)]
          simp [List.getD, HTL.out, hlt]
        rw [HOZ.out, hdr] at hor
        injection hor with hz1 hz2
        obtain ⟨z, hz⟩ : ∃ z, z = T.ord.getD k 0 := ⟨_, rfl⟩
        rw [← hz] at hz1
        have HZ1 := hid hz1
        have HZ2 := hid hz2
        have HZ := hid hz
        have HZF := hid hzf
        clear hzf hdr hz1 hz2 hz
        go_wp2_with fail
        refine (alloc_any HS6.out HWZ.out HZF.out).mono ?_
        rintro e y1 ⟨rfl, hS7, hc7⟩
        rw [← HZ1.out]
        have HS7 := hid hS7
        have HO7 := hid (HO.out.keep hc7 (fun _ h => h) (fun _ h => .inl h))
        have hb8 := hb.trans (HS6.out.chg_below hc7)
        obtain ⟨b, off, hAe, hbl, _, hcell⟩ := HO7.out.2 (by omega)
        subst hAe
        have hck := hcell k hlt
        rw [natsI_getD, ← HZ.out] at hck
        clear hS7 hc7 hb hcell hbl HS6
        go_wp2
        go_roundw
        case rel => exact ⟨k + 1, _, by omega, by first | rfl | go_num, HS7, hid (HWZ.out.alloc HZF.out), hid HZ2.out.symm, HO7, hb8⟩
        case measure => simp [intOf]; omega
      · have hkN : k = N := by omega
        subst hkN
        have HZ0 : Hid (Z.free = 0) := hid (by rw [← Z.ord_len, HOZ.out, List.length_drop, HTL.out]; omega)
        go_wp2_with fail
        refine (alloc_full HS6.out HWZ.out HZ0.out).mono ?_
        rintro e y1 ⟨rfl, hq⟩
        have HS7 := hid (HS6.out.qt hq)
        have hb8 := hb.trans ((hq.chg Nil).below hb.size (fun _ h => h.elim))
        clear hq hb
        go_wp2_with fail
        refine (free_any HS7.out HWZ.out).mono ?_
        rintro e y2 ⟨rfl, hq⟩
        rw [HZ0.out]
        have HS8 := hid (HS7.out.qt hq)
        have hb9 := hb8.trans ((hq.chg Nil).below hb8.size (fun _ h => h.elim))
        clear hq hb8
        go_wp2_with fail
        refine (order_any HS8.out HWZ.out).mono ?_
        rintro e y3 ⟨O2, cO2, rfl, hO2, _, hb10⟩
        rw [HZ0.out]
        clear hO2
        go_wp2
        go_ret
        exact ⟨rfl, hb9.trans (hb10.mono hb9.size)⟩


set_option maxRecDepth 100000 in
set_option linter.unusedVariables false in
theorem lifted (os : Os) (started : os.Started) (H : Type) (enc : TypeId × Value → H) :
    ReturnsInHanded {} Try.checked os 7 .any (Rows.slotsAreReusedFirstSpec.pre6 enc Try.prog Try.f7 Rows.slotsAreReusedFirstRow.domain false) (Rows.slotsAreReusedFirstSpec.post enc Try.prog Try.f7 false true false false) := by
  refine returnsInHanded_of_change_sized (C := Try.checked) own started (by kernel_rfl) Try.func7
    (ChangeSpec.witness6 (enc := enc) (C := Try.checked) false ⟨#[], #[.int .i64 0, .slice none 0 0, .int .u32 0], []⟩ 8 (by kernel_rfl) (by kernel_rfl) (by kernel_rfl) (by kernel_rfl)) ?_
  intro W base args ds gs before hval0 hW hcnd hsz0 _
  have hsz : (DataW.weightsEach Try.prog (Try.f7.params.toList ++ Rows.slotsAreReusedFirstSpec.plain.varTypes Try.prog) (ds ++ gs)).all (· ≤ reachBytes) = true := hsz0
  clear hsz0
  have hval : ∀ (j : Nat) t v, Try.f7.params[j]? = some t → args[j]? = some v → Value.okWide Try.prog W .any base t v := hval0
  have hW' := hW
  obtain ⟨p, q, hA0, hV, rfl, hfz, hnd⟩ := hW
  have hA : DataW.TrodAll enc Try.prog W 0 (fun _ => true) true Try.f7.params.toList args.toList ds p := hA0
  rw [Try.params7] at hA hval hsz
  obtain ⟨v0, vs0, d0, ds0, p0, q0, hargs, rfl, rfl, h0, r0⟩ := trodAll_cons hA
  obtain ⟨v1, vs1, d1, ds1, p1, q1, rfl, rfl, rfl, h1, r1⟩ := trodAll_cons r0
  obtain ⟨v2, vs2, d2, ds2, p2, q2, rfl, rfl, rfl, h2, r2⟩ := trodAll_cons r1
  obtain ⟨rfl, rfl, rfl⟩ := trodAll_nil r2
  obtain rfl : args = #[v0, v1, v2] := by cases args; simp_all
  obtain ⟨rfl, rfl⟩ := trodVars_none hV
  obtain ⟨a0, rfl, rfl, rfl, w0⟩ := open_int Try.underlying3 (hval 0 3 v0 rfl rfl) h0
  obtain ⟨a1, len1, cap1, rfl⟩ := okWide_slice Try.underlying22 (hval 1 22 v1 rfl rfl)
  have k1 := h1
  have lt1 : ∀ x ∈ p1, x.block < W.heap.size := by obtain ⟨m, hm⟩ := k1; exact DataW.trod_lt m _ _ _ hm
  obtain ⟨z1, w1⟩ : ∃ zs, CArg3 W a1 len1 cap1 zs := CArg3.open_ (j := 1) k1 hsz rfl rfl
  obtain ⟨a2, rfl, rfl, rfl, w2⟩ := open_int Try.underlying30 (hval 2 30 v2 rfl rfl) h2
  clear hA0 hval0
  refine (walk a0 a1 len1 cap1 z1 a2 W w0 w1 w2).mono fun e W' ⟨he, bel⟩ => ?_
  subst he
  exact ⟨_, rfl, _, _, _, [], _, [], hW', trodAll_mk1 (shut_bool Try.underlying4 _), (trodAll_cons_mk (shut_int Try.underlying3 w0) (trodAll_cons_mk (Below.trod laidOut (by kernel_rfl) (of_decide_eq_true (by kernel_rfl)) k1 bel lt1) (trodAll_cons_mk (shut_int Try.underlying30 w2) trodAll_mk0))), rfl, bel.frame _, fun h => by cases h⟩

theorem over : Rows.slotsAreReusedFirstRow.holds Try.pinned (OpenSpec.ofChange Rows.slotsAreReusedFirstSpec) :=
  OpenClaim.holds_of_wide 7 Try.f7 rfl rfl rfl rfl rfl rfl rfl ⟨rfl, rfl, rfl, rfl, rfl⟩ rfl rfl rfl rfl rfl (by kernel_rfl) Try.func7 (by kernel_rfl)
    (of_decide_eq_true (by kernel_rfl)) (by unfold Func.isWrapper; first | (rw [if_pos (by decide +kernel)]; kernel_rfl) | (rw [if_neg (by decide +kernel)]; exact ⟨rfl, rfl⟩))
    (fun os started H enc _ => lifted os started H enc)

end Go.Proofs.Ytbmamikhjfieoaa.WSlotsAreReusedFirst

namespace Go.Proofs.Ytbmamikhjfieoaa
theorem slotsAreReusedFirst_holds : Rows.SlotsAreReusedFirstSaid := WSlotsAreReusedFirst.over
#print axioms slotsAreReusedFirst_holds
end Go.Proofs.Ytbmamikhjfieoaa
