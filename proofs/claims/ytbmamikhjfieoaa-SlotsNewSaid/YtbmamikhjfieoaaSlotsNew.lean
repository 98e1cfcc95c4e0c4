/-
  SlotsNew: for every two ints the law returns true; no condition.
-/
import Derived.Test.YtbmamikhjfieoaaOpen
namespace Go.Proofs.Ytbmamikhjfieoaa.WSlotsNew
open Go.ChangeShapes Go.WideShapes Go.ChangeAt Go.RowKit

set_option maxRecDepth 100000 in
set_option maxHeartbeats 4000000 in
set_option linter.unusedVariables false in
theorem walk (c small : Int) (w : World) (w0 : (Lit.int .i64 c).wf = true) (w1 : (Lit.int .i64 small).wf = true) :
    Calls Try.prog 4 #[.int .i64 c, .int .i64 small] w fun e w' => e = .returned (.bool true) ∧ Below w.heap.size w w' := by
  obtain ⟨c0, c1⟩ := bounds_i64 w0
  clear w0 w1
  have hm0 := Int.emod_nonneg small (show (40 : Int) ≠ 0 by omega)
  have hm1 := Int.emod_lt_of_pos small (show (0 : Int) < 40 by omega)
  obtain ⟨m, hm⟩ := Int.eq_ofNat_of_zero_le hm0
  rw [hm] at hm1
  have HM := hid hm
  have hm39 : m ≤ 39 := by omega
  clear hm0 hm1 hm
  rcases (by omega : c < 1 ∨ (1 ≤ c ∧ 65536 < c) ∨ (1 ≤ c ∧ c ≤ 65536)) with hbad | ⟨hc1, hbad⟩ | ⟨hc1, hc2⟩
  · go_enter Try.func4, Try.ntmps4
    go_wp2_with fail
    refine (new_bad c _ (.inl hbad)).mono ?_
    rintro e x0 ⟨rfl, rfl⟩
    go_wp2_with fail
    have hb0 := Below.refl w.heap.size w
    refine (mod_any small 40 _ (by omega) (by omega)).mono ?_
    rintro e x1 ⟨rfl, rfl⟩
    rw [HM.out]
    go_wp2_with fail
    rw [show (1 : Int) + (m : Int) = ((m + 1 : Nat) : Int) by omega]
    refine (new_any (m + 1) _ _ hb0.size (by omega) (by omega)).mono ?_
    rintro e x2 ⟨L, rfl, hS, hb1, _⟩
    have hb2 := hb0.trans (hb1.mono hb0.size)
    obtain ⟨S, hSn⟩ : ∃ S, S = SS.new (m + 1) := ⟨_, rfl⟩
    rw [← hSn] at hS
    have hw : S.wf := by rw [hSn]; exact SS.new_wf _ (by omega) (by omega)
    have hSn1 : S.n = m + 1 := by rw [hSn]; rfl
    have hSf : S.free = m + 1 := by rw [hSn]; simp [SS.free, SS.new]
    have HS := hid hS
    have HW := hid hw
    have HSN := hid hSn
    have HSN1 := hid hSn1
    have HSF := hid hSf
    clear hS hw hSn hSn1 hSf hb1 hb0
    go_wp2_with fail
    refine (awake_any _).mono ?_
    rintro e x3 ⟨rfl, hb3⟩
    have HS3 := hid (HS.out.below hb3)
    have hb := hb2.trans (hb3.mono hb2.size)
    clear hb2 hb3
    go_wp2_with fail
    refine (free_any HS3.out HW.out).mono ?_
    rintro e x4 ⟨rfl, hq⟩
    rw [HSF.out]
    have HS4 := hid (HS3.out.qt hq)
    have hb4 := hb.trans ((hq.chg Nil).below hb.size (fun _ h => h.elim))
    clear hb hq
    go_wp2_with fail
    refine (cap_any HS4.out HW.out.n2).mono ?_
    rintro e x5 ⟨rfl, rfl⟩
    rw [HSN1.out]
    go_wp2_with fail
    refine (order_any HS4.out HW.out).mono ?_
    rintro e x6 ⟨A, cA, rfl, hN, hS6, hb6⟩
    rw [HSF.out] at hN ⊢
    have HN := hid hN
    have HS6 := hid hS6
    have hb := hb4.trans (hb6.mono hb4.size)
    clear hN hS6 hb6 hb4
    go_wp2
    go_loop [11] (fun i => ∃ k : Nat, k ≤ m + 1 ∧ i = .int .i64 k) (fun i => m + 1 - (intOf i).toNat)
    case atStart => exact ⟨0, Nat.zero_le _, rfl⟩
    case round =>
      obtain ⟨k, hk, rfl⟩ := hrel
      by_cases hlt : k < m + 1
      · obtain ⟨b, off, hAe, hbl, _, hcell⟩ := HN.out.2 (by omega)
        subst hAe
        have hck := hcell k hlt
        have ez : (natsI S.ord).getD k 0 = (k : Int) + 1 := by
          rw [natsI_getD, HSN.out]
          have : (SS.new (m + 1)).ord.getD k 0 = k + 1 := by simp [SS.ord, SS.new, List.getD, hlt]; omega
          rw [this]; rfl
        rw [ez] at hck
        have HON : Hid (S.on (k + 1) = false) := hid (by rw [HSN.out]; rfl)
        have HGEN : Hid (S.gen (k + 1) = 0) := hid (by rw [HSN.out]; rfl)
        have ek : (k : Int) + 1 = ((k + 1 : Nat) : Int) := by omega
        have HEK := hid ek
        clear hcell ez ek hbl
        go_wp2_with fail
        rw [HEK.out]
        refine (allocd_any (k + 1) HS6.out HW.out (by omega)).mono ?_
        rintro e x7 ⟨rfl, rfl⟩
        rw [HON.out]
        go_wp2_with fail
        refine (gen_any (k + 1) HS6.out HW.out (by omega)).mono ?_
        rintro e x7 ⟨rfl, rfl⟩
        rw [HGEN.out]
        go_wp2
        go_round
        case rel => exact ⟨k + 1, by omega, by first | rfl | go_num⟩
        case measure => simp [intOf]; omega
      · go_wp2
        go_ret
        exact ⟨rfl, hb⟩
  · go_enter Try.func4, Try.ntmps4
    go_wp2_with fail
    refine (new_bad c _ (.inr hbad)).mono ?_
    rintro e x0 ⟨rfl, rfl⟩
    go_wp2_with fail
    have hb0 := Below.refl w.heap.size w
    refine (mod_any small 40 _ (by omega) (by omega)).mono ?_
    rintro e x1 ⟨rfl, rfl⟩
    rw [HM.out]
    go_wp2_with fail
    rw [show (1 : Int) + (m : Int) = ((m + 1 : Nat) : Int) by omega]
    refine (new_any (m + 1) _ _ hb0.size (by omega) (by omega)).mono ?_
    rintro e x2 ⟨L, rfl, hS, hb1, _⟩
    have hb2 := hb0.trans (hb1.mono hb0.size)
    obtain ⟨S, hSn⟩ : ∃ S, S = SS.new (m + 1) := ⟨_, rfl⟩
    rw [← hSn] at hS
    have hw : S.wf := by rw [hSn]; exact SS.new_wf _ (by omega) (by omega)
    have hSn1 : S.n = m + 1 := by rw [hSn]; rfl
    have hSf : S.free = m + 1 := by rw [hSn]; simp [SS.free, SS.new]
    have HS := hid hS
    have HW := hid hw
    have HSN := hid hSn
    have HSN1 := hid hSn1
    have HSF := hid hSf
    clear hS hw hSn hSn1 hSf hb1 hb0
    go_wp2_with fail
    refine (awake_any _).mono ?_
    rintro e x3 ⟨rfl, hb3⟩
    have HS3 := hid (HS.out.below hb3)
    have hb := hb2.trans (hb3.mono hb2.size)
    clear hb2 hb3
    go_wp2_with fail
    refine (free_any HS3.out HW.out).mono ?_
    rintro e x4 ⟨rfl, hq⟩
    rw [HSF.out]
    have HS4 := hid (HS3.out.qt hq)
    have hb4 := hb.trans ((hq.chg Nil).below hb.size (fun _ h => h.elim))
    clear hb hq
    go_wp2_with fail
    refine (cap_any HS4.out HW.out.n2).mono ?_
    rintro e x5 ⟨rfl, rfl⟩
    rw [HSN1.out]
    go_wp2_with fail
    refine (order_any HS4.out HW.out).mono ?_
    rintro e x6 ⟨A, cA, rfl, hN, hS6, hb6⟩
    rw [HSF.out] at hN ⊢
    have HN := hid hN
    have HS6 := hid hS6
    have hb := hb4.trans (hb6.mono hb4.size)
    clear hN hS6 hb6 hb4
    go_wp2
    go_loop [11] (fun i => ∃ k : Nat, k ≤ m + 1 ∧ i = .int .i64 k) (fun i => m + 1 - (intOf i).toNat)
    case atStart => exact ⟨0, Nat.zero_le _, rfl⟩
    case round =>
      obtain ⟨k, hk, rfl⟩ := hrel
      by_cases hlt : k < m + 1
      · obtain ⟨b, off, hAe, hbl, _, hcell⟩ := HN.out.2 (by omega)
        subst hAe
        have hck := hcell k hlt
        have ez : (natsI S.ord).getD k 0 = (k : Int) + 1 := by
          rw [natsI_getD, HSN.out]
          have : (SS.new (m + 1)).ord.getD k 0 = k + 1 := by simp [SS.ord, SS.new, List.getD, hlt]; omega
          rw [this]; rfl
        rw [ez] at hck
        have HON : Hid (S.on (k + 1) = false) := hid (by rw [HSN.out]; rfl)
        have HGEN : Hid (S.gen (k + 1) = 0) := hid (by rw [HSN.out]; rfl)
        have ek : (k : Int) + 1 = ((k + 1 : Nat) : Int) := by omega
        have HEK := hid ek
        clear hcell ez ek hbl
        go_wp2_with fail
        rw [HEK.out]
        refine (allocd_any (k + 1) HS6.out HW.out (by omega)).mono ?_
        rintro e x7 ⟨rfl, rfl⟩
        rw [HON.out]
        go_wp2_with fail
        refine (gen_any (k + 1) HS6.out HW.out (by omega)).mono ?_
        rintro e x7 ⟨rfl, rfl⟩
        rw [HGEN.out]
        go_wp2
        go_round
        case rel => exact ⟨k + 1, by omega, by first | rfl | go_num⟩
        case measure => simp [intOf]; omega
      · go_wp2
        go_ret
        exact ⟨rfl, hb⟩
  · obtain ⟨d, rfl⟩ := Int.eq_ofNat_of_zero_le (show 0 ≤ c by omega)
    go_enter Try.func4, Try.ntmps4
    go_wp2_with fail
    refine (new_any d _ _ (Nat.le_refl _) (by omega) (by omega)).mono ?_
    rintro e x0 ⟨L0, rfl, _, hb0, _⟩
    go_wp2_with fail
    refine (mod_any small 40 _ (by omega) (by omega)).mono ?_
    rintro e x1 ⟨rfl, rfl⟩
    rw [HM.out]
    go_wp2_with fail
    rw [show (1 : Int) + (m : Int) = ((m + 1 : Nat) : Int) by omega]
    refine (new_any (m + 1) _ _ hb0.size (by omega) (by omega)).mono ?_
    rintro e x2 ⟨L, rfl, hS, hb1, _⟩
    have hb2 := hb0.trans (hb1.mono hb0.size)
    obtain ⟨S, hSn⟩ : ∃ S, S = SS.new (m + 1) := ⟨_, rfl⟩
    rw [← hSn] at hS
    have hw : S.wf := by rw [hSn]; exact SS.new_wf _ (by omega) (by omega)
    have hSn1 : S.n = m + 1 := by rw [hSn]; rfl
    have hSf : S.free = m + 1 := by rw [hSn]; simp [SS.free, SS.new]
    have HS := hid hS
    have HW := hid hw
    have HSN := hid hSn
    have HSN1 := hid hSn1
    have HSF := hid hSf
    clear hS hw hSn hSn1 hSf hb1 hb0
    go_wp2_with fail
    refine (awake_any _).mono ?_
    rintro e x3 ⟨rfl, hb3⟩
    have HS3 := hid (HS.out.below hb3)
    have hb := hb2.trans (hb3.mono hb2.size)
    clear hb2 hb3
    go_wp2_with fail
    refine (free_any HS3.out HW.out).mono ?_
    rintro e x4 ⟨rfl, hq⟩
    rw [HSF.out]
    have HS4 := hid (HS3.out.qt hq)
    have hb4 := hb.trans ((hq.chg Nil).below hb.size (fun _ h => h.elim))
    clear hb hq
    go_wp2_with fail
    refine (cap_any HS4.out HW.out.n2).mono ?_
    rintro e x5 ⟨rfl, rfl⟩
    rw [HSN1.out]
    go_wp2_with fail
    refine (order_any HS4.out HW.out).mono ?_
    rintro e x6 ⟨A, cA, rfl, hN, hS6, hb6⟩
    rw [HSF.out] at hN ⊢
    have HN := hid hN
    have HS6 := hid hS6
    have hb := hb4.trans (hb6.mono hb4.size)
    clear hN hS6 hb6 hb4
    go_wp2
    go_loop [11] (fun i => ∃ k : Nat, k ≤ m + 1 ∧ i = .int .i64 k) (fun i => m + 1 - (intOf i).toNat)
    case atStart => exact ⟨0, Nat.zero_le _, rfl⟩
    case round =>
      obtain ⟨k, hk, rfl⟩ := hrel
      by_cases hlt : k < m + 1
      · obtain ⟨b, off, hAe, hbl, _, hcell⟩ := HN.out.2 (by omega)
        subst hAe
        have hck := hcell k hlt
        have ez : (natsI S.ord).getD k 0 = (k : Int) + 1 := by
          rw [natsI_getD, HSN.out]
          have : (SS.new (m + 1)).ord.getD k 0 = k + 1 := by simp [SS.ord, SS.new, List.getD, hlt]; omega
          rw [this]; rfl
        rw [ez] at hck
        have HON : Hid (S.on (k + 1) = false) := hid (by rw [HSN.out]; rfl)
        have HGEN : Hid (S.gen (k + 1) = 0) := hid (by rw [HSN.out]; rfl)
        have ek : (k : Int) + 1 = ((k + 1 : Nat) : Int) := by omega
        have HEK := hid ek
        clear hcell ez ek hbl
        go_wp2_with fail
        rw [HEK.out]
        refine (allocd_any (k + 1) HS6.out HW.out (by omega)).mono ?_
        rintro e x7 ⟨rfl, rfl⟩
        rw [HON.out]
        go_wp2_with fail
        refine (gen_any (k + 1) HS6.out HW.out (by omega)).mono ?_
        rintro e x7 ⟨rfl, rfl⟩
        rw [HGEN.out]
        go_wp2
        go_round
        case rel => exact ⟨k + 1, by omega, by first | rfl | go_num⟩
        case measure => simp [intOf]; omega
      · go_wp2
        go_ret
        exact ⟨rfl, hb⟩


set_option maxRecDepth 100000 in
set_option linter.unusedVariables false in
theorem lifted (os : Os) (started : os.Started) (H : Type) (enc : TypeId × Value → H) :
    ReturnsInHanded {} Try.checked os 4 .any (Rows.slotsNewSpec.pre6 enc Try.prog Try.f4 Rows.slotsNewRow.domain false) (Rows.slotsNewSpec.post enc Try.prog Try.f4 false true false false) := by
  refine returnsInHanded_of_change_sized (C := Try.checked) own started (by kernel_rfl) Try.func4
    (ChangeSpec.witness6 (enc := enc) (C := Try.checked) false ⟨#[], #[.int .i64 0, .int .i64 0], []⟩ 8 (by kernel_rfl) (by kernel_rfl) (by kernel_rfl) (by kernel_rfl)) ?_
  intro W base args ds gs before hval0 hW hcnd hsz0 _
  have hsz : (DataW.weightsEach Try.prog (Try.f4.params.toList ++ Rows.slotsNewSpec.plain.varTypes Try.prog) (ds ++ gs)).all (· ≤ reachBytes) = true := hsz0
  clear hsz0
  have hval : ∀ (j : Nat) t v, Try.f4.params[j]? = some t → args[j]? = some v → Value.okWide Try.prog W .any base t v := hval0
  have hW' := hW
  obtain ⟨p, q, hA0, hV, rfl, hfz, hnd⟩ := hW
  have hA : DataW.TrodAll enc Try.prog W 0 (fun _ => true) true Try.f4.params.toList args.toList ds p := hA0
  rw [Try.params4] at hA hval hsz
  obtain ⟨v0, vs0, d0, ds0, p0, q0, hargs, rfl, rfl, h0, r0⟩ := trodAll_cons hA
  obtain ⟨v1, vs1, d1, ds1, p1, q1, rfl, rfl, rfl, h1, r1⟩ := trodAll_cons r0
  obtain ⟨rfl, rfl, rfl⟩ := trodAll_nil r1
  obtain rfl : args = #[v0, v1] := by cases args; simp_all
  obtain ⟨rfl, rfl⟩ := trodVars_none hV
  obtain ⟨a0, rfl, rfl, rfl, w0⟩ := open_int Try.underlying3 (hval 0 3 v0 rfl rfl) h0
  obtain ⟨a1, rfl, rfl, rfl, w1⟩ := open_int Try.underlying3 (hval 1 3 v1 rfl rfl) h1
  clear hA0 hval0
  refine (walk a0 a1 W w0 w1).mono fun e W' ⟨he, bel⟩ => ?_
  subst he
  exact ⟨_, rfl, _, _, _, [], _, [], hW', trodAll_mk1 (shut_bool Try.underlying4 _), (trodAll_cons_mk (shut_int Try.underlying3 w0) (trodAll_cons_mk (shut_int Try.underlying3 w1) trodAll_mk0)), rfl, bel.frame _, fun h => by cases h⟩

theorem over : Rows.slotsNewRow.holds Try.pinned (OpenSpec.ofChange Rows.slotsNewSpec) :=
  OpenClaim.holds_of_wide 4 Try.f4 rfl rfl rfl rfl rfl rfl rfl ⟨rfl, rfl, rfl, rfl, rfl⟩ rfl rfl rfl rfl rfl (by kernel_rfl) Try.func4 (by kernel_rfl)
    (of_decide_eq_true (by kernel_rfl)) (by unfold Func.isWrapper; first | (rw [if_pos (by decide +kernel)]; kernel_rfl) | (rw [if_neg (by decide +kernel)]; exact ⟨rfl, rfl⟩))
    (fun os started H enc _ => lifted os started H enc)

end Go.Proofs.Ytbmamikhjfieoaa.WSlotsNew

namespace Go.Proofs.Ytbmamikhjfieoaa
theorem slotsNew_holds : Rows.SlotsNewSaid := WSlotsNew.over
#print axioms slotsNew_holds
end Go.Proofs.Ytbmamikhjfieoaa
