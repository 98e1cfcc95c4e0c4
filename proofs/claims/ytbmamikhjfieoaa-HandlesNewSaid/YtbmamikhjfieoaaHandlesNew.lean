/-
  HandlesNew: for every two ints the law returns true; no condition.
-/
import Derived.Test.YtbmamikhjfieoaaOpen
import Derived.Test.YtbmamikhjfieoaaTabn
namespace Go.Proofs.Ytbmamikhjfieoaa.WHandlesNew
open Go.ChangeShapes Go.WideShapes Go.ChangeAt Go.RowKit

set_option maxRecDepth 100000 in
set_option maxHeartbeats 4000000 in
set_option linter.unusedVariables false in
theorem walk (c small : Int) (w : World) (w0 : (Lit.int .i64 c).wf = true) (w1 : (Lit.int .i64 small).wf = true) :
    Calls Try.prog 8 #[.int .i64 c, .int .i64 small] w fun e w' => e = .returned (.bool true) ∧ Below w.heap.size w w' := by
  obtain ⟨c0, c1⟩ := bounds_i64 w0
  clear w0 w1
  have hm0 := Int.emod_nonneg small (show (30 : Int) ≠ 0 by omega)
  have hm1 := Int.emod_lt_of_pos small (show (0 : Int) < 30 by omega)
  obtain ⟨m, hm⟩ := Int.eq_ofNat_of_zero_le hm0
  rw [hm] at hm1
  have HM := hid hm
  have hm29 : m ≤ 29 := by omega
  clear hm0 hm1 hm
  rcases (by omega : c < 1 ∨ (1 ≤ c ∧ 4096 < c) ∨ (1 ≤ c ∧ c ≤ 4096)) with hbad | ⟨hc1, hbad⟩ | ⟨hc1, hc2⟩
  · go_enter Try.func8, Try.ntmps8
    go_wp2_with fail
    refine (tnew_bad c _ (.inl hbad)).mono ?_
    rintro e x0 ⟨rfl, rfl⟩
    have hb0 := Below.refl w.heap.size w
    go_wp2_with fail
    refine (mod_any small 30 _ (by omega) (by omega)).mono ?_
    rintro e x1 ⟨rfl, rfl⟩
    rw [HM.out]
    go_wp2_with fail
    rw [show (1 : Int) + (m : Int) = ((m + 1 : Nat) : Int) by omega]
    obtain ⟨n, hn⟩ : ∃ n, n = m + 1 := ⟨_, rfl⟩
    rw [← hn]
    have hn1 : 1 ≤ n := by omega
    have hn30 : n ≤ 30 := by omega
    refine (tnew_any n _ _ hb0.size hn1 (by omega)).mono ?_
    rintro e x2 ⟨T, rfl, hT, hb1, _⟩
    have hb2 := hb0.trans (hb1.mono hb0.size)
    obtain ⟨S, hSn⟩ : ∃ S, S = SS.new n := ⟨_, rfl⟩
    rw [← hSn] at hT
    obtain ⟨v, hv⟩ : ∃ v : Nat → Int, v = (fun _ => 0) := ⟨_, rfl⟩
    rw [← hv] at hT
    have HT := hid hT
    have HW : Hid S.wf := hid (by rw [hSn]; exact SS.new_wf _ (by omega) (by omega))
    have HN : Hid (S.n = n) := hid (by rw [hSn]; rfl)
    have HF : Hid (S.free = n) := hid (by rw [hSn]; simp [SS.free, SS.new])
    clear hT hSn hv hb1 hb0 hn
    go_wp2_with fail
    refine (hawake_any _).mono ?_
    rintro e x3 ⟨rfl, hb3⟩
    have HT3 := hid (HT.out.below hb3)
    have hb := hb2.trans (hb3.mono hb2.size)
    clear hb2 hb3 HT
    go_wp2
    go_loopw [10] (fun i wr => ∃ (k : Nat) (S : SS) (v : Nat → Int), k ≤ n ∧ i = .int .i64 k ∧ Hid (TAt w.heap.size wr T S v) ∧ Hid S.wf ∧ Hid (S.n = n) ∧ Hid (S.free + k = n) ∧ Below w.heap.size w wr) (fun i _ => n - (intOf i).toNat)
    case atStart => exact ⟨0, S, v, Nat.zero_le _, rfl, HT3, HW, HN, HF, hb⟩
    case round =>
      clear hb HT3 HW HN HF
      obtain ⟨k, S, v, hk, rfl, HT, HW, HN, HF, hb⟩ := hrel
      by_cases hlt : k < n
      · have HF0 : Hid (0 < S.free) := hid (by have := HF.out; omega)
        have HLE := hid (show (S.n : Int) - (S.free : Int) = (k : Int) by have := HF.out; have := HN.out; omega)
        go_wp2_with fail
        refine (len_any HT.out HW.out).mono ?_
        rintro e y1 ⟨rfl, hq⟩
        rw [HLE.out]
        have HT1 := hid (HT.out.qt hq)
        have hb1 := hb.trans ((hq.chg Nil).below hb.size (fun _ h => h.elim))
        clear hq hb HT
        go_wp2_with fail
        refine (open_any (k : Int) HT1.out HW.out HF0.out).mono ?_
        rintro e y2 ⟨rfl, hT2, hc⟩
        have hb2 := hb1.trans (HT1.out.chg_below hc)
        have hno := HW.out.next_ok HF0.out
        obtain ⟨y, hy⟩ : ∃ y, y = S.alloc.hdl S.next := ⟨_, rfl⟩
        have hy0 : 1 ≤ y := by rw [hy]; unfold SS.hdl; omega
        rw [← hy]
        have hyb : ((y : Int) == 0) = false := by simp; omega
        have HT2 := hid hT2
        have HW2 := hid (HW.out.alloc HF0.out)
        have HN2 : Hid (S.alloc.n = n) := hid (by rw [S.alloc_n]; exact HN.out)
        have HF2 : Hid (S.alloc.free + (k + 1) = n) := hid (by have := SS.free_alloc HW.out HF0.out; have := HF.out; omega)
        clear hT2 hc hb1 hy hno
        go_wp2
        go_roundw
        case rel => exact ⟨k + 1, S.alloc, _, by omega, by first | rfl | go_num, HT2, HW2, HN2, HF2, hb2⟩
        case measure => simp [intOf]; omega
      · have hkn : k = n := by omega
        subst hkn
        have HF0 : Hid (S.free = 0) := hid (by have := HF.out; omega)
        have HLE := hid (show (S.n : Int) - (S.free : Int) = (k : Int) by have := HF.out; have := HN.out; omega)
        go_wp2_with fail
        refine (open_full 1 HT.out HW.out HF0.out).mono ?_
        rintro e y1 ⟨rfl, hq⟩
        have HT1 := hid (HT.out.qt hq)
        have hb1 := hb.trans ((hq.chg Nil).below hb.size (fun _ h => h.elim))
        clear hq hb
        go_wp2_with fail
        refine (len_any HT1.out HW.out).mono ?_
        rintro e y2 ⟨rfl, hq⟩
        rw [HLE.out]
        have hb2 := hb1.trans ((hq.chg Nil).below hb1.size (fun _ h => h.elim))
        clear hq hb1
        go_wp2
        go_ret
        exact ⟨rfl, hb2⟩
  · go_enter Try.func8, Try.ntmps8
    go_wp2_with fail
    refine (tnew_bad c _ (.inr hbad)).mono ?_
    rintro e x0 ⟨rfl, rfl⟩
    have hb0 := Below.refl w.heap.size w
    go_wp2_with fail
    refine (mod_any small 30 _ (by omega) (by omega)).mono ?_
    rintro e x1 ⟨rfl, rfl⟩
    rw [HM.out]
    go_wp2_with fail
    rw [show (1 : Int) + (m : Int) = ((m + 1 : Nat) : Int) by omega]
    obtain ⟨n, hn⟩ : ∃ n, n = m + 1 := ⟨_, rfl⟩
    rw [← hn]
    have hn1 : 1 ≤ n := by omega
    have hn30 : n ≤ 30 := by omega
    refine (tnew_any n _ _ hb0.size hn1 (by omega)).mono ?_
    rintro e x2 ⟨T, rfl, hT, hb1, _⟩
    have hb2 := hb0.trans (hb1.mono hb0.size)
    obtain ⟨S, hSn⟩ : ∃ S, S = SS.new n := ⟨_, rfl⟩
    rw [← hSn] at hT
    obtain ⟨v, hv⟩ : ∃ v : Nat → Int, v = (fun _ => 0) := ⟨_, rfl⟩
    rw [← hv] at hT
    have HT := hid hT
    have HW : Hid S.wf := hid (by rw [hSn]; exact SS.new_wf _ (by omega) (by omega))
    have HN : Hid (S.n = n) := hid (by rw [hSn]; rfl)
    have HF : Hid (S.free = n) := hid (by rw [hSn]; simp [SS.free, SS.new])
    clear hT hSn hv hb1 hb0 hn
    go_wp2_with fail
    refine (hawake_any _).mono ?_
    rintro e x3 ⟨rfl, hb3⟩
    have HT3 := hid (HT.out.below hb3)
    have hb := hb2.trans (hb3.mono hb2.size)
    clear hb2 hb3 HT
    go_wp2
    go_loopw [10] (fun i wr => ∃ (k : Nat) (S : SS) (v : Nat → Int), k ≤ n ∧ i = .int .i64 k ∧ Hid (TAt w.heap.size wr T S v) ∧ Hid S.wf ∧ Hid (S.n = n) ∧ Hid (S.free + k = n) ∧ Below w.heap.size w wr) (fun i _ => n - (intOf i).toNat)
    case atStart => exact ⟨0, S, v, Nat.zero_le _, rfl, HT3, HW, HN, HF, hb⟩
    case round =>
      clear hb HT3 HW HN HF
      obtain ⟨k, S, v, hk, rfl, HT, HW, HN, HF, hb⟩ := hrel
      by_cases hlt : k < n
      · have HF0 : Hid (0 < S.free) := hid (by have := HF.out; omega)
        have HLE := hid (show (S.n : Int) - (S.free : Int) = (k : Int) by have := HF.out; have := HN.out; omega)
        go_wp2_with fail
        refine (len_any HT.out HW.out).mono ?_
        rintro e y1 ⟨rfl, hq⟩
        rw [HLE.out]
        have HT1 := hid (HT.out.qt hq)
        have hb1 := hb.trans ((hq.chg Nil).below hb.size (fun _ h => h.elim))
        clear hq hb HT
        go_wp2_with fail
        refine (open_any (k : Int) HT1.out HW.out HF0.out).mono ?_
        rintro e y2 ⟨rfl, hT2, hc⟩
        have hb2 := hb1.trans (HT1.out.chg_below hc)
        have hno := HW.out.next_ok HF0.out
        obtain ⟨y, hy⟩ : ∃ y, y = S.alloc.hdl S.next := ⟨_, rfl⟩
        have hy0 : 1 ≤ y := by rw [hy]; unfold SS.hdl; omega
        rw [← hy]
        have hyb : ((y : Int) == 0) = false := by simp; omega
        have HT2 := hid hT2
        have HW2 := hid (HW.out.alloc HF0.out)
        have HN2 : Hid (S.alloc.n = n) := hid (by rw [S.alloc_n]; exact HN.out)
        have HF2 : Hid (S.alloc.free + (k + 1) = n) := hid (by have := SS.free_alloc HW.out HF0.out; have := HF.out; omega)
        clear hT2 hc hb1 hy hno
        go_wp2
        go_roundw
        case rel => exact ⟨k + 1, S.alloc, _, by omega, by first | rfl | go_num, HT2, HW2, HN2, HF2, hb2⟩
        case measure => simp [intOf]; omega
      · have hkn : k = n := by omega
        subst hkn
        have HF0 : Hid (S.free = 0) := hid (by have := HF.out; omega)
        have HLE := hid (show (S.n : Int) - (S.free : Int) = (k : Int) by have := HF.out; have := HN.out; omega)
        go_wp2_with fail
        refine (open_full 1 HT.out HW.out HF0.out).mono ?_
        rintro e y1 ⟨rfl, hq⟩
        have HT1 := hid (HT.out.qt hq)
        have hb1 := hb.trans ((hq.chg Nil).below hb.size (fun _ h => h.elim))
        clear hq hb
        go_wp2_with fail
        refine (len_any HT1.out HW.out).mono ?_
        rintro e y2 ⟨rfl, hq⟩
        rw [HLE.out]
        have hb2 := hb1.trans ((hq.chg Nil).below hb1.size (fun _ h => h.elim))
        clear hq hb1
        go_wp2
        go_ret
        exact ⟨rfl, hb2⟩
  · obtain ⟨d, rfl⟩ := Int.eq_ofNat_of_zero_le (show 0 ≤ c by omega)
    go_enter Try.func8, Try.ntmps8
    go_wp2_with fail
    refine (tnew_any d _ _ (Nat.le_refl _) (by omega) (by omega)).mono ?_
    rintro e x0 ⟨T0, rfl, _, hb0, _⟩
    go_wp2_with fail
    refine (mod_any small 30 _ (by omega) (by omega)).mono ?_
    rintro e x1 ⟨rfl, rfl⟩
    rw [HM.out]
    go_wp2_with fail
    rw [show (1 : Int) + (m : Int) = ((m + 1 : Nat) : Int) by omega]
    obtain ⟨n, hn⟩ : ∃ n, n = m + 1 := ⟨_, rfl⟩
    rw [← hn]
    have hn1 : 1 ≤ n := by omega
    have hn30 : n ≤ 30 := by omega
    refine (tnew_any n _ _ hb0.size hn1 (by omega)).mono ?_
    rintro e x2 ⟨T, rfl, hT, hb1, _⟩
    have hb2 := hb0.trans (hb1.mono hb0.size)
    obtain ⟨S, hSn⟩ : ∃ S, S = SS.new n := ⟨_, rfl⟩
    rw [← hSn] at hT
    obtain ⟨v, hv⟩ : ∃ v : Nat → Int, v = (fun _ => 0) := ⟨_, rfl⟩
    rw [← hv] at hT
    have HT := hid hT
    have HW : Hid S.wf := hid (by rw [hSn]; exact SS.new_wf _ (by omega) (by omega))
    have HN : Hid (S.n = n) := hid (by rw [hSn]; rfl)
    have HF : Hid (S.free = n) := hid (by rw [hSn]; simp [SS.free, SS.new])
    clear hT hSn hv hb1 hb0 hn
    go_wp2_with fail
    refine (hawake_any _).mono ?_
    rintro e x3 ⟨rfl, hb3⟩
    have HT3 := hid (HT.out.below hb3)
    have hb := hb2.trans (hb3.mono hb2.size)
    clear hb2 hb3 HT
    go_wp2
    go_loopw [10] (fun i wr => ∃ (k : Nat) (S : SS) (v : Nat → Int), k ≤ n ∧ i = .int .i64 k ∧ Hid (TAt w.heap.size wr T S v) ∧ Hid S.wf ∧ Hid (S.n = n) ∧ Hid (S.free + k = n) ∧ Below w.heap.size w wr) (fun i _ => n - (intOf i).toNat)
    case atStart => exact ⟨0, S, v, Nat.zero_le _, rfl, HT3, HW, HN, HF, hb⟩
    case round =>
      clear hb HT3 HW HN HF
      obtain ⟨k, S, v, hk, rfl, HT, HW, HN, HF, hb⟩ := hrel
      by_cases hlt : k < n
      · have HF0 : Hid (0 < S.free) := hid (by have := HF.out; omega)
        have HLE := hid (show (S.n : Int) - (S.free : Int) = (k : Int) by have := HF.out; have := HN.out; omega)
        go_wp2_with fail
        refine (len_any HT.out HW.out).mono ?_
        rintro e y1 ⟨rfl, hq⟩
        rw [HLE.out]
        have HT1 := hid (HT.out.qt hq)
        have hb1 := hb.trans ((hq.chg Nil).below hb.size (fun _ h => h.elim))
        clear hq hb HT
        go_wp2_with fail
        refine (open_any (k : Int) HT1.out HW.out HF0.out).mono ?_
        rintro e y2 ⟨rfl, hT2, hc⟩
        have hb2 := hb1.trans (HT1.out.chg_below hc)
        have hno := HW.out.next_ok HF0.out
        obtain ⟨y, hy⟩ : ∃ y, y = S.alloc.hdl S.next := ⟨_, rfl⟩
        have hy0 : 1 ≤ y := by rw [hy]; unfold SS.hdl; omega
        rw [← hy]
        have hyb : ((y : Int) == 0) = false := by simp; omega
        have HT2 := hid hT2
        have HW2 := hid (HW.out.alloc HF0.out)
        have HN2 : Hid (S.alloc.n = n) := hid (by rw [S.alloc_n]; exact HN.out)
        have HF2 : Hid (S.alloc.free + (k + 1) = n) := hid (by have := SS.free_alloc HW.out HF0.out; have := HF.out; omega)
        clear hT2 hc hb1 hy hno
        go_wp2
        go_roundw
        case rel => exact ⟨k + 1, S.alloc, _, by omega, by first | rfl | go_num, HT2, HW2, HN2, HF2, hb2⟩
        case measure => simp [intOf]; omega
      · have hkn : k = n := by omega
        subst hkn
        have HF0 : Hid (S.free = 0) := hid (by have := HF.out; omega)
        have HLE := hid (show (S.n : Int) - (S.free : Int) = (k : Int) by have := HF.out; have := HN.out; omega)
        go_wp2_with fail
        refine (open_full 1 HT.out HW.out HF0.out).mono ?_
        rintro e y1 ⟨rfl, hq⟩
        have HT1 := hid (HT.out.qt hq)
        have hb1 := hb.trans ((hq.chg Nil).below hb.size (fun _ h => h.elim))
        clear hq hb
        go_wp2_with fail
        refine (len_any HT1.out HW.out).mono ?_
        rintro e y2 ⟨rfl, hq⟩
        rw [HLE.out]
        have hb2 := hb1.trans ((hq.chg Nil).below hb1.size (fun _ h => h.elim))
        clear hq hb1
        go_wp2
        go_ret
        exact ⟨rfl, hb2⟩


set_option maxRecDepth 100000 in
set_option linter.unusedVariables false in
theorem lifted (os : Os) (started : os.Started) (H : Type) (enc : TypeId × Value → H) :
    ReturnsInHanded {} Try.checked os 8 .any (Rows.handlesNewSpec.pre6 enc Try.prog Try.f8 Rows.handlesNewRow.domain false) (Rows.handlesNewSpec.post enc Try.prog Try.f8 false true false false) := by
  refine returnsInHanded_of_change_sized (C := Try.checked) own started (by kernel_rfl) Try.func8
    (ChangeSpec.witness6 (enc := enc) (C := Try.checked) false ⟨#[], #[.int .i64 0, .int .i64 0], []⟩ 8 (by kernel_rfl) (by kernel_rfl) (by kernel_rfl) (by kernel_rfl)) ?_
  intro W base args ds gs before hval0 hW hcnd hsz0 _
  have hsz : (DataW.weightsEach Try.prog (Try.f8.params.toList ++ Rows.handlesNewSpec.plain.varTypes Try.prog) (ds ++ gs)).all (· ≤ reachBytes) = true := hsz0
  clear hsz0
  have hval : ∀ (j : Nat) t v, Try.f8.params[j]? = some t → args[j]? = some v → Value.okWide Try.prog W .any base t v := hval0
  have hW' := hW
  obtain ⟨p, q, hA0, hV, rfl, hfz, hnd⟩ := hW
  have hA : DataW.TrodAll enc Try.prog W 0 (fun _ => true) true Try.f8.params.toList args.toList ds p := hA0
  rw [Try.params8] at hA hval hsz
  obtain ⟨v0, vs0, d0, ds0, p0, q0, hargs, rfl, rfl, h0, r0⟩ := trodAll_cons hA
  obtain ⟨v1, vs1, d1, ds1, p1, q1, rfl, rfl, rfl, h1, r1⟩ := trodAll_cons r0
  obtain ⟨rfl, rfl, rfl⟩ := trodAll_nil r1
  obtain rfl : args = #[v0, v1] := by cases args; simp_all
  obtain ⟨rfl, rfl⟩ := trodVars_none hV
  obtain ⟨a0, rfl, rfl, rfl, w0⟩ := open_int Try.underlying3 (hval 0 3 v0 rfl rfl) h0
  obtain ⟨a1, rfl, rfl, rfl, w1⟩ := open_int Try.underlying3 (hval 1 3 v1 rfl rfl) h1
  clear hA0 hval0
  refine (walk a0 a1 W w0 w1).mono fun e W' ⟨he, bel⟩ => ?_
  subst he
  exact ⟨_, rfl, _, _, _, [], _, [], hW', trodAll_mk1 (shut_bool Try.underlying4 _), (trodAll_cons_mk (shut_int Try.underlying3 w0) (trodAll_cons_mk (shut_int Try.underlying3 w1) trodAll_mk0)), rfl, bel.frame _, fun h => by cases h⟩

theorem over : Rows.handlesNewRow.holds Try.pinned (OpenSpec.ofChange Rows.handlesNewSpec) :=
  OpenClaim.holds_of_wide 8 Try.f8 rfl rfl rfl rfl rfl rfl rfl ⟨rfl, rfl, rfl, rfl, rfl⟩ rfl rfl rfl rfl rfl (by kernel_rfl) Try.func8 (by kernel_rfl)
    (of_decide_eq_true (by kernel_rfl)) (by unfold Func.isWrapper; first | (rw [if_pos (by decide +kernel)]; kernel_rfl) | (rw [if_neg (by decide +kernel)]; exact ⟨rfl, rfl⟩))
    (fun os started H enc _ => lifted os started H enc)

end Go.Proofs.Ytbmamikhjfieoaa.WHandlesNew

namespace Go.Proofs.Ytbmamikhjfieoaa
theorem handlesNew_holds : Rows.HandlesNewSaid := WHandlesNew.over
#print axioms handlesNew_holds
end Go.Proofs.Ytbmamikhjfieoaa
