/-
  HandlesAreDistinct: for every int and every slice of calls the law returns true; no condition (the slice lies within the form's own reach).
-/
import Derived.Test.YtbmamikhjfieoaaHop
namespace Go.Proofs.Ytbmamikhjfieoaa.WHandlesAreDistinct
open Go.ChangeShapes Go.WideShapes Go.ChangeAt Go.RowKit

set_option maxRecDepth 100000 in
set_option maxHeartbeats 4000000 in
set_option linter.unusedVariables false in
theorem walk (c : Int) (A : Option Addr) (m d : Nat) (f : Nat → C4) (w : World) (w0 : (Lit.int .i64 c).wf = true) (w1 : CArg4 w A m d f) :
    Calls Try.prog 9 #[.int .i64 c, .slice A m d] w fun e w' => e = .returned (.bool true) ∧ Below w.heap.size w w' := by
  have hm0 := Int.emod_nonneg c (show (10 : Int) ≠ 0 by omega)
  have hm1 := Int.emod_lt_of_pos c (show (0 : Int) < 10 by omega)
  obtain ⟨n0, hn0⟩ := Int.eq_ofNat_of_zero_le hm0
  rw [hn0] at hm1
  have HM := hid hn0
  obtain ⟨n, hn⟩ : ∃ n, n = n0 + 1 := ⟨_, rfl⟩
  have HNN := hid (show (1 : Int) + (n0 : Int) = (n : Int) by omega)
  have hn9 : n0 ≤ 9 := by omega
  have hn1 : 1 ≤ n := by omega
  have hn30 : n ≤ 30 := by omega
  have HC := hid w1
  clear hm0 hm1 hn0 hn w1
  go_enter Try.func9, Try.ntmps9
  go_wp2_with fail
  refine (mod_any c 10 _ (by omega) (by omega)).mono ?_
  rintro e x1 ⟨rfl, rfl⟩
  rw [HM.out]
  go_wp2_with fail
  rw [HNN.out]
  refine (hplay_any n A m d f _ hn1 (by omega) HC.out).mono ?_
  rintro e x2 ⟨t, X, T, S, v, zs, rfl, hP, hb⟩
  have HP := hid hP
  clear hP
  go_wp2_with fail
  refine (hawake_any _).mono ?_
  rintro e x3 ⟨rfl, hb3⟩
  have HP3 := hid (HP.out.below hb3)
  have hb := hb.trans (hb3.mono hb.size)
  clear hb3
  obtain ⟨Ax, cx, hX, hN⟩ := HP3.out.nums
  subst hX
  have HN := hid hN
  obtain ⟨l, hl⟩ : ∃ l, l = zs.length := ⟨_, rfl⟩
  have HL := hid hl
  have hl150 : l ≤ 150 := by rw [hl]; exact HP3.out.iss.len
  rw [← hl] at HN ⊢
  clear hN hl
  go_wp2
  go_loopw [7, 8] (fun i _ wr => ∃ k : Nat, k ≤ l ∧ i = .int .i64 k ∧ Qt x3 wr) (fun i _ _ => l - (intOf i).toNat)
  case atStart => exact ⟨0, Nat.zero_le _, rfl, 0, rfl⟩
  case round =>
    obtain ⟨k, hk, rfl, hq⟩ := hrel
    obtain ⟨wo, hwo⟩ : ∃ wo : World, wo = wr := ⟨_, rfl⟩
    subst hwo
    have HQ := hid hq
    clear hq
    by_cases hlt : k < l
    · obtain ⟨b, off, hA, hbl, _, hc⟩ := HN.out.2 (by omega)
      subst hA
      have hck := hc k hlt
      have HCC := hid hc
      rw [natsI_getD] at hck
      obtain ⟨y, hy⟩ : ∃ y, y = zs.getD k 0 := ⟨_, rfl⟩
      rw [← hy] at hck
      have hyk : zs[k]? = some y := by rw [hy]; simp [List.getD, show k < zs.length by have := HL.out; omega]
      have hmem : y ∈ zs := List.mem_of_getElem? hyk
      have HY := hid hyk
      have hy0 : ((y : Int) == 0) = false := by have := (HP3.out.iss.le y hmem).1; simp; omega
      have HCK := hid hck
      clear hc hy hyk hmem hck
      go_wp2
      go_loopw [8] (fun j wr => ∃ i : Nat, i ≤ k ∧ j = .int .i64 i ∧ Qt x3 wr) (fun j _ => k - (intOf j).toNat)
      case atStart => exact ⟨0, Nat.zero_le _, rfl, HQ.out⟩
      case round =>
        obtain ⟨i, hi, rfl, hq⟩ := hrel
        have c1 : wr.cell? ⟨b, off + k, none⟩ = some (.int .u64 (y : Int)) := by obtain ⟨q, rfl⟩ := hq; exact HCK.out
        by_cases hik : i < k
        · have hci := HCC.out i (by omega)
          rw [natsI_getD] at hci
          obtain ⟨z, hz⟩ : ∃ z, z = zs.getD i 0 := ⟨_, rfl⟩
          rw [← hz] at hci
          have hzi : zs[i]? = some z := by rw [hz]; simp [List.getD, show i < zs.length by have := HL.out; omega]
          have hne : ((y : Int) == (z : Int)) = false := by
            have h1 : y ≠ z := fun e => by
              have h2 := HY.out
              rw [e] at h2
              have h3 := (List.getElem?_inj (i := k) (by have := HL.out; omega) HP3.out.iss.nd).1 (h2.trans hzi.symm)
              omega
            simp; omega
          have c2 : wr.cell? ⟨b, off + i, none⟩ = some (.int .u64 (z : Int)) := by obtain ⟨q, rfl⟩ := hq; exact hci
          have HQ2 := hid hq
          clear hq hz hzi hci
          go_wp2_with fail
          go_quiet (fail)
          go_wp2
          go_roundw
          case rel => exact ⟨i + 1, by omega, by go_num, by obtain ⟨q, rfl⟩ := HQ2.out; exact ⟨_, World.drewN_drewN ..⟩⟩
          case measure => simp [intOf]; omega
        · have hik2 : i = k := by omega
          clear hik
          have HQ2 := hid hq
          clear hq
          go_wp2
          go_roundw
          case rel => exact ⟨k + 1, by omega, by go_num, HQ2.out⟩
          case measure => simp [intOf]; omega
    · go_wp2
      go_ret
      exact ⟨rfl, hb.trans ((HQ.out.chg Nil).below hb.size (fun _ h => h.elim))⟩


set_option maxRecDepth 100000 in
set_option linter.unusedVariables false in
theorem lifted (os : Os) (started : os.Started) (H : Type) (enc : TypeId × Value → H) :
    ReturnsInHanded {} Try.checked os 9 .any (Rows.handlesAreDistinctSpec.pre6 enc Try.prog Try.f9 Rows.handlesAreDistinctRow.domain false) (Rows.handlesAreDistinctSpec.post enc Try.prog Try.f9 false true false false) := by
  refine returnsInHanded_of_change_sized (C := Try.checked) own started (by kernel_rfl) Try.func9
    (ChangeSpec.witness6 (enc := enc) (C := Try.checked) false ⟨#[], #[.int .i64 0, .slice none 0 0], []⟩ 8 (by kernel_rfl) (by kernel_rfl) (by kernel_rfl) (by kernel_rfl)) ?_
  intro W base args ds gs before hval0 hW hcnd hsz0 _
  have hsz : (DataW.weightsEach Try.prog (Try.f9.params.toList ++ Rows.handlesAreDistinctSpec.plain.varTypes Try.prog) (ds ++ gs)).all (· ≤ reachBytes) = true := hsz0
  clear hsz0
  have hval : ∀ (j : Nat) t v, Try.f9.params[j]? = some t → args[j]? = some v → Value.okWide Try.prog W .any base t v := hval0
  have hW' := hW
  obtain ⟨p, q, hA0, hV, rfl, hfz, hnd⟩ := hW
  have hA : DataW.TrodAll enc Try.prog W 0 (fun _ => true) true Try.f9.params.toList args.toList ds p := hA0
  rw [Try.params9] at hA hval hsz
  obtain ⟨v0, vs0, d0, ds0, p0, q0, hargs, rfl, rfl, h0, r0⟩ := trodAll_cons hA
  obtain ⟨v1, vs1, d1, ds1, p1, q1, rfl, rfl, rfl, h1, r1⟩ := trodAll_cons r0
  obtain ⟨rfl, rfl, rfl⟩ := trodAll_nil r1
  obtain rfl : args = #[v0, v1] := by cases args; simp_all
  obtain ⟨rfl, rfl⟩ := trodVars_none hV
  obtain ⟨a0, rfl, rfl, rfl, w0⟩ := open_int Try.underlying3 (hval 0 3 v0 rfl rfl) h0
  obtain ⟨a1, len1, cap1, rfl⟩ := okWide_slice Try.underlying61 (hval 1 61 v1 rfl rfl)
  have k1 := h1
  have lt1 : ∀ x ∈ p1, x.block < W.heap.size := by obtain ⟨m, hm⟩ := k1; exact DataW.trod_lt m _ _ _ hm
  obtain ⟨z1, w1⟩ : ∃ zs, CArg4 W a1 len1 cap1 zs := CArg4.open_ (j := 1) k1 hsz rfl rfl
  clear hA0 hval0
  refine (walk a0 a1 len1 cap1 z1 W w0 w1).mono fun e W' ⟨he, bel⟩ => ?_
  subst he
  exact ⟨_, rfl, _, _, _, [], _, [], hW', trodAll_mk1 (shut_bool Try.underlying4 _), (trodAll_cons_mk (shut_int Try.underlying3 w0) (trodAll_cons_mk (Below.trod laidOut (by kernel_rfl) (of_decide_eq_true (by kernel_rfl)) k1 bel lt1) trodAll_mk0)), rfl, bel.frame _, fun h => by cases h⟩

theorem over : Rows.handlesAreDistinctRow.holds Try.pinned (OpenSpec.ofChange Rows.handlesAreDistinctSpec) :=
  OpenClaim.holds_of_wide 9 Try.f9 rfl rfl rfl rfl rfl rfl rfl ⟨rfl, rfl, rfl, rfl, rfl⟩ rfl rfl rfl rfl rfl (by kernel_rfl) Try.func9 (by kernel_rfl)
    (of_decide_eq_true (by kernel_rfl)) (by unfold Func.isWrapper; first | (rw [if_pos (by decide +kernel)]; kernel_rfl) | (rw [if_neg (by decide +kernel)]; exact ⟨rfl, rfl⟩))
    (fun os started H enc _ => lifted os started H enc)

end Go.Proofs.Ytbmamikhjfieoaa.WHandlesAreDistinct

namespace Go.Proofs.Ytbmamikhjfieoaa
theorem handlesAreDistinct_holds : Rows.HandlesAreDistinctSaid := WHandlesAreDistinct.over
#print axioms handlesAreDistinct_holds
end Go.Proofs.Ytbmamikhjfieoaa
