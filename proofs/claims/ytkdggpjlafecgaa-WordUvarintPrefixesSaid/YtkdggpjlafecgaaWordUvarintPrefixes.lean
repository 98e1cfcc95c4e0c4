/-
  WordUvarintPrefixes: for every uint64 and every cut the law returns true; no condition.
-/
import Derived.Test.YtkdggpjlafecgaaOpen
import Derived.Test.YtkdggpjlafecgaaCut
namespace Go.Proofs.Ytkdggpjlafecgaa.WWordUvarintPrefixes
open Go.ChangeShapes Go.WideShapes Go.ChangeAt Go.RowKit

set_option maxRecDepth 100000 in
set_option maxHeartbeats 2000000 in
set_option linter.unusedVariables false in
theorem walk (u0 cut : Int) (w : World) (w0 : (Lit.int .u64 u0).wf = true) (w1 : (Lit.int .i64 cut).wf = true) :
    Calls Try.prog 13 #[.int .u64 u0, .int .i64 cut] w fun e w' => e = .returned (.bool true) ∧ Below w.heap.size w w' := by
  obtain ⟨k0, k1⟩ := bounds_u64 w0
  obtain ⟨u, rfl⟩ := Int.eq_ofNat_of_zero_le k0
  have HU := hid (show u < 18446744073709551616 by omega)
  clear w0 w1 k0 k1
  go_enter Try.func13, Try.ntmps13
  go_wp2_with fail
  refine (varint_len u _ HU.out).mono ?_
  rintro e w1 ⟨X, y, cx, rfl, hy, hy1, hy2, hcx, hX, hb1⟩
  have HY := hid hy
  have HX := hid hX
  clear hy hX
  go_wp2_with fail
  refine (mod_any cut (y : Int) _ (by omega) (by omega)).mono ?_
  rintro e w2 ⟨rfl, rfl⟩
  have hm0 := Int.emod_nonneg cut (show (y : Int) ≠ 0 by omega)
  have hm1 := Int.emod_lt_of_pos cut (show (0 : Int) < y by omega)
  obtain ⟨m, hm⟩ := Int.eq_ofNat_of_zero_le hm0
  rw [hm] at hm1 ⊢
  have hmy : m < y := by omega
  have HC := hid (uv_cut u m (by rw [← HY.out]; exact hmy))
  have HB := hid (HX.out.take (m := m) (by omega))
  clear hm0 hm1 hm
  go_wp2_with fail
  refine (uv_any X m cx _ 0 _ 0 0 12 HB.out (by omega) (by omega) HC.out).mono ?_
  rintro e w3 ⟨rfl, rfl⟩
  go_wp2_with fail
  refine (awake_any _).mono ?_
  rintro e w4 ⟨rfl, hb2⟩
  go_wp2
  go_ret
  exact ⟨rfl, hb1.trans (hb2.mono hb1.size)⟩


set_option maxRecDepth 100000 in
set_option linter.unusedVariables false in
theorem lifted (os : Os) (started : os.Started) (H : Type) (enc : TypeId × Value → H) :
    ReturnsInHanded {} Try.checked os 13 .any (Rows.wordUvarintPrefixesSpec.pre6 enc Try.prog Try.f13 Rows.wordUvarintPrefixesRow.domain false) (Rows.wordUvarintPrefixesSpec.post enc Try.prog Try.f13 false true false false) := by
  refine returnsInHanded_of_change_sized (C := Try.checked) own started (by kernel_rfl) Try.func13
    (ChangeSpec.witness6 (enc := enc) (C := Try.checked) false ⟨#[], #[.int .u64 0, .int .i64 0], []⟩ 8 (by kernel_rfl) (by kernel_rfl) (by kernel_rfl) (by kernel_rfl)) ?_
  intro W base args ds gs before hval0 hW hcnd hsz0 _
  have hsz : (DataW.weightsEach Try.prog (Try.f13.params.toList ++ Rows.wordUvarintPrefixesSpec.plain.varTypes Try.prog) (ds ++ gs)).all (· ≤ reachBytes) = true := hsz0
  clear hsz0
  have hval : ∀ (j : Nat) t v, Try.f13.params[j]? = some t → args[j]? = some v → Value.okWide Try.prog W .any base t v := hval0
  have hW' := hW
  obtain ⟨p, q, hA0, hV, rfl, hfz, hnd⟩ := hW
  have hA : DataW.TrodAll enc Try.prog W 0 (fun _ => true) true Try.f13.params.toList args.toList ds p := hA0
  rw [Try.params13] at hA hval hsz
  obtain ⟨v0, vs0, d0, ds0, p0, q0, hargs, rfl, rfl, h0, r0⟩ := trodAll_cons hA
  obtain ⟨v1, vs1, d1, ds1, p1, q1, rfl, rfl, rfl, h1, r1⟩ := trodAll_cons r0
  obtain ⟨rfl, rfl, rfl⟩ := trodAll_nil r1
  obtain rfl : args = #[v0, v1] := by cases args; simp_all
  obtain ⟨rfl, rfl⟩ := trodVars_none hV
  obtain ⟨a0, rfl, rfl, rfl, w0⟩ := open_int Try.underlying22 (hval 0 22 v0 rfl rfl) h0
  obtain ⟨a1, rfl, rfl, rfl, w1⟩ := open_int Try.underlying3 (hval 1 3 v1 rfl rfl) h1
  clear hA0 hval0
  refine (walk a0 a1 W w0 w1).mono fun e W' ⟨he, bel⟩ => ?_
  subst he
  exact ⟨_, rfl, _, _, _, [], _, [], hW', trodAll_mk1 (shut_bool Try.underlying4 _), (trodAll_cons_mk (shut_int Try.underlying22 w0) (trodAll_cons_mk (shut_int Try.underlying3 w1) trodAll_mk0)), rfl, bel.frame _, fun h => by cases h⟩

theorem over : Rows.wordUvarintPrefixesRow.holds Try.pinned (OpenSpec.ofChange Rows.wordUvarintPrefixesSpec) :=
  OpenClaim.holds_of_wide 13 Try.f13 rfl rfl rfl rfl rfl rfl rfl ⟨rfl, rfl, rfl, rfl, rfl⟩ rfl rfl rfl rfl rfl (by kernel_rfl) Try.func13 (by kernel_rfl)
    (of_decide_eq_true (by kernel_rfl)) (by unfold Func.isWrapper; first | (rw [if_pos (by decide +kernel)]; kernel_rfl) | (rw [if_neg (by decide +kernel)]; exact ⟨rfl, rfl⟩))
    (fun os started H enc _ => lifted os started H enc)

end Go.Proofs.Ytkdggpjlafecgaa.WWordUvarintPrefixes

namespace Go.Proofs.Ytkdggpjlafecgaa
theorem wordUvarintPrefixes_holds : Rows.WordUvarintPrefixesSaid := WWordUvarintPrefixes.over
#print axioms wordUvarintPrefixes_holds
end Go.Proofs.Ytkdggpjlafecgaa
