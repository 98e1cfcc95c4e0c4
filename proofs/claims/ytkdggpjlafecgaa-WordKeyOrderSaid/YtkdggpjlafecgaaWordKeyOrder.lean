/-
  WordKeyOrder: for every two int64 numbers the law returns true; no condition.
-/
import Derived.Test.YtkdggpjlafecgaaOpen
import Derived.Test.YtkdggpjlafecgaaVp
namespace Go.Proofs.Ytkdggpjlafecgaa.WWordKeyOrder
open Go.ChangeShapes Go.WideShapes Go.ChangeAt Go.RowKit

set_option maxRecDepth 100000 in
set_option maxHeartbeats 2000000 in
set_option linter.unusedVariables false in
theorem appKey_nil (k : Int) (w : World) (h1 : -9223372036854775808 ≤ k) (h2 : k ≤ 9223372036854775807) :
    Calls Try.prog 17 #[.slice none 0 0, .int .i64 k] w fun e w' => ∃ A c, e = .returned (.slice A 8 c) ∧ Byt w' A 8 (kb (kn k)) ∧ Below w.heap.size w w' :=
  (appKey_any none 0 0 [] k w (Byt.nil _ _) (fun _ => rfl) (by omega) h1 h2).mono fun e w' ⟨A, c, he, _, hB, hb⟩ => ⟨A, c, he, hB, hb⟩

theorem less_key (A : Option Addr) (c : Nat) (B : Option Addr) (d : Nat) (j k : Int) (r : Bool) (w : World) (hA : Byt w A 8 (kb (kn j))) (hB : Byt w B 8 (kb (kn k)))
    (j0 : -9223372036854775808 ≤ j) (j1 : j ≤ 9223372036854775807) (k0 : -9223372036854775808 ≤ k) (k1 : k ≤ 9223372036854775807) (hr : decide (j < k) = r) :
    Calls Try.prog 18 #[.slice A 8 c, .slice B 8 d] w fun e w' => e = .returned (.bool r) ∧ Below w.heap.size w w' :=
  (less_any A c _ B d _ w hA hB).mono fun e w' ⟨he, hb⟩ => ⟨by
    rw [he, lx_kb _ _ (kn_lt j j0 j1) (kn_lt k k0 k1), ← hr]
    have : (kn j < kn k) ↔ j < k := by unfold kn; omega
    rw [decide_eq_decide.2 this], hb⟩

set_option maxRecDepth 100000 in
set_option maxHeartbeats 2000000 in
set_option linter.unusedVariables false in
theorem walk_at (j k : Int) (w : World) (j0 : -9223372036854775808 ≤ j) (j1 : j ≤ 9223372036854775807) (k0 : -9223372036854775808 ≤ k) (k1 : k ≤ 9223372036854775807) (r s : Bool) (hr : decide (j < k) = r) (hs : decide (k < j) = s) :
    Calls Try.prog 4 #[.int .i64 j, .int .i64 k] w fun e w' => e = .returned (.bool true) ∧ Below w.heap.size w w' := by
  have HR := hid hr
  have HS := hid hs
  clear hr hs
  go_enter Try.func4, Try.ntmps4
  go_wp2_with fail
  refine (appKey_nil j _ j0 j1).mono ?_
  rintro e w1 ⟨A, c, rfl, hA, hb1⟩
  have HA := hid hA
  clear hA
  go_wp2_with fail
  refine (appKey_nil k _ k0 k1).mono ?_
  rintro e w2 ⟨B, d, rfl, hB, hb2⟩
  have HB := hid hB
  have HA2 := hid (HA.out.below hb2 (Nat.le_refl _))
  clear hB
  have hb : Below w.heap.size w w2 := hb1.trans (hb2.mono hb1.size)
  clear hb1 hb2
  go_wp2_with fail
  refine (awake_any _).mono ?_
  rintro e w3 ⟨rfl, hb3⟩
  have HA3 := hid (HA2.out.below hb3 (Nat.le_refl _))
  have HB3 := hid (HB.out.below hb3 (Nat.le_refl _))
  have hb' : Below w.heap.size w w3 := hb.trans (hb3.mono hb.size)
  clear hb hb3
  go_wp2_with fail
  refine (less_key A c B d j k r _ HA3.out HB3.out j0 j1 k0 k1 HR.out).mono ?_
  rintro e w4 ⟨rfl, hb4⟩
  have HA4 := hid (HA3.out.below hb4 (Nat.le_refl _))
  have HB4 := hid (HB3.out.below hb4 (Nat.le_refl _))
  have hb : Below w.heap.size w w4 := hb'.trans (hb4.mono hb'.size)
  clear hb' hb4
  have H1 : ((r == decide (j < k)) = true) := by rw [HR.out]; cases r <;> rfl
  have H2 : ((s == decide (k < j)) = true) := by rw [HS.out]; cases s <;> rfl
  go_wp2_with fail
  refine (less_key B d A c k j s _ HB4.out HA4.out k0 k1 j0 j1 HS.out).mono ?_
  rintro e w5 ⟨rfl, hb5⟩
  have hb' : Below w.heap.size w w5 := hb.trans (hb5.mono hb.size)
  clear hb hb5
  go_wp2
  go_ret
  exact ⟨rfl, hb'⟩

theorem walk (j k : Int) (w : World) (w0 : (Lit.int .i64 j).wf = true) (w1 : (Lit.int .i64 k).wf = true) :
    Calls Try.prog 4 #[.int .i64 j, .int .i64 k] w fun e w' => e = .returned (.bool true) ∧ Below w.heap.size w w' := by
  obtain ⟨j0, j1⟩ := bounds_i64 w0
  obtain ⟨k0, k1⟩ := bounds_i64 w1
  exact walk_at j k w j0 j1 k0 k1 _ _ rfl rfl


set_option maxRecDepth 100000 in
set_option linter.unusedVariables false in
theorem lifted (os : Os) (started : os.Started) (H : Type) (enc : TypeId × Value → H) :
    ReturnsInHanded {} Try.checked os 4 .any (Rows.wordKeyOrderSpec.pre6 enc Try.prog Try.f4 Rows.wordKeyOrderRow.domain false) (Rows.wordKeyOrderSpec.post enc Try.prog Try.f4 false true false false) := by
  refine returnsInHanded_of_change_sized (C := Try.checked) own started (by kernel_rfl) Try.func4
    (ChangeSpec.witness6 (enc := enc) (C := Try.checked) false ⟨#[], #[.int .i64 0, .int .i64 0], []⟩ 8 (by kernel_rfl) (by kernel_rfl) (by kernel_rfl) (by kernel_rfl)) ?_
  intro W base args ds gs before hval0 hW hcnd hsz0 _
  have hsz : (DataW.weightsEach Try.prog (Try.f4.params.toList ++ Rows.wordKeyOrderSpec.plain.varTypes Try.prog) (ds ++ gs)).all (· ≤ reachBytes) = true := hsz0
  clear hsz0
  have hval : ∀ (j : Nat) t v, Try.f4.params[j]? = some t → args[j]? = some v → Value.okWide Try.prog W .any base t v := hval0
  have hW' := hW
  obtain ⟨p, q, hA0, hV, rfl, hfz, hnd⟩ := hW
  have hA : DataW.TrodAll enc Try.prog W 0 (fun _ => true) true Try.f4.params.toList args.toList ds p := hA0
  rw [Try.params4] at hA hval hsz
  obtain ⟨v0, vs0, d0, ds0, p0, q0, hargs, rfl, rfl, h0, r0⟩ := trodAll_cons hA
  obtain ⟨v1, vs1, d1, ds1, p1, q1, rfl, rfl, rfl, h1, r1⟩ := trodAll_cons r0
  obtain ⟨rfl, rfl, rfl⟩ := trodAll_nil r1
  obtain rfl : args = #[v0, v1] := by cases args; simp_all
  obtain ⟨rfl, rfl⟩ := trodVars_none hV
  obtain ⟨a0, rfl, rfl, rfl, w0⟩ := open_int Try.underlying2 (hval 0 2 v0 rfl rfl) h0
  obtain ⟨a1, rfl, rfl, rfl, w1⟩ := open_int Try.underlying2 (hval 1 2 v1 rfl rfl) h1
  clear hA0 hval0
  refine (walk a0 a1 W w0 w1).mono fun e W' ⟨he, bel⟩ => ?_
  subst he
  exact ⟨_, rfl, _, _, _, [], _, [], hW', trodAll_mk1 (shut_bool Try.underlying4 _), (trodAll_cons_mk (shut_int Try.underlying2 w0) (trodAll_cons_mk (shut_int Try.underlying2 w1) trodAll_mk0)), rfl, bel.frame _, fun h => by cases h⟩

theorem over : Rows.wordKeyOrderRow.holds Try.pinned (OpenSpec.ofChange Rows.wordKeyOrderSpec) :=
  OpenClaim.holds_of_wide 4 Try.f4 rfl rfl rfl rfl rfl rfl rfl ⟨rfl, rfl, rfl, rfl, rfl⟩ rfl rfl rfl rfl rfl (by kernel_rfl) Try.func4 (by kernel_rfl)
    (of_decide_eq_true (by kernel_rfl)) (by unfold Func.isWrapper; first | (rw [if_pos (by decide +kernel)]; kernel_rfl) | (rw [if_neg (by decide +kernel)]; exact ⟨rfl, rfl⟩))
    (fun os started H enc _ => lifted os started H enc)

end Go.Proofs.Ytkdggpjlafecgaa.WWordKeyOrder

namespace Go.Proofs.Ytkdggpjlafecgaa
theorem wordKeyOrder_holds : Rows.WordKeyOrderSaid := WWordKeyOrder.over
#print axioms wordKeyOrder_holds
end Go.Proofs.Ytkdggpjlafecgaa
