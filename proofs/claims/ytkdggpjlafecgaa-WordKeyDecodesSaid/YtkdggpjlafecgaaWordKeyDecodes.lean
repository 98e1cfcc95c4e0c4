/-
  WordKeyDecodes: for every slice of bytes and every index the law returns true; no condition.
-/
import Derived.Test.YtkdggpjlafecgaaOpen
import Derived.Test.YtkdggpjlafecgaaCut
namespace Go.Proofs.Ytkdggpjlafecgaa.WWordKeyDecodes
open Go.ChangeShapes Go.WideShapes Go.ChangeAt Go.RowKit

set_option maxRecDepth 100000 in
set_option maxHeartbeats 2000000 in
set_option linter.unusedVariables false in
theorem walk (A : Option Addr) (n c : Nat) (zs : List Int) (at' : Int) (w : World) (w0 : ByArg w A n c zs) (w1 : (Lit.int .i64 at').wf = true) :
    Calls Try.prog 9 #[.slice A n c, .int .i64 at'] w fun e w' => e = .returned (.bool true) ∧ Below w.heap.size w w' := by
  obtain ⟨hZ0, hc, hcap, _⟩ := w0
  have hZ := hid hZ0
  have hn : n ≤ 9223372036854775807 := by omega
  have hn2 : n ≤ 140737488351232 := by omega
  clear hZ0 w1 hcap
  go_enter Try.func9, Try.ntmps9
  go_wp2
  go_loopw [1, 5] (fun a i wr => ∃ (x : Int) (j : Nat), j ≤ 2 ∧ a = .int .i64 x ∧ i = .int .i64 j ∧ Below w.heap.size w wr) (fun _ i _ => 2 - (intOf i).toNat)
  case atStart => exact ⟨at', 0, by omega, rfl, rfl, Below.refl _ _⟩
  case round =>
    obtain ⟨x, j, hj, rfl, rfl, hb⟩ := hrel
    by_cases hlt : j < 2
    · obtain ⟨v, r, e0, hO⟩ : ∃ v r e0, kyOut zs x = (v, r, e0) := ⟨_, _, _, rfl⟩
      have HO := hid hO
      clear hO
      go_wp2_with fail
      refine (key_both 28 (.inl rfl) A n c zs x _ v r e0 (hZ.out.below hb (Nat.le_refl _)) hc hn HO.out).mono ?_
      rintro e w' ⟨rfl, rfl⟩
      go_wp2_with fail
      refine (key_both 29 (.inr rfl) A n c zs x _ v r e0 (hZ.out.below hb (Nat.le_refl _)) hc hn HO.out).mono ?_
      rintro e w' ⟨rfl, rfl⟩
      go_wp2_with fail
      refine (mod_any x ((n : Int) + 1) _ (by omega) (by omega)).mono ?_
      rintro e w' ⟨rfl, rfl⟩
      go_wp2
      go_roundw
      case rel => exact ⟨_, j + 1, by omega, rfl, by go_num, hb⟩
      case measure => simp [intOf]; omega
    · go_wp2_with fail
      refine (awake_any _).mono ?_
      rintro e w' ⟨rfl, hb2⟩
      go_wp2
      go_ret
      exact ⟨rfl, hb.trans (hb2.mono hb.size)⟩


set_option maxRecDepth 100000 in
set_option linter.unusedVariables false in
theorem lifted (os : Os) (started : os.Started) (H : Type) (enc : TypeId × Value → H) :
    ReturnsInHanded {} Try.checked os 9 .any (Rows.wordKeyDecodesSpec.pre6 enc Try.prog Try.f9 Rows.wordKeyDecodesRow.domain false) (Rows.wordKeyDecodesSpec.post enc Try.prog Try.f9 false true false false) := by
  refine returnsInHanded_of_change_sized (C := Try.checked) own started (by kernel_rfl) Try.func9
    (ChangeSpec.witness6 (enc := enc) (C := Try.checked) false ⟨#[], #[.slice none 0 0, .int .i64 0], []⟩ 8 (by kernel_rfl) (by kernel_rfl) (by kernel_rfl) (by kernel_rfl)) ?_
  intro W base args ds gs before hval0 hW hcnd hsz0 _
  have hsz : (DataW.weightsEach Try.prog (Try.f9.params.toList ++ Rows.wordKeyDecodesSpec.plain.varTypes Try.prog) (ds ++ gs)).all (· ≤ reachBytes) = true := hsz0
  clear hsz0
  have hval : ∀ (j : Nat) t v, Try.f9.params[j]? = some t → args[j]? = some v → Value.okWide Try.prog W .any base t v := hval0
  have hW' := hW
  obtain ⟨p, q, hA0, hV, rfl, hfz, hnd⟩ := hW
  have hA : DataW.TrodAll enc Try.prog W 0 (fun _ => true) true Try.f9.params.toList args.toList ds p := hA0
  rw [Try.params9] at hA hval hsz
  obtain ⟨v0, vs0, d0, ds0, p0, q0, hargs, rfl, rfl, h0, r0⟩ := trodAll_cons hA
  obtain ⟨v1, vs1, d1, ds1, p1, q1, rfl, rfl, rfl, h1, r1⟩ := trodAll_cons r0
  obtain ⟨rfl, rfl, rfl⟩ := trodAll_nil r1
  obtain rfl : args = #[v0, v1] := by cases args; simp_all
  obtain ⟨rfl, rfl⟩ := trodVars_none hV
  obtain ⟨a0, len0, cap0, rfl⟩ := okWide_slice Try.underlying26 (hval 0 26 v0 rfl rfl)
  have k0 := h0
  have lt0 : ∀ x ∈ p0, x.block < W.heap.size := by obtain ⟨m, hm⟩ := k0; exact DataW.trod_lt m _ _ _ hm
  obtain ⟨z0, w0⟩ : ∃ zs, ByArg W a0 len0 cap0 zs := by
    obtain ⟨fuel, hf⟩ := h0
    rcases open_ints Try.underlying26 Try.underlying5 (by kernel_rfl) hf with ⟨hcs, _⟩ | ⟨x, l, c, zs, hcs, _, hl, hm, hz, hx, hcell, hwz⟩
    · simp [Value.cells] at hcs
      obtain ⟨rfl, rfl, rfl⟩ := hcs
      exact ⟨[], ByArg.nil W⟩
    · simp [Value.cells] at hcs
      obtain ⟨rfl, rfl, rfl⟩ := hcs
      have hd : d0 = _ := congrArg Prod.fst hx
      have hb := sized_slice hsz (j := 0) (t := 26) (e := 5) rfl (by rw [hd]; rfl) Try.underlying26
      rw [bytesE] at hb
      exact ⟨zs.take len0, ByArg.of_cells hl (by simpa using hz) hcell hwz (by simpa [lits, reachBytes] using hb)⟩
  obtain ⟨a1, rfl, rfl, rfl, w1⟩ := open_int Try.underlying3 (hval 1 3 v1 rfl rfl) h1
  clear hA0 hval0
  refine (walk a0 len0 cap0 z0 a1 W w0 w1).mono fun e W' ⟨he, bel⟩ => ?_
  subst he
  exact ⟨_, rfl, _, _, _, [], _, [], hW', trodAll_mk1 (shut_bool Try.underlying4 _), (trodAll_cons_mk (Below.trod laidOut (by kernel_rfl) (of_decide_eq_true (by kernel_rfl)) k0 bel lt0) (trodAll_cons_mk (shut_int Try.underlying3 w1) trodAll_mk0)), rfl, bel.frame _, fun h => by cases h⟩

theorem over : Rows.wordKeyDecodesRow.holds Try.pinned (OpenSpec.ofChange Rows.wordKeyDecodesSpec) :=
  OpenClaim.holds_of_wide 9 Try.f9 rfl rfl rfl rfl rfl rfl rfl ⟨rfl, rfl, rfl, rfl, rfl⟩ rfl rfl rfl rfl rfl (by kernel_rfl) Try.func9 (by kernel_rfl)
    (of_decide_eq_true (by kernel_rfl)) (by unfold Func.isWrapper; first | (rw [if_pos (by decide +kernel)]; kernel_rfl) | (rw [if_neg (by decide +kernel)]; exact ⟨rfl, rfl⟩))
    (fun os started H enc _ => lifted os started H enc)

end Go.Proofs.Ytkdggpjlafecgaa.WWordKeyDecodes

namespace Go.Proofs.Ytkdggpjlafecgaa
theorem wordKeyDecodes_holds : Rows.WordKeyDecodesSaid := WWordKeyDecodes.over
#print axioms wordKeyDecodes_holds
end Go.Proofs.Ytkdggpjlafecgaa
