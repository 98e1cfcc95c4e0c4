/-
  WordKeyRoundTrip: for every two slices of bytes and every int64 the law returns true; no condition (the slices lie within the form's own reach).
-/
import Derived.Test.YtkdggpjlafecgaaOpen
import Derived.Test.YtkdggpjlafecgaaCut
namespace Go.Proofs.Ytkdggpjlafecgaa.WWordKeyRoundTrip
open Go.ChangeShapes Go.WideShapes Go.ChangeAt Go.RowKit

set_option maxRecDepth 100000 in
set_option maxHeartbeats 2000000 in
set_option linter.unusedVariables false in
theorem walk (A : Option Addr) (n c : Nat) (zs : List Int) (k : Int) (B : Option Addr) (m d : Nat) (ys : List Int) (w : World) (w0 : ByArg w A n c zs) (w1 : (Lit.int .i64 k).wf = true) (w2 : ByArg w B m d ys) :
    Calls Try.prog 8 #[.slice A n c, .int .i64 k, .slice B m d] w fun e w' => e = .returned (.bool true) ∧ Below w.heap.size w w' := by
  obtain ⟨hZ0, hc, hcap, hA0⟩ := w0
  obtain ⟨hY0, hd, hdap, _⟩ := w2
  obtain ⟨k0, k1⟩ := bounds_i64 w1
  have hZ := hid hZ0
  have hY := hid hY0
  have hA := hid hA0
  have hn : n ≤ 140737488351232 := by omega
  have hm : m ≤ 140737488351232 := by omega
  have HF : Hid (kyOut (zs ++ kb (kn k) ++ ys) (n : Int) = (k, ((n + 8 : Nat) : Int), 0)) := hid (by have := ky_back zs ys k k0 k1; rw [hZ0.1] at this; exact this)
  clear hZ0 hY0 w1 hcap hdap hA0
  go_enter Try.func8, Try.ntmps8
  go_wp2_with fail
  refine (appKey_len A n c zs k _ hZ.out hA.out (by omega) k0 k1).mono ?_
  rintro e w1 ⟨X, x, cx, rfl, rfl, hcx, hX, hb1⟩
  have HX := hid hX
  clear hX
  go_wp2_with fail
  refine (awake_any _).mono ?_
  rintro e w2 ⟨rfl, hb2⟩
  have HX2 := hid (HX.out.below hb2 (Nat.le_refl _))
  have hb : Below w.heap.size w w2 := hb1.trans (hb2.mono hb1.size)
  clear hb1 hb2
  go_wp2_with fail
  refine (keyBytes_len k _ k0 k1).mono ?_
  rintro e w3 ⟨K, ck, rfl, hK, hb3⟩
  have HK := hid hK
  have HX3 := hid (HX2.out.below hb3 (Nat.le_refl _))
  have hb' : Below w.heap.size w w3 := hb.trans (hb3.mono hb.size)
  clear hK hb3 hb
  go_wp2_with fail
  refine (join_len A n c zs K 8 ck (kb (kn k)) _ (hZ.out.below hb' (Nat.le_refl _)) HK.out (by omega)).mono ?_
  rintro e w4 ⟨J, l, cl, rfl, rfl, hcl, hJ, hb4⟩
  have HJ := hid hJ
  have HX4 := hid (HX3.out.below hb4 (Nat.le_refl _))
  have hb : Below w.heap.size w w4 := hb'.trans (hb4.mono hb'.size)
  clear hJ hb4 hb'
  go_wp2_with fail
  refine (same_yes X (n + 8) cx (zs ++ kb (kn k)) J (n + 8) cl _ rfl HX4.out HJ.out (by omega)).mono ?_
  rintro e w5 ⟨rfl, hb5⟩
  have HX5 := hid (HX4.out.below hb5 (Nat.le_refl _))
  have hb' : Below w.heap.size w w5 := hb.trans (hb5.mono hb.size)
  clear hb hb5
  go_wp2_with fail
  refine (join_len X (n + 8) cx _ B m d ys _ HX5.out (hY.out.below hb' (Nat.le_refl _)) (by omega)).mono ?_
  rintro e w6 ⟨T, t, ct, rfl, rfl, hct, hT, hb6⟩
  have HT := hid hT
  have hb : Below w.heap.size w w6 := hb'.trans (hb6.mono hb'.size)
  clear hT hb6 hb'
  go_wp2_with fail
  refine (key_both 28 (.inl rfl) T (n + 8 + m) ct _ (n : Int) _ k _ 0 HT.out hct (by omega) HF.out).mono ?_
  rintro e w7 ⟨rfl, rfl⟩
  go_wp2
  go_ret
  exact ⟨rfl, hb⟩


set_option maxRecDepth 100000 in
set_option linter.unusedVariables false in
theorem lifted (os : Os) (started : os.Started) (H : Type) (enc : TypeId × Value → H) :
    ReturnsInHanded {} Try.checked os 8 .any (Rows.wordKeyRoundTripSpec.pre6 enc Try.prog Try.f8 Rows.wordKeyRoundTripRow.domain false) (Rows.wordKeyRoundTripSpec.post enc Try.prog Try.f8 false true false false) := by
  refine returnsInHanded_of_change_sized (C := Try.checked) own started (by kernel_rfl) Try.func8
    (ChangeSpec.witness6 (enc := enc) (C := Try.checked) false ⟨#[], #[.slice none 0 0, .int .i64 0, .slice none 0 0], []⟩ 8 (by kernel_rfl) (by kernel_rfl) (by kernel_rfl) (by kernel_rfl)) ?_
  intro W base args ds gs before hval0 hW hcnd hsz0 _
  have hsz : (DataW.weightsEach Try.prog (Try.f8.params.toList ++ Rows.wordKeyRoundTripSpec.plain.varTypes Try.prog) (ds ++ gs)).all (· ≤ reachBytes) = true := hsz0
  clear hsz0
  have hval : ∀ (j : Nat) t v, Try.f8.params[j]? = some t → args[j]? = some v → Value.okWide Try.prog W .any base t v := hval0
  have hW' := hW
  obtain ⟨p, q, hA0, hV, rfl, hfz, hnd⟩ := hW
  have hA : DataW.TrodAll enc Try.prog W 0 (fun _ => true) true Try.f8.params.toList args.toList ds p := hA0
  rw [Try.params8] at hA hval hsz
  obtain ⟨v0, vs0, d0, ds0, p0, q0, hargs, rfl, rfl, h0, r0⟩ := trodAll_cons hA
  obtain ⟨v1, vs1, d1, ds1, p1, q1, rfl, rfl, rfl, h1, r1⟩ := trodAll_cons r0
  obtain ⟨v2, vs2, d2, ds2, p2, q2, rfl, rfl, rfl, h2, r2⟩ := trodAll_cons r1
  obtain ⟨rfl, rfl, rfl⟩ := trodAll_nil r2
  obtain rfl : args = #[v0, v1, v2] := by cases args; simp_all
  obtain ⟨rfl, rfl⟩ := trodVars_none hV
  obtain ⟨a0, len0, cap0, rfl⟩ := okWide_slice Try.underlying26 (hval 0 26 v0 rfl rfl)
  have k0 := h0
  have lt0 : ∀ x ∈ p0, x.block < W.heap.size := by obtain ⟨m, hm⟩ := k0; exact DataW.trod_lt m _ _ _ hm
  obtain ⟨z0, w0⟩ : ∃ zs, ByArg W a0 len0 cap0 zs := by
    obtain ⟨fuel, hf⟩ := h0
    rcases open_ints Try.underlying26 Try.underlying5 (by kernel_rfl) hf with ⟨hcs, _⟩ | ⟨x, l, c, zs, hcs, _, hl, hm, hz, hx, hcell, hwz⟩
    · simp [Value.cells] at hcs
      obtain ⟨rfl, rfl, rfl⟩ := hcs
      exact ⟨[], ByArg.nil W⟩
    · simp [Value.cells] at hcs
      obtain ⟨rfl, rfl, rfl⟩ := hcs
      have hd : d0 = _ := congrArg Prod.fst hx
      have hb := sized_slice hsz (j := 0) (t := 26) (e := 5) rfl (by rw [hd]; rfl) Try.underlying26
      rw [bytesE] at hb
      exact ⟨zs.take len0, ByArg.of_cells hl (by simpa using hz) hcell hwz (by simpa [lits, reachBytes] using hb)⟩
  obtain ⟨a1, rfl, rfl, rfl, w1⟩ := open_int Try.underlying2 (hval 1 2 v1 rfl rfl) h1
  obtain ⟨a2, len2, cap2, rfl⟩ := okWide_slice Try.underlying26 (hval 2 26 v2 rfl rfl)
  have k2 := h2
  have lt2 : ∀ x ∈ p2, x.block < W.heap.size := by obtain ⟨m, hm⟩ := k2; exact DataW.trod_lt m _ _ _ hm
  obtain ⟨z2, w2⟩ : ∃ zs, ByArg W a2 len2 cap2 zs := by
    obtain ⟨fuel, hf⟩ := h2
    rcases open_ints Try.underlying26 Try.underlying5 (by kernel_rfl) hf with ⟨hcs, _⟩ | ⟨x, l, c, zs, hcs, _, hl, hm, hz, hx, hcell, hwz⟩
    · simp [Value.cells] at hcs
      obtain ⟨rfl, rfl, rfl⟩ := hcs
      exact ⟨[], ByArg.nil W⟩
    · simp [Value.cells] at hcs
      obtain ⟨rfl, rfl, rfl⟩ := hcs
      have hd : d2 = _ := congrArg Prod.fst hx
      have hb := sized_slice hsz (j := 2) (t := 26) (e := 5) rfl (by rw [hd]; rfl) Try.underlying26
      rw [bytesE] at hb
      exact ⟨zs.take len2, ByArg.of_cells hl (by simpa using hz) hcell hwz (by simpa [lits, reachBytes] using hb)⟩
  clear hA0 hval0
  refine (walk a0 len0 cap0 z0 a1 a2 len2 cap2 z2 W w0 w1 w2).mono fun e W' ⟨he, bel⟩ => ?_
  subst he
  exact ⟨_, rfl, _, _, _, [], _, [], hW', trodAll_mk1 (shut_bool Try.underlying4 _), (trodAll_cons_mk (Below.trod laidOut (by kernel_rfl) (of_decide_eq_true (by kernel_rfl)) k0 bel lt0) (trodAll_cons_mk (shut_int Try.underlying2 w1) (trodAll_cons_mk (Below.trod laidOut (by kernel_rfl) (of_decide_eq_true (by kernel_rfl)) k2 bel lt2) trodAll_mk0))), rfl, bel.frame _, fun h => by cases h⟩

theorem over : Rows.wordKeyRoundTripRow.holds Try.pinned (OpenSpec.ofChange Rows.wordKeyRoundTripSpec) :=
  OpenClaim.holds_of_wide 8 Try.f8 rfl rfl rfl rfl rfl rfl rfl ⟨rfl, rfl, rfl, rfl, rfl⟩ rfl rfl rfl rfl rfl (by kernel_rfl) Try.func8 (by kernel_rfl)
    (of_decide_eq_true (by kernel_rfl)) (by unfold Func.isWrapper; first | (rw [if_pos (by decide +kernel)]; kernel_rfl) | (rw [if_neg (by decide +kernel)]; exact ⟨rfl, rfl⟩))
    (fun os started H enc _ => lifted os started H enc)

end Go.Proofs.Ytkdggpjlafecgaa.WWordKeyRoundTrip

namespace Go.Proofs.Ytkdggpjlafecgaa
theorem wordKeyRoundTrip_holds : Rows.WordKeyRoundTripSaid := WWordKeyRoundTrip.over
#print axioms wordKeyRoundTrip_holds
end Go.Proofs.Ytkdggpjlafecgaa
