/-
  WordUvarintIsCanonical: for every slice of bytes and every index the law returns true; no condition.
-/
import Derived.Test.YtkdggpjlafecgaaOpen
import Derived.Test.YtkdggpjlafecgaaCut
import Derived.Deep.RegionHeld3
namespace Go.Proofs.Ytkdggpjlafecgaa.WWordUvarintIsCanonical
open Go.ChangeShapes Go.WideShapes Go.ChangeAt Go.RowKit

set_option maxRecDepth 100000 in
set_option maxHeartbeats 2000000 in
set_option linter.unusedVariables false in
theorem walk (A : Option Addr) (n c : Nat) (zs : List Int) (at' : Int) (w : World) (w0 : ByArg w A n c zs) (w1 : (Lit.int .i64 at').wf = true) :
    Calls Try.prog 12 #[.slice A n c, .int .i64 at'] w fun e w' => e = .returned (.bool true) ∧ Below w.heap.size w w' := by
  obtain ⟨hZ0, hc, hcap, _⟩ := w0
  have hZ := hid hZ0
  have hn : n ≤ 140737488351232 := by omega
  clear hZ0 w1 hcap
  go_enter Try.func12, Try.ntmps12
  go_wp2_with fail
  refine (mod_any at' ((n : Int) + 1) _ (by omega) (by omega)).mono ?_
  rintro e w2 ⟨rfl, rfl⟩
  have hm0 := Int.emod_nonneg at' (show (n : Int) + 1 ≠ 0 by omega)
  have hm1 := Int.emod_lt_of_pos at' (show (0 : Int) < (n : Int) + 1 by omega)
  obtain ⟨k, hk⟩ := Int.eq_ofNat_of_zero_le hm0
  rw [hk] at hm1 ⊢
  have hkn : k ≤ n := by omega
  clear hm0 hm1 hk
  obtain ⟨v, r, e0, hO⟩ : ∃ v r e0, uvOut zs (k : Int) = (v, r, e0) := ⟨_, _, _, rfl⟩
  have HO := hid hO
  clear hO
  go_wp2_with fail
  refine (uv_any A n c zs (k : Int) _ v r e0 hZ.out hc (by omega) HO.out).mono ?_
  rintro e w3 ⟨rfl, rfl⟩
  by_cases he0 : e0 = 0
  · subst he0
    obtain ⟨y, m, hv, hy, hr, hkm, hmn, ht⟩ := uv_canon zs k v r (by rw [hZ.out.1]; exact hkn) hZ.out.all HO.out
    rw [hZ.out.1] at hmn
    have HT := hid ht
    have HY := hid hy
    subst hv hr
    clear ht hy HO
    obtain ⟨b, off, hA, _⟩ := hZ.out.2.2 (by omega)
    subst hA
    go_wp2_with fail
    refine (awake_any _).mono ?_
    rintro e w4 ⟨rfl, hb⟩
    have HB := hid ((hZ.out.below hb (Nat.le_refl _)).cut (k := k) (m := m) (by omega) hmn)
    rw [HT.out] at HB
    have HL := hid (show m - k = (vb y).length from HB.out.1.symm)
    have HBd : Hid (Byt w4.drew (some ⟨b, off + k, none⟩) (m - k) (vb y)) := HB
    clear hZ HT HB
    go_wp2_with fail
    have i1 : (0 : Int) ≤ (k : Int) := Int.natCast_nonneg _
    have i2 : (k : Int) < (m : Int) := by omega
    have i3 : (m : Int) ≤ (n : Int) := by omega
    have i4 : (m : Int) ≤ (c : Int) := by omega
    have i5 : ¬ c = k := by omega
    have i6 : k ≤ m := by omega
    have i7 : m ≤ c := by omega
    go_region_held3 (fun _ => True) (trivial) ((first | (go_at_call 31; refine (appUv_len none 0 0 [] y _ (Byt.nil _ _) (fun _ => rfl) (by omega) HY.out).mono ?_; rintro e w5 ⟨X, x, cx, rfl, hx, hx1, hx2, hcx, hX, hb5⟩; simp only [List.nil_append] at hx hX; have HXL := hid hx; have HX := hid hX; clear hx hX) | (go_at_call 25; refine (same_yes _ (m - k) _ (vb y) X x cx _ (HXL.out.trans HL.out.symm) (HBd.out.below hb5 (Nat.le_refl _)) HX.out (by omega)).mono ?_; rintro e w6 ⟨rfl, hb6⟩)))
    all_goals
      go_wp2
      go_ret
      exact ⟨rfl, hb.trans ((Below.trans (Below.drew (Below.refl _ _)) (hb5.trans (hb6.mono hb5.size))).mono hb.size)⟩
  · have hne : (e0 != 0) = true := by simp [he0]
    go_wp2_with fail
    refine (awake_any _).mono ?_
    rintro e w4 ⟨rfl, hb⟩
    go_wp2_with fail
    refine (awake_any _).mono ?_
    rintro e w5 ⟨rfl, hb2⟩
    go_wp2
    go_ret
    exact ⟨rfl, hb.trans (hb2.mono hb.size)⟩


set_option maxRecDepth 100000 in
set_option linter.unusedVariables false in
theorem lifted (os : Os) (started : os.Started) (H : Type) (enc : TypeId × Value → H) :
    ReturnsInHanded {} Try.checked os 12 .any (Rows.wordUvarintIsCanonicalSpec.pre6 enc Try.prog Try.f12 Rows.wordUvarintIsCanonicalRow.domain false) (Rows.wordUvarintIsCanonicalSpec.post enc Try.prog Try.f12 false true false false) := by
  refine returnsInHanded_of_change_sized (C := Try.checked) own started (by kernel_rfl) Try.func12
    (ChangeSpec.witness6 (enc := enc) (C := Try.checked) false ⟨#[], #[.slice none 0 0, .int .i64 0], []⟩ 8 (by kernel_rfl) (by kernel_rfl) (by kernel_rfl) (by kernel_rfl)) ?_
  intro W base args ds gs before hval0 hW hcnd hsz0 _
  have hsz : (DataW.weightsEach Try.prog (Try.f12.params.toList ++ Rows.wordUvarintIsCanonicalSpec.plain.varTypes Try.prog) (ds ++ gs)).all (· ≤ reachBytes) = true := hsz0
  clear hsz0
  have hval : ∀ (j : Nat) t v, Try.f12.params[j]? = some t → args[j]? = some v → Value.okWide Try.prog W .any base t v := hval0
  have hW' := hW
  obtain ⟨p, q, hA0, hV, rfl, hfz, hnd⟩ := hW
  have hA : DataW.TrodAll enc Try.prog W 0 (fun _ => true) true Try.f12.params.toList args.toList ds p := hA0
  rw [Try.params12] at hA hval hsz
  obtain ⟨v0, vs0, d0, ds0, p0, q0, hargs, rfl, rfl, h0, r0⟩ := trodAll_cons hA
  obtain ⟨v1, vs1, d1, ds1, p1, q1, rfl, rfl, rfl, h1, r1⟩ := trodAll_cons r0
  obtain ⟨rfl, rfl, rfl⟩ := trodAll_nil r1
  obtain rfl : args = #[v0, v1] := by cases args; simp_all
  obtain ⟨rfl, rfl⟩ := trodVars_none hV
  obtain ⟨a0, len0, cap0, rfl⟩ := okWide_slice Try.underlying26 (hval 0 26 v0 rfl rfl)
  have k0 := h0
  have lt0 : ∀ x ∈ p0, x.block < W.heap.size := by obtain ⟨m, hm⟩ := k0; exact DataW.trod_lt m _ _ _ hm
  obtain ⟨z0, w0⟩ : ∃ zs, ByArg W a0 len0 cap0 zs := by
    obtain ⟨fuel, hf⟩ := h0
    rcases open_ints Try.underlying26 Try.underlying5 (by kernel_rfl) hf with ⟨hcs, _⟩ | ⟨x, l, c, zs, hcs, _, hl, hm, hz, hx, hcell, hwz⟩
    · simp [Value.cells] at hcs
      obtain ⟨rfl, rfl, rfl⟩ := hcs
      exact ⟨[], ByArg.nil W⟩
    · simp [Value.cells] at hcs
      obtain ⟨rfl, rfl, rfl⟩ := hcs
      have hd : d0 = _ := congrArg Prod.fst hx
      have hb := sized_slice hsz (j := 0) (t := 26) (e := 5) rfl (by rw [hd]; rfl) Try.underlying26
      rw [bytesE] at hb
      exact ⟨zs.take len0, ByArg.of_cells hl (by simpa using hz) hcell hwz (by simpa [lits, reachBytes] using hb)⟩
  obtain ⟨a1, rfl, rfl, rfl, w1⟩ := open_int Try.underlying3 (hval 1 3 v1 rfl rfl) h1
  clear hA0 hval0
  refine (walk a0 len0 cap0 z0 a1 W w0 w1).mono fun e W' ⟨he, bel⟩ => ?_
  subst he
  exact ⟨_, rfl, _, _, _, [], _, [], hW', trodAll_mk1 (shut_bool Try.underlying4 _), (trodAll_cons_mk (Below.trod laidOut (by kernel_rfl) (of_decide_eq_true (by kernel_rfl)) k0 bel lt0) (trodAll_cons_mk (shut_int Try.underlying3 w1) trodAll_mk0)), rfl, bel.frame _, fun h => by cases h⟩

theorem over : Rows.wordUvarintIsCanonicalRow.holds Try.pinned (OpenSpec.ofChange Rows.wordUvarintIsCanonicalSpec) :=
  OpenClaim.holds_of_wide 12 Try.f12 rfl rfl rfl rfl rfl rfl rfl ⟨rfl, rfl, rfl, rfl, rfl⟩ rfl rfl rfl rfl rfl (by kernel_rfl) Try.func12 (by kernel_rfl)
    (of_decide_eq_true (by kernel_rfl)) (by unfold Func.isWrapper; first | (rw [if_pos (by decide +kernel)]; kernel_rfl) | (rw [if_neg (by decide +kernel)]; exact ⟨rfl, rfl⟩))
    (fun os started H enc _ => lifted os started H enc)

end Go.Proofs.Ytkdggpjlafecgaa.WWordUvarintIsCanonical

namespace Go.Proofs.Ytkdggpjlafecgaa
theorem wordUvarintIsCanonical_holds : Rows.WordUvarintIsCanonicalSaid := WWordUvarintIsCanonical.over
#print axioms wordUvarintIsCanonical_holds
end Go.Proofs.Ytkdggpjlafecgaa
