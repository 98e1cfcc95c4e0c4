/-
  HandlesForged: for every int, every slice of calls and every uint64 the law returns true; no condition (the slice lies within the form's own reach).
-/
import Derived.Test.YtbmamikhjfieoaaHop
import Derived.Test.YtbmamikhjfieoaaHap
namespace Go.Proofs.Ytbmamikhjfieoaa.WHandlesForged
open Go.ChangeShapes Go.WideShapes Go.ChangeAt Go.RowKit

set_option maxRecDepth 100000 in
set_option maxHeartbeats 4000000 in
set_option linter.unusedVariables false in
theorem walk (c : Int) (A : Option Addr) (m d : Nat) (f : Nat → C4) (h0 : Int) (w : World) (w0 : (Lit.int .i64 c).wf = true) (w1 : CArg4 w A m d f) (w2 : (Lit.int .u64 h0).wf = true) :
    Calls Try.prog 11 #[.int .i64 c, .slice A m d, .int .u64 h0] w fun e w' => e = .returned (.bool true) ∧ Below w.heap.size w w' := by
  obtain ⟨i0, hi0, hz0, hz1, hz2⟩ := info_parts info58
  obtain ⟨hh0, hh1⟩ := bounds_u64 w2
  obtain ⟨h, rfl⟩ := Int.eq_ofNat_of_zero_le hh0
  have hh : h ≤ 18446744073709551615 := by omega
  clear w2 hh0 hh1
  have hm0 := Int.emod_nonneg c (show (10 : Int) ≠ 0 by omega)
  have hm1 := Int.emod_lt_of_pos c (show (0 : Int) < 10 by omega)
  obtain ⟨n0, hn0⟩ := Int.eq_ofNat_of_zero_le hm0
  rw [hn0] at hm1
  have HM := hid hn0
  obtain ⟨n, hn⟩ : ∃ n, n = n0 + 1 := ⟨_, rfl⟩
  have HNN := hid (show (1 : Int) + (n0 : Int) = (n : Int) by omega)
  have hn9 : n0 ≤ 9 := by omega
  have hn1 : 1 ≤ n := by omega
  have hn30 : n ≤ 30 := by omega
  have HC := hid w1
  clear hm0 hm1 hn0 hn w1
  have HMOD := hid (show ((h % 34359738368 : Nat) : Int) = (h : Int) % 34359738368 by omega)
  go_enter Try.func11, Try.ntmps11
  go_wp2_with fail
  refine (mod_any c 10 _ (by omega) (by omega)).mono ?_
  rintro e x1 ⟨rfl, rfl⟩
  rw [HM.out]
  go_wp2_with fail
  rw [HNN.out]
  refine (hplay_any n A m d f _ hn1 (by omega) HC.out).mono ?_
  rintro e x2 ⟨t, X, T, S, v, zs, rfl, hP, hb⟩
  have HP := hid hP
  clear hP
  go_wp2_with fail
  refine (hawake_any _).mono ?_
  rintro e x3 ⟨rfl, hb3⟩
  have HP3 := hid (HP.out.below hb3)
  have hb := hb.trans (hb3.mono hb.size)
  clear hb3
  obtain ⟨Ax, cx, hX, hN⟩ := HP3.out.nums
  subst hX
  have HN := hid hN
  obtain ⟨l, hl⟩ : ∃ l, l = zs.length := ⟨_, rfl⟩
  have HL := hid hl
  have hl150 : l ≤ 150 := by rw [hl]; exact HP3.out.iss.len
  rw [← hl] at HN ⊢
  clear hN hl
  go_wp2_with fail
  refine (HP3.out.t_ ▸ handles_any HP3.out.tab HP3.out.wf).mono ?_
  rintro e x4 ⟨Ao, co, rfl, hNo, hb4⟩
  have HP4 := hid (HP3.out.below hb4)
  have HN4 := hid (HN.out.below hb4)
  obtain ⟨no, hno⟩ : ∃ no, no = (opens S).length := ⟨_, rfl⟩
  rw [← hno] at hNo ⊢
  have HNO := hid hno
  have hno2 : no ≤ 65536 := by rw [hno]; have := opens_len S S.n; have := HP3.out.wf.n2; unfold opens; omega
  have HO := hid (hNo.weak (F' := Nil) (fun _ h => h.elim))
  have HB4 := hid (hb.trans (hb4.mono hb.size))
  clear hNo hb4 hb hno
  have hnil : Ax = none → l = 0 ∧ cx = 0 := fun hA => own_nil HP4.out.own (by rw [hA]) |> fun ⟨h1, h2⟩ => ⟨by rw [HL.out]; exact h1, h2⟩
  have HNIL := hid hnil
  have hs4 : w.heap.size ≤ x4.heap.size := HB4.out.size
  obtain ⟨g2, hg2⟩ : ∃ g2, g2 = h % 34359738368 := ⟨_, rfl⟩
  rw [← hg2] at HMOD
  have hg2h : g2 ≤ h := by rw [hg2]; exact Nat.mod_le _ _
  obtain ⟨tr, htr⟩ : ∃ tr, tr = [h, 0, g2] ++ zs := ⟨_, rfl⟩
  have HTR := hid htr
  have htl : tr.length = l + 3 := by rw [htr, HL.out]; simp
  have HTL := hid htl
  have HTB : Hid (∀ y, y ∈ tr → y ≤ 18446744073709551615) := hid (by
    intro y hy
    rw [htr] at hy
    rcases List.mem_append.1 hy with hy | hy
    · simp at hy; omega
    · exact (HP4.out.iss.le y hy).2.2)
  have HSRC : Hid (∀ ad, Ax = some ad → ∀ j u, ((natsI zs).map (Value.int .u64))[j]? = some u → (x4.alloc (.cells #[.int .u64 (h : Int), .int .u64 0, .int .u64 (g2 : Int)] 58)).cell? (ad.add j) = some u) :=
    hid (HN4.out.below ((Below.refl _ _).alloc (Nat.le_refl _) _)).src
  clear hnil htr htl hg2
  go_wp2_with (at_builtin; rw [← HMOD.out]; refine wpList_append_both rfl (.tmp 35) (.tmp 36) 62 rfl x4.heap.size 58 i0 (.int .u64 0) 8 Try.underlying62 hi0 hz0 hz1 hz2 rfl (.slice (some ⟨x4.heap.size, 0, none⟩) 3 3) 3 [.int .u64 (h : Int), .int .u64 0, .int .u64 (g2 : Int)] rfl (World.ownsRow_lit x4 _ 3 (Nat.le_refl _) (by unfold maxLen; omega) rfl) Ax l cx ((natsI zs).map (Value.int .u64)) rfl HNIL.out (by rw [List.length_map, natsI_len, HL.out]) HSRC.out (ints_one _ _) (by unfold maxLen; omega) (by omega) (by simp) ?_)
  intro v5 x5 hown5 hc5
  have hb45 : Below x4.heap.size x4 x5 := ((Chg.refl (fun k => x4.heap.size ≤ k) x4).alloc _ |>.trans hc5 (fun k hk => .inl (by simp [Value.ownBlock] at hk; show x4.heap.size ≤ k; omega))).below (Nat.le_refl _) (fun k hk => hk)
  have HP5 := hid (HP4.out.below hb45)
  have HO5 := hid (HO.out.below hb45)
  have HB5 := hid (HB4.out.trans (hb45.mono hs4))
  obtain ⟨At, ct, hv5, hN5⟩ := own_nums (k := .u64) (F := Nil) (zs := natsI tr) (n := l + 3) (by
    have e : (natsI tr).map (Value.int .u64) = [.int .u64 (h : Int), .int .u64 0, .int .u64 (g2 : Int)] ++ (natsI zs).map (Value.int .u64) := by rw [HTR.out]; simp [natsI]
    rw [e, Nat.add_comm l 3]; exact hown5) (fun _ h => h.elim)
  rw [hv5]
  have HN5 := hid hN5
  clear hown5 hc5 hb45 hv5 hN5 HSRC HNIL HMOD
  go_wp2
  go_loopw [11, 12, 13, 14, 15] (fun i _ _ _ _ wr => ∃ k : Nat, k ≤ l + 3 ∧ i = .int .i64 k ∧ Qt x5 wr) (fun i _ _ _ _ _ => l + 3 - (intOf i).toNat)
  case atStart => exact ⟨0, Nat.zero_le _, rfl, 0, rfl⟩
  case round =>
    obtain ⟨k, hk, rfl, hq⟩ := hrel
    obtain ⟨wo, hwo⟩ : ∃ wo : World, wo = wr := ⟨_, rfl⟩
    subst hwo
    have HQ := hid hq
    clear hq
    by_cases hlt : k < l + 3
    · obtain ⟨b, off, hA, hbl, _, hc⟩ := HN5.out.2 (by omega)
      subst hA
      have hck := hc k hlt
      rw [natsI_getD] at hck
      obtain ⟨y, hy⟩ : ∃ y, y = tr.getD k 0 := ⟨_, rfl⟩
      rw [← hy] at hck
      have hyk : tr[k]? = some y := by rw [hy]; simp [List.getD, show k < tr.length by have := HTL.out; omega]
      have hyb : y ≤ 18446744073709551615 := HTB.out y (List.mem_of_getElem? hyk)
      have HCK := hid hck
      clear hc hy hyk hck
      go_wp2
      go_loopw [12, 13] (fun a j wr => ∃ i : Nat, i ≤ no ∧ j = .int .i64 i ∧ a = .bool (((opens S).take i).contains y) ∧ Qt x5 wr) (fun _ j _ => no - (intOf j).toNat)
      case atStart => exact ⟨0, Nat.zero_le _, rfl, by simp, HQ.out⟩
      case round =>
        obtain ⟨i, hi, rfl, rfl, hq⟩ := hrel
        have c1 : wr.cell? ⟨b, off + k, none⟩ = some (.int .u64 (y : Int)) := by obtain ⟨q, rfl⟩ := hq; exact HCK.out
        by_cases hik : i < no
        · obtain ⟨b2, off2, hA2, hbl2, _, hc2⟩ := HO5.out.2 (by omega)
          subst hA2
          have hci := hc2 i hik
          rw [natsI_getD] at hci
          obtain ⟨z, hz⟩ : ∃ z, z = (opens S).getD i 0 := ⟨_, rfl⟩
          rw [← hz] at hci
          have hil : i < (opens S).length := by have := HNO.out; omega
          have htk : (opens S).take (i + 1) = (opens S).take i ++ [z] := by
            rw [List.take_succ_eq_append_getElem hil, hz]; simp [List.getD, hil]
          have c2 : wr.cell? ⟨b2, off2 + i, none⟩ = some (.int .u64 (z : Int)) := by obtain ⟨q, rfl⟩ := hq; exact hci
          obtain ⟨ya, hya⟩ : ∃ ya, ya = ((opens S).take i).contains y := ⟨_, rfl⟩
          have HNX : Hid (((opens S).take (i + 1)).contains y = (ya || (z == y))) := hid (by rw [htk, hya]; exact contains_snoc _ _ _)
          rw [← hya]
          have HQ2 := hid hq
          clear hq hz hci hc2 htk hya hil
          cases ya with
          | true =>
            go_wp2_with fail
            go_quiet (fail)
            go_wp2
            go_roundw
            case rel => exact ⟨i + 1, by omega, by go_num, by rw [HNX.out]; rfl, by obtain ⟨q, rfl⟩ := HQ2.out; exact ⟨_, World.drewN_drewN ..⟩⟩
            case measure => simp [intOf]; omega
          | false =>
            by_cases hzy : z = y
            · have hbq : ((z : Int) == (y : Int)) = true := by simp [hzy]
              have HZY := hid hzy
              clear hzy
              go_wp2_with fail
              go_quiet (fail)
              go_wp2
              go_roundw
              case rel => exact ⟨i + 1, by omega, by go_num, by rw [HNX.out, HZY.out]; simp, by obtain ⟨q, rfl⟩ := HQ2.out; exact ⟨_, World.drewN_drewN ..⟩⟩
              case measure => simp [intOf]; omega
            · have hbq : ((z : Int) == (y : Int)) = false := by simp; omega
              have HZY := hid hzy
              clear hzy
              go_wp2_with fail
              go_quiet (fail)
              go_wp2
              go_roundw
              case rel => exact ⟨i + 1, by omega, by go_num, by rw [HNX.out]; simp [HZY.out], by obtain ⟨q, rfl⟩ := HQ2.out; exact ⟨_, World.drewN_drewN ..⟩⟩
              case measure => simp [intOf]; omega
        · have hin : i = no := by omega
          clear hik
          have HIN : Hid (((opens S).take i).contains y = S.op y) := hid (by
            rw [hin, HNO.out, List.take_length, Bool.eq_iff_iff, List.contains_iff_mem]
            exact HP5.out.wf.opens_mem y)
          have HQ2 := hid hq
          have HPQ := hid (HP5.out.tab.qt hq)
          rw [HIN.out]
          have hge : ¬ i < no := by omega
          clear hin hq
          cases ho : S.op y with
          | true =>
            have HO := hid ho
            clear ho
            go_wp2_with fail
            refine (HP5.out.t_ ▸ lookup_yes y HPQ.out HP5.out.wf hyb HO.out).mono ?_
            rintro e x6 ⟨rfl, rfl⟩
            go_wp2
            go_roundw
            case rel => exact ⟨k + 1, by omega, by go_num, HQ2.out⟩
            case measure => simp [intOf]; omega
          | false =>
            have HO := hid ho
            clear ho
            go_wp2_with fail
            refine (HP5.out.t_ ▸ lookup_no y HPQ.out HP5.out.wf hyb HO.out).mono ?_
            rintro e x6 ⟨rfl, rfl⟩
            go_wp2
            go_roundw
            case rel => exact ⟨k + 1, by omega, by go_num, HQ2.out⟩
            case measure => simp [intOf]; omega
    · go_wp2
      go_ret
      exact ⟨rfl, HB5.out.trans ((HQ.out.chg Nil).below HB5.out.size (fun _ h => h.elim))⟩


set_option maxRecDepth 100000 in
set_option linter.unusedVariables false in
theorem lifted (os : Os) (started : os.Started) (H : Type) (enc : TypeId × Value → H) :
    ReturnsInHanded {} Try.checked os 11 .any (Rows.handlesForgedSpec.pre6 enc Try.prog Try.f11 Rows.handlesForgedRow.domain false) (Rows.handlesForgedSpec.post enc Try.prog Try.f11 false true false false) := by
  refine returnsInHanded_of_change_sized (C := Try.checked) own started (by kernel_rfl) Try.func11
    (ChangeSpec.witness6 (enc := enc) (C := Try.checked) false ⟨#[], #[.int .i64 0, .slice none 0 0, .int .u64 0], []⟩ 8 (by kernel_rfl) (by kernel_rfl) (by kernel_rfl) (by kernel_rfl)) ?_
  intro W base args ds gs before hval0 hW hcnd hsz0 _
  have hsz : (DataW.weightsEach Try.prog (Try.f11.params.toList ++ Rows.handlesForgedSpec.plain.varTypes Try.prog) (ds ++ gs)).all (· ≤ reachBytes) = true := hsz0
  clear hsz0
  have hval : ∀ (j : Nat) t v, Try.f11.params[j]? = some t → args[j]? = some v → Value.okWide Try.prog W .any base t v := hval0
  have hW' := hW
  obtain ⟨p, q, hA0, hV, rfl, hfz, hnd⟩ := hW
  have hA : DataW.TrodAll enc Try.prog W 0 (fun _ => true) true Try.f11.params.toList args.toList ds p := hA0
  rw [Try.params11] at hA hval hsz
  obtain ⟨v0, vs0, d0, ds0, p0, q0, hargs, rfl, rfl, h0, r0⟩ := trodAll_cons hA
  obtain ⟨v1, vs1, d1, ds1, p1, q1, rfl, rfl, rfl, h1, r1⟩ := trodAll_cons r0
  obtain ⟨v2, vs2, d2, ds2, p2, q2, rfl, rfl, rfl, h2, r2⟩ := trodAll_cons r1
  obtain ⟨rfl, rfl, rfl⟩ := trodAll_nil r2
  obtain rfl : args = #[v0, v1, v2] := by cases args; simp_all
  obtain ⟨rfl, rfl⟩ := trodVars_none hV
  obtain ⟨a0, rfl, rfl, rfl, w0⟩ := open_int Try.underlying3 (hval 0 3 v0 rfl rfl) h0
  obtain ⟨a1, len1, cap1, rfl⟩ := okWide_slice Try.underlying61 (hval 1 61 v1 rfl rfl)
  have k1 := h1
  have lt1 : ∀ x ∈ p1, x.block < W.heap.size := by obtain ⟨m, hm⟩ := k1; exact DataW.trod_lt m _ _ _ hm
  obtain ⟨z1, w1⟩ : ∃ zs, CArg4 W a1 len1 cap1 zs := CArg4.open_ (j := 1) k1 hsz rfl rfl
  obtain ⟨a2, rfl, rfl, rfl, w2⟩ := open_int Try.underlying58 (hval 2 58 v2 rfl rfl) h2
  clear hA0 hval0
  refine (walk a0 a1 len1 cap1 z1 a2 W w0 w1 w2).mono fun e W' ⟨he, bel⟩ => ?_
  subst he
  exact ⟨_, rfl, _, _, _, [], _, [], hW', trodAll_mk1 (shut_bool Try.underlying4 _), (trodAll_cons_mk (shut_int Try.underlying3 w0) (trodAll_cons_mk (Below.trod laidOut (by kernel_rfl) (of_decide_eq_true (by kernel_rfl)) k1 bel lt1) (trodAll_cons_mk (shut_int Try.underlying58 w2) trodAll_mk0))), rfl, bel.frame _, fun h => by cases h⟩

theorem over : Rows.handlesForgedRow.holds Try.pinned (OpenSpec.ofChange Rows.handlesForgedSpec) :=
  OpenClaim.holds_of_wide 11 Try.f11 rfl rfl rfl rfl rfl rfl rfl ⟨rfl, rfl, rfl, rfl, rfl⟩ rfl rfl rfl rfl rfl (by kernel_rfl) Try.func11 (by kernel_rfl)
    (of_decide_eq_true (by kernel_rfl)) (by unfold Func.isWrapper; first | (rw [if_pos (by decide +kernel)]; kernel_rfl) | (rw [if_neg (by decide +kernel)]; exact ⟨rfl, rfl⟩))
    (fun os started H enc _ => lifted os started H enc)

end Go.Proofs.Ytbmamikhjfieoaa.WHandlesForged

namespace Go.Proofs.Ytbmamikhjfieoaa
theorem handlesForged_holds : Rows.HandlesForgedSaid := WHandlesForged.over
#print axioms handlesForged_holds
end Go.Proofs.Ytbmamikhjfieoaa
