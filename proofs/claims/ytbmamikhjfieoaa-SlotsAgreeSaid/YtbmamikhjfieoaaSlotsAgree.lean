/-
  SlotsAgree: for every int and every slice of calls the law returns true; no condition (the slice lies within the form's own reach).
-/
import Derived.Test.YtbmamikhjfieoaaAgree
import Derived.Deep.RegionLaw
import Derived.Deep.CutRange
namespace Go.Proofs.Ytbmamikhjfieoaa.WSlotsAgree
open Go.ChangeShapes Go.WideShapes Go.ChangeAt Go.RowKit

set_option maxRecDepth 100000 in
set_option maxHeartbeats 4000000 in
set_option linter.unusedVariables false in
theorem walk (c : Int) (A : Option Addr) (m d : Nat) (f : Nat → Bool × Nat) (w : World) (w0 : (Lit.int .i64 c).wf = true) (w1 : CArg3 w A m d f) :
    Calls Try.prog 5 #[.int .i64 c, .slice A m d] w fun e w' => e = .returned (.bool true) ∧ Below w.heap.size w w' := by
  have hm0 := Int.emod_nonneg c (show (12 : Int) ≠ 0 by omega)
  have hm1 := Int.emod_lt_of_pos c (show (0 : Int) < 12 by omega)
  obtain ⟨n0, hn0⟩ := Int.eq_ofNat_of_zero_le hm0
  rw [hn0] at hm1
  have HM := hid hn0
  obtain ⟨n, hn⟩ : ∃ n, n = n0 + 1 := ⟨_, rfl⟩
  have HNN := hid (show (1 : Int) + (n0 : Int) = (n : Int) by omega)
  have hn11 : n0 ≤ 11 := by omega
  have hn1 : 1 ≤ n := by omega
  have hn12 : n ≤ 12 := by omega
  obtain ⟨hC, _, hm⟩ := w1
  have HC := hid hC
  clear hm0 hm1 hn0 hn hC
  by_cases hbig : 120 < m
  · go_enter Try.func5, Try.ntmps5
    go_wp2_with fail
    refine (awake_any _).mono ?_
    rintro e x3 ⟨rfl, hb3⟩
    go_wp2
    go_ret
    exact ⟨rfl, hb3⟩
  have hm120 : m ≤ 120 := by omega
  clear hbig
  go_enter Try.func5, Try.ntmps5
  go_wp2_with fail
  refine (mod_any c 12 _ (by omega) (by omega)).mono ?_
  rintro e x1 ⟨rfl, rfl⟩
  rw [HM.out]
  go_wp2_with fail
  rw [HNN.out]
  refine (new_any n _ _ (Nat.le_refl _) hn1 (by omega)).mono ?_
  rintro e x2 ⟨L, rfl, hS, hb2, _⟩
  have HS2 := hid hS
  clear hS
  go_wp2_with fail
  refine (ref_new n _ L.foot (fun k hk => HS2.out.foot_lt hk) hn1 (by omega)).mono ?_
  rintro e x3 ⟨R, rfl, hR, hb3⟩
  obtain ⟨S, hS⟩ : ∃ S, S = SS.new n := ⟨_, rfl⟩
  rw [← hS] at hR HS2 ⊢
  have HW : Hid S.wf := hid (by rw [hS]; exact SS.new_wf n hn1 (by omega))
  have HN : Hid (S.n = n) := hid (by rw [hS]; rfl)
  have HS3 := hid (HS2.out.below hb3)
  have hbw3 := hb2.trans (hb3.mono hb2.size)
  have HR := hid hR
  clear hS hR hb2 hb3 HS2
  unfold RL.val
  go_wp2_with fail
  refine (awake_any _).mono ?_
  rintro e x4 ⟨rfl, hb4⟩
  obtain ⟨V, hV⟩ : ∃ V, V = x3.heap.size := ⟨_, rfl⟩
  have hb34 : Below x3.heap.size x3 x4 := ((Below.refl _ x3).alloc (Nat.le_refl _) _).trans (hb4.mono (by simp))
  have HST : Hid (St w.heap.size V L.g n x4 L R S) := hid ⟨HS3.out.below hb34, HW.out, HN.out, rfl, HR.out.keep (Chg.of_below (F := Nil) hb34) (fun _ h => h.elim) (fun k hk => hk.elim .inl (fun e => .inr (by omega))), by rw [hV]; exact (hb4.block _ (by simp)).trans (heap_alloc_new x3 _), fun hf => by have := HS3.out.foot_lt hf; omega, by rw [hV]; exact hbw3.size⟩
  have hb := hbw3.trans (hb34.mono hbw3.size)
  rw [← hV]
  obtain ⟨g, hg⟩ : ∃ g, g = L.g := ⟨_, rfl⟩
  rw [← hg] at HST ⊢
  clear hb4 hb34 hV hg hbw3 HS3 HR HW HN
  go_wp2
  go_loopw [9] (fun i wr => ∃ (k : Nat) (L : Loc) (R : RL) (S : SS), k ≤ m ∧ i = .int .i64 k ∧ Hid (St w.heap.size V g n wr L R S) ∧ Below w.heap.size w wr) (fun i _ => m - (intOf i).toNat)
  case atStart => exact ⟨0, L, R, S, Nat.zero_le _, rfl, HST, hb⟩
  case round =>
    clear HST hb
    obtain ⟨k, L, R, S, hk, rfl, HST, hb⟩ := hrel
    by_cases hlt : k < m
    · obtain ⟨b, off, hA, hbl, hc⟩ := HC.out (by omega)
      subst hA
      have hck := hc k hlt
      obtain ⟨r, s, hrs⟩ : ∃ r s, f k = (r, s) := ⟨_, _, rfl⟩
      rw [hrs] at hck
      have ca : wr.cell? ⟨b, off + k * 2, none⟩ = some (.bool r) := (hb.cell (by exact hbl)).trans hck.1
      have cb : wr.cell? ⟨b, off + k * 2 + 1, none⟩ = some (.int .u32 (s : Int)) := (hb.cell (by exact hbl)).trans hck.2.1
      have hs := hck.2.2
      clear hck hc hrs
      go_upto_if 54 with fail
      go_cut [10, 11, 12, 13, 14, 15, 16, 17] from 44 to 129 (fun _ _ _ _ _ _ _ _ wc => ∃ (L : Loc) (R : RL) (S : SS), Hid (St w.heap.size V g n wc L R S) ∧ Below w.heap.size w wc)
      case first =>
        cases r with
        | true =>
          go_wp2_with fail
          refine (at_any true s n _ hs (by omega)).mono ?_
          rintro e y1 ⟨rfl, hb1⟩
          have HS1 := hid (HST.out.below hb1)
          have hbb := hb.trans (hb1.mono hb.size)
          have hi := atN_le s n hs
          obtain ⟨t, ht⟩ : ∃ t, t = atN s n := ⟨_, rfl⟩
          rw [← ht] at hi ⊢
          obtain ⟨a0, a1, a2, a3, a4⟩ := Row5.cells HS1.out.v
          clear hb1 hb ca cb HST ht
          go_wp2_with fail
          cases ho : S.on t with
          | false =>
            have HO := hid ho
            clear ho
            refine (ref_release_no t HS1.out.r HS1.out.wf hi HO.out).mono ?_
            rintro e y2 ⟨rfl, hb2⟩
            have HS2 := hid (HS1.out.below hb2)
            have hbb2 := hbb.trans (hb2.mono hbb.size)
            clear hb2 hbb a0 a1 a2 a3 a4
            unfold RL.val
            go_wp2_with fail
            have h23 : Below y2.heap.size y2 (y2.alloc (.cells #[.int .i64 (S.n : Int), .slice R.a S.rl.length R.c, .int .i64 ((S.fresh : Int) + 1), .slice (some ⟨R.gb, 0, none⟩) S.n R.gc, .slice (some ⟨R.ob, 0, none⟩) S.n R.oc] 42)) := (Below.refl _ _).alloc (Nat.le_refl _) _
            have HS3 := hid (HS2.out.below h23)
            have hbb3 := hbb2.trans (h23.mono hbb2.size)
            have hX : Row5 (y2.alloc (.cells #[.int .i64 (S.n : Int), .slice R.a S.rl.length R.c, .int .i64 ((S.fresh : Int) + 1), .slice (some ⟨R.gb, 0, none⟩) S.n R.gc, .slice (some ⟨R.ob, 0, none⟩) S.n R.oc] 42)) y2.heap.size _ _ _ _ _ := heap_alloc_new y2 _
            refine (HS3.out.g_ ▸ release_no t HS3.out.s HS3.out.wf hi HO.out).mono ?_
            rintro e y3 ⟨rfl, hy3⟩
            rw [hy3] at HS3 hbb3 hX
            have HY := hid hy3
            clear hy3 h23
            obtain ⟨a0, a1, a2, a3, a4⟩ := Row5.cells hX
            obtain ⟨f0, f1, f2, f3, f4⟩ := Row5.frz HS3.out.v
            obtain ⟨d0, d1, d2, d3, d4⟩ := Row5.cells HS3.out.v
            obtain ⟨X, hXX⟩ : ∃ X, X = y2.heap.size := ⟨_, rfl⟩
            rw [← hXX] at a0 a1 a2 a3 a4 ⊢
            clear hX hXX HY
            go_wp2_with fail
            have hbb := put5_below (R := R) (S := S) hbb3 HS3.out.bv
            have hst := St.put HS3.out.s HS3.out.wf HS3.out.n_ HS3.out.g_ HS3.out.r HS3.out.v HS3.out.nv HS3.out.bv
            go_meet
            exact ⟨_, _, _, hid hst, hbb⟩
          | true =>
            have HO := hid ho
            clear ho
            refine (ref_release t HS1.out.r HS1.out.wf HS1.out.flt HO.out).mono ?_
            rintro e y2 ⟨R', rfl, hR2, hb2⟩
            have HS2 := hid (HS1.out.below hb2)
            have hbb2 := hbb.trans (hb2.mono hbb.size)
            obtain ⟨T, hT⟩ : ∃ T, T = S.release t := ⟨_, rfl⟩
            rw [← hT] at hR2 ⊢
            have HT := hid hT
            have HR2 := hid hR2
            clear hb2 hbb a0 a1 a2 a3 a4 hT hR2
            unfold RL.val
            go_wp2_with fail
            obtain ⟨y3, hy3⟩ : ∃ y3, y3 = y2.alloc (.cells #[.int .i64 (T.n : Int), .slice R'.a T.rl.length R'.c, .int .i64 ((T.fresh : Int) + 1), .slice (some ⟨R'.gb, 0, none⟩) T.n R'.gc, .slice (some ⟨R'.ob, 0, none⟩) T.n R'.oc] 42) := ⟨_, rfl⟩
            rw [← hy3]
            have h23 : Below y2.heap.size y2 y3 := by rw [hy3]; exact (Below.refl _ _).alloc (Nat.le_refl _) _
            have hX : R'.five T y3 y2.heap.size := by rw [hy3]; exact heap_alloc_new y2 _
            have HS3 := hid (HS2.out.below h23)
            have hbb3 := hbb2.trans (h23.mono hbb2.size)
            have hXf : ¬ L.foot y2.heap.size := fun hf => by have := HS2.out.s.foot_lt hf; omega
            have HR3 := hid (HR2.out.below h23)
            have hXl : y2.heap.size < y3.heap.size := by rw [hy3]; simp
            clear hy3 h23
            refine (HS3.out.g_ ▸ release_any t HS3.out.s HS3.out.wf HS3.out.s.size_le HO.out).mono ?_
            rintro e y4 ⟨L', rfl, hg4, hS4, hc4, hf4⟩
            have hX4 : R'.five T y4 y2.heap.size := (hc4.block _ hXl hXf).trans hX
            have hV4 : R.five S y4 V := (hc4.block _ HS3.out.lt HS3.out.nv).trans HS3.out.v
            have hR4 : RAt (fun k => L'.foot k ∨ k = V) y4 R' T := HR3.out.keep hc4 (fun _ h => .inl h) (fun k hk => by
              rcases hk with hk | hk
              · exact (hf4 k hk).imp .inl id
              · exact .inl (.inr hk))
            have hnv : ¬ L'.foot V := fun hf => by
              rcases hf4 V hf with h | h
              · exact HS3.out.nv h
              · have := HS3.out.lt; omega
            have hbb4 := hbb3.trans (HS3.out.s.chg_below hc4)
            obtain ⟨a0, a1, a2, a3, a4⟩ := Row5.cells hX4
            obtain ⟨f0, f1, f2, f3, f4⟩ := Row5.frz hV4
            obtain ⟨d0, d1, d2, d3, d4⟩ := Row5.cells hV4
            rw [← HT.out] at hS4
            have HS4 := hid hS4
            have HV4 := hid hV4
            have HR4 := hid hR4
            have HNV := hid hnv
            have HG4 := hid hg4
            have HWT : Hid T.wf := hid (by rw [HT.out]; exact HS3.out.wf.release HO.out)
            have HNT : Hid (T.n = n) := hid (by rw [HT.out]; exact HS3.out.n_)
            obtain ⟨X, hXX⟩ : ∃ X, X = y2.heap.size := ⟨_, rfl⟩
            rw [← hXX] at a0 a1 a2 a3 a4 ⊢
            clear hX hX4 hV4 hR4 hnv hXX hXl hXf hS4 hc4 hf4 hg4 hbb2 hbb3
            go_wp2_with fail
            have hbb := put5_below (R := R') (S := T) hbb4 HS3.out.bv
            have hst := St.put HS4.out HWT.out HNT.out HG4.out HR4.out HV4.out HNV.out HS3.out.bv
            go_meet
            exact ⟨_, _, _, hid hst, hbb⟩
        | false =>
          rcases Nat.eq_zero_or_pos S.free with hf0 | hf0
          · have HF := hid hf0
            clear hf0
            go_wp2_with fail
            refine (HST.out.g_ ▸ alloc_full HST.out.s HST.out.wf HF.out).mono ?_
            rintro e y1 ⟨rfl, hq⟩
            have hb1 : Below wr.heap.size wr y1 := (hq.chg Nil).below (Nat.le_refl _) (fun _ h => h.elim)
            have HS1 := hid (HST.out.below hb1)
            have hbb := hb.trans (hb1.mono hb.size)
            obtain ⟨a0, a1, a2, a3, a4⟩ := Row5.cells HS1.out.v
            clear hq hb1 hb ca cb HST
            go_wp2_with fail
            refine (ref_alloc_full HS1.out.r HS1.out.wf HF.out).mono ?_
            rintro e y2 ⟨rfl, hb2⟩
            have HS2 := hid (HS1.out.below hb2)
            have hbb2 := hbb.trans (hb2.mono hbb.size)
            clear hb2 hbb a0 a1 a2 a3 a4 HS1
            unfold RL.val
            obtain ⟨f0, f1, f2, f3, f4⟩ := Row5.frz HS2.out.v
            obtain ⟨d0, d1, d2, d3, d4⟩ := Row5.cells HS2.out.v
            have hlt := HS2.out.lt
            go_wp2_with fail
            have hbb := put5_below (R := R) (S := S) hbb2 HS2.out.bv
            have hst := St.put HS2.out.s HS2.out.wf HS2.out.n_ HS2.out.g_ HS2.out.r HS2.out.v HS2.out.nv HS2.out.bv
            go_meet
            exact ⟨_, _, _, hid (hst.below ((Below.refl _ _).alloc (Nat.le_refl _) _)), hbb.alloc hbb.size _⟩
          · have HF := hid hf0
            clear hf0
            go_wp2_with fail
            refine (HST.out.g_ ▸ alloc_any HST.out.s HST.out.wf HF.out).mono ?_
            rintro e y1 ⟨rfl, hS1, hc1⟩
            have hR1 := HST.out.r.keep hc1 (fun _ h => .inl h) (fun _ h => .inl h)
            have hV1 : R.five S y1 V := (hc1.block _ HST.out.lt HST.out.nv).trans HST.out.v
            have hbb := hb.trans (HST.out.s.chg_below hc1)
            have HFL : Hid (∀ k, (L.foot k ∨ k = V) → k < y1.heap.size) := hid (fun k hk => Nat.lt_of_lt_of_le (HST.out.flt k hk) hc1.size)
            obtain ⟨a0, a1, a2, a3, a4⟩ := Row5.cells hV1
            have HS1 := hid hS1
            have HR1 := hid hR1
            have HV1 := hid hV1
            clear hS1 hR1 hV1 hc1 hb ca cb
            go_wp2_with fail
            refine (ref_alloc HR1.out HST.out.wf HFL.out HF.out).mono ?_
            rintro e y2 ⟨R', rfl, hR2, hb2⟩
            have HS2 := hid (HS1.out.below hb2)
            have HV2 := hid (Row5.below HV1.out hb2 (HFL.out V (.inr rfl)))
            have hbb2 := hbb.trans (hb2.mono hbb.size)
            obtain ⟨T, hT⟩ : ∃ T, T = S.alloc := ⟨_, rfl⟩
            rw [← hT] at hR2 HS2 ⊢
            have HT := hid hT
            have HR2 := hid hR2
            have hVl : V < y2.heap.size := Nat.lt_of_lt_of_le (HFL.out V (.inr rfl)) hb2.size
            have HWT : Hid T.wf := hid (by rw [HT.out]; exact HST.out.wf.alloc HF.out)
            have HNT : Hid (T.n = n) := hid (by rw [HT.out, S.alloc_n]; exact HST.out.n_)
            clear hb2 hbb a0 a1 a2 a3 a4 hT hR2
            unfold RL.val
            obtain ⟨f0, f1, f2, f3, f4⟩ := Row5.frz HV2.out
            obtain ⟨d0, d1, d2, d3, d4⟩ := Row5.cells HV2.out
            go_wp2_with fail
            have hbb := put5_below (R := R') (S := T) hbb2 HST.out.bv
            have hst := St.put HS2.out HWT.out HNT.out HST.out.g_ HR2.out HV2.out HST.out.nv HST.out.bv
            go_meet
            exact ⟨_, _, _, hid (hst.below ((Below.refl _ _).alloc (Nat.le_refl _) _)), hbb.alloc hbb.size _⟩
      case rest =>
        obtain ⟨L2, R2, S2, HST, hb⟩ := hcut
        go_wp2
        go_loopw [18] (fun i wr => ∃ j : Nat, j ≤ n + 2 ∧ i = .int .u32 j ∧ Hid (St w.heap.size V g n wr L2 R2 S2) ∧ Below w.heap.size w wr) (fun i _ => n + 2 - (intOf i).toNat)
        case atStart => exact ⟨0, by omega, rfl, HST, hb⟩
        case round =>
          clear HST hb
          obtain ⟨j, hj, rfl, HST, hb⟩ := hrel
          by_cases hlt : j < n + 2
          · have HSX : Hid (∀ W', Below wr.heap.size wr W' → SAt w.heap.size W' L2 S2) := hid fun W' hb => HST.out.s.below hb
            have HRX : Hid (∀ W', Below wr.heap.size wr W' → RAt (fun k => L2.foot k ∨ k = V) W' R2 S2) := hid fun W' hb => HST.out.r.below hb
            have HVX : Hid (∀ W', Below wr.heap.size wr W' → R2.five S2 W' V) := hid fun W' hb => Row5.below HST.out.v hb HST.out.lt
            have HBX : Hid (∀ W', Below wr.heap.size wr W' → Below w.heap.size w W') := hid fun W' h => hb.trans (h.mono hb.size)
            obtain ⟨a0, a1, a2, a3, a4⟩ := Row5.cells HST.out.v
            have HW := hid HST.out.wf
            have HG := hid HST.out.g_
            clear hb
            go_wp2_with fail
            go_region_law (first
              | (go_simp; go_at_call 16; refine (HG.out ▸ allocd_any j (HSX.out _ (by first | exact BY | exact (Below.refl _ _).drew | exact Below.refl _ _)) HW.out (by omega)).mono ?_; rintro e w5 ⟨rfl, rfl⟩)
              | (go_simp; go_at_call 17; refine (HG.out ▸ gen_any j (HSX.out _ (by first | exact BY | exact (Below.refl _ _).drew | exact Below.refl _ _)) HW.out (by omega)).mono ?_; rintro e w5 ⟨rfl, rfl⟩)
              | (go_simp; go_at_call 28; refine (ref_allocd j (HRX.out _ (by first | exact BY | exact (Below.refl _ _).drew | exact Below.refl _ _)) HW.out (by omega)).mono ?_; rintro e w5 ⟨rfl, hb5⟩; have BY := below_after (a := wr) (by first | exact BY | exact (Below.refl _ _).drew | exact Below.refl _ _) hb5; clear hb5; obtain ⟨b0, b1, b2, b3, b4⟩ := Row5.cells (HVX.out _ BY))
              | (go_simp; go_at_call 29; refine (ref_gen j (HRX.out _ (by first | exact BY | exact (Below.refl _ _).drew | exact Below.refl _ _)) HW.out (by omega)).mono ?_; rintro e w5 ⟨rfl, hb5⟩; have BY := below_after (a := wr) (by first | exact BY | exact (Below.refl _ _).drew | exact Below.refl _ _) hb5; clear hb5; obtain ⟨b0, b1, b2, b3, b4⟩ := Row5.cells (HVX.out _ BY)))
            all_goals (
              have hst2 := hid (HST.out.below BY)
              have hbb := HBX.out _ BY
              clear BY b0 b1 b2 b3 b4 a0 a1 a2 a3 a4
              go_wp2
              go_roundw
              case rel => exact ⟨j + 1, by omega, by first | rfl | go_num, hst2, hbb⟩
              case measure => simp [intOf]; omega)
          · have hjn : j = n + 2 := by omega
            subst hjn
            obtain ⟨a0, a1, a2, a3, a4⟩ := Row5.cells HST.out.v
            go_wp2_with fail
            refine (ref_order HST.out.r HST.out.wf).mono ?_
            rintro e z1 ⟨O, cO, rfl, hO, hb1⟩
            have HST1 := hid (HST.out.below hb1)
            have hbb := hb.trans (hb1.mono hb.size)
            obtain ⟨M, hM⟩ : ∃ M, M = S2.free := ⟨_, rfl⟩
            rw [← hM] at hO ⊢
            have HMF := hid hM
            have hMle : M ≤ 65536 := by rw [hM]; have := HST.out.wf.free_le; have := HST.out.wf.n2; omega
            have HO := hid (hO.weak (F' := Nil) (fun _ h => h.elim))
            clear hO hM hb1 hb HST a0 a1 a2 a3 a4
            go_wp2_with fail
            refine (HST1.out.g_ ▸ free_any HST1.out.s HST1.out.wf).mono ?_
            rintro e z2 ⟨rfl, hq⟩
            rw [← HMF.out]
            have hb2 : Below z1.heap.size z1 z2 := (hq.chg Nil).below (Nat.le_refl _) (fun _ h => h.elim)
            have HST2 := hid (HST1.out.below hb2)
            have HO2 := hid (HO.out.below hb2)
            have hbb2 := hbb.trans (hb2.mono hbb.size)
            clear hq hb2 hbb HST1
            go_wp2_with fail
            refine (HST2.out.g_ ▸ order_any HST2.out.s HST2.out.wf).mono ?_
            rintro e z3 ⟨P, cP, rfl, hP, _, hb3⟩
            rw [← HMF.out] at hP ⊢
            have HST3 := hid (HST2.out.below hb3)
            have HO3 := hid (HO2.out.below hb3)
            have hbb3 := hbb2.trans (hb3.mono hbb2.size)
            have HP := hid (hP.weak (F' := Nil) (fun _ h => h.elim))
            clear hP hb3 hbb2 HST2
            go_wp2_with fail
            refine (same32_yes P O M cP cO (natsI S2.ord) _ HP.out HO3.out (by omega)).mono ?_
            rintro e z4 ⟨rfl, hq⟩
            have hb4 : Below z3.heap.size z3 z4 := (hq.chg Nil).below (Nat.le_refl _) (fun _ h => h.elim)
            have hst4 := hid (HST3.out.below hb4)
            have hbb4 := hbb3.trans (hb4.mono hbb3.size)
            clear hq hb4 hbb3 HST3
            go_wp2
            go_roundw
            case rel => exact ⟨k + 1, _, _, _, by omega, by first | rfl | go_num, hst4, hbb4⟩
            case measure => simp [intOf]; omega
    · go_wp2
      go_ret
      exact ⟨rfl, hb⟩


set_option maxRecDepth 100000 in
set_option linter.unusedVariables false in
theorem lifted (os : Os) (started : os.Started) (H : Type) (enc : TypeId × Value → H) :
    ReturnsInHanded {} Try.checked os 5 .any (Rows.slotsAgreeSpec.pre6 enc Try.prog Try.f5 Rows.slotsAgreeRow.domain false) (Rows.slotsAgreeSpec.post enc Try.prog Try.f5 false true false false) := by
  refine returnsInHanded_of_change_sized (C := Try.checked) own started (by kernel_rfl) Try.func5
    (ChangeSpec.witness6 (enc := enc) (C := Try.checked) false ⟨#[], #[.int .i64 0, .slice none 0 0], []⟩ 8 (by kernel_rfl) (by kernel_rfl) (by kernel_rfl) (by kernel_rfl)) ?_
  intro W base args ds gs before hval0 hW hcnd hsz0 _
  have hsz : (DataW.weightsEach Try.prog (Try.f5.params.toList ++ Rows.slotsAgreeSpec.plain.varTypes Try.prog) (ds ++ gs)).all (· ≤ reachBytes) = true := hsz0
  clear hsz0
  have hval : ∀ (j : Nat) t v, Try.f5.params[j]? = some t → args[j]? = some v → Value.okWide Try.prog W .any base t v := hval0
  have hW' := hW
  obtain ⟨p, q, hA0, hV, rfl, hfz, hnd⟩ := hW
  have hA : DataW.TrodAll enc Try.prog W 0 (fun _ => true) true Try.f5.params.toList args.toList ds p := hA0
  rw [Try.params5] at hA hval hsz
  obtain ⟨v0, vs0, d0, ds0, p0, q0, hargs, rfl, rfl, h0, r0⟩ := trodAll_cons hA
  obtain ⟨v1, vs1, d1, ds1, p1, q1, rfl, rfl, rfl, h1, r1⟩ := trodAll_cons r0
  obtain ⟨rfl, rfl, rfl⟩ := trodAll_nil r1
  obtain rfl : args = #[v0, v1] := by cases args; simp_all
  obtain ⟨rfl, rfl⟩ := trodVars_none hV
  obtain ⟨a0, rfl, rfl, rfl, w0⟩ := open_int Try.underlying3 (hval 0 3 v0 rfl rfl) h0
  obtain ⟨a1, len1, cap1, rfl⟩ := okWide_slice Try.underlying22 (hval 1 22 v1 rfl rfl)
  have k1 := h1
  have lt1 : ∀ x ∈ p1, x.block < W.heap.size := by obtain ⟨m, hm⟩ := k1; exact DataW.trod_lt m _ _ _ hm
  obtain ⟨z1, w1⟩ : ∃ zs, CArg3 W a1 len1 cap1 zs := CArg3.open_ (j := 1) k1 hsz rfl rfl
  clear hA0 hval0
  refine (walk a0 a1 len1 cap1 z1 W w0 w1).mono fun e W' ⟨he, bel⟩ => ?_
  subst he
  exact ⟨_, rfl, _, _, _, [], _, [], hW', trodAll_mk1 (shut_bool Try.underlying4 _), (trodAll_cons_mk (shut_int Try.underlying3 w0) (trodAll_cons_mk (Below.trod laidOut (by kernel_rfl) (of_decide_eq_true (by kernel_rfl)) k1 bel lt1) trodAll_mk0)), rfl, bel.frame _, fun h => by cases h⟩

theorem over : Rows.slotsAgreeRow.holds Try.pinned (OpenSpec.ofChange Rows.slotsAgreeSpec) :=
  OpenClaim.holds_of_wide 5 Try.f5 rfl rfl rfl rfl rfl rfl rfl ⟨rfl, rfl, rfl, rfl, rfl⟩ rfl rfl rfl rfl rfl (by kernel_rfl) Try.func5 (by kernel_rfl)
    (of_decide_eq_true (by kernel_rfl)) (by unfold Func.isWrapper; first | (rw [if_pos (by decide +kernel)]; kernel_rfl) | (rw [if_neg (by decide +kernel)]; exact ⟨rfl, rfl⟩))
    (fun os started H enc _ => lifted os started H enc)

end Go.Proofs.Ytbmamikhjfieoaa.WSlotsAgree

namespace Go.Proofs.Ytbmamikhjfieoaa
theorem slotsAgree_holds : Rows.SlotsAgreeSaid := WSlotsAgree.over
#print axioms slotsAgree_holds
end Go.Proofs.Ytbmamikhjfieoaa
