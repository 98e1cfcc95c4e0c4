/-
  HandlesAgree: for every int and every slice of calls the law returns true; no condition (the slice lies within the form's own reach).
-/
import Derived.Test.YtbmamikhjfieoaaHop
import Derived.Test.YtbmamikhjfieoaaHao
import Derived.Deep.RegionLaw
import Derived.Deep.CutRange
import Derived.Deep.CutBlock
namespace Go.Proofs.Ytbmamikhjfieoaa.WHandlesAgree
open Go.ChangeShapes Go.WideShapes Go.ChangeAt Go.RowKit

set_option maxRecDepth 100000 in
set_option maxHeartbeats 4000000 in
set_option linter.unusedVariables false in
theorem walk (c : Int) (A : Option Addr) (m d : Nat) (f : Nat → C4) (w : World) (w0 : (Lit.int .i64 c).wf = true) (w1 : CArg4 w A m d f) :
    Calls Try.prog 12 #[.int .i64 c, .slice A m d] w fun e w' => e = .returned (.bool true) ∧ Below w.heap.size w w' := by
  obtain ⟨i0, hi0, hz0, hz1, hz2⟩ := info_parts info58
  have hm0 := Int.emod_nonneg c (show (10 : Int) ≠ 0 by omega)
  have hm1 := Int.emod_lt_of_pos c (show (0 : Int) < 10 by omega)
  obtain ⟨n0, hn0⟩ := Int.eq_ofNat_of_zero_le hm0
  rw [hn0] at hm1
  have HM := hid hn0
  obtain ⟨n, hn⟩ : ∃ n, n = n0 + 1 := ⟨_, rfl⟩
  have HNN := hid (show (1 : Int) + (n0 : Int) = (n : Int) by omega)
  have hn9 : n0 ≤ 9 := by omega
  have hn1 : 1 ≤ n := by omega
  have hn30 : n ≤ 30 := by omega
  have HC := hid w1
  clear hm0 hm1 hn0 hn w1
  have hm := HC.out.2.1
  by_cases hbig : 100 < m
  · go_enter Try.func12, Try.ntmps12
    go_wp2_with fail
    refine (hawake_any _).mono ?_
    rintro e x3 ⟨rfl, hb3⟩
    go_wp2
    go_ret
    exact ⟨rfl, hb3⟩
  have hm100 : m ≤ 100 := by omega
  clear hbig
  go_enter Try.func12, Try.ntmps12
  go_wp2_with fail
  refine (mod_any c 10 _ (by omega) (by omega)).mono ?_
  rintro e x1 ⟨rfl, rfl⟩
  rw [HM.out]
  go_wp2_with fail
  rw [HNN.out]
  refine (tnew_any n _ _ (Nat.le_refl _) hn1 (by omega)).mono ?_
  rintro e x2 ⟨T, rfl, hT, hb2, hft⟩
  have HT2 := hid hT
  clear hT
  go_wp2_with fail
  refine (ref_tnew n _ T.foot (fun k hk => HT2.out.foot_lt hk) hn1 (by omega)).mono ?_
  rintro e x3 ⟨Q, rfl, hR, hb3⟩
  obtain ⟨S, hS⟩ : ∃ S, S = SS.new n := ⟨_, rfl⟩
  rw [← hS] at hR HT2 ⊢
  have HW : Hid S.wf := hid (by rw [hS]; exact SS.new_wf n hn1 (by omega))
  have HN : Hid (S.n = n) := hid (by rw [hS]; rfl)
  have HI : Hid (Iss S [] 0) := hid (by rw [hS]; exact Iss.new n)
  have HT3 := hid (HT2.out.below hb3)
  have hbw3 := hb2.trans (hb3.mono hb2.size)
  have HR := hid hR
  clear hS hR hb2 hb3 HT2 hft
  unfold RTL.val
  go_wp2_with fail
  refine (hawake_any _).mono ?_
  rintro e x4 ⟨rfl, hb4⟩
  obtain ⟨V, hV⟩ : ∃ V, V = x3.heap.size := ⟨_, rfl⟩
  have hb34 : Below x3.heap.size x3 x4 := ((Below.refl _ x3).alloc (Nat.le_refl _) _).trans (hb4.mono (by simp))
  obtain ⟨t, ht⟩ : ∃ t, t = T.t := ⟨_, rfl⟩
  have HS : Hid (S4 w.heap.size V t n x4 (.slice none 0 0) T S (fun _ => 0) Q S (fun _ => 0) [] 0) := hid ⟨⟨HT3.out.below hb34, HW.out, HN.out, ht.symm, World.ownsRow_nil _ _ _ _, HI.out⟩,
    HR.out.keep (Chg.of_below (F := Nil) hb34) (fun _ h => h.elim) (fun k hk => by
      rcases hk with hk | hk | hk
      · exact .inl hk
      · cases hk
      · exact .inr (by omega)), by rw [hV]; exact (hb4.block _ (by simp)).trans (heap_alloc_new x3 _), fun hf => by have := HT3.out.foot_lt hf; omega, by rw [hV]; exact hbw3.size⟩
  have hb := hbw3.trans (hb34.mono hbw3.size)
  rw [← hV, ← ht]
  obtain ⟨v, hv⟩ : ∃ v : Nat → Int, v = (fun _ => 0) := ⟨_, rfl⟩
  rw [← hv] at HS
  clear hb4 hb34 hV ht hbw3 HT3 HR HW HN HI hv
  go_wp2
  go_loopw [9, 10, 11, 12, 13, 14, 15, 16, 17, 18, 19, 20, 21] (fun x i _ _ _ _ _ _ _ _ _ _ _ wr => ∃ (k : Nat) (T : TL) (S : SS) (v : Nat → Int) (Q : RTL) (zs : List Nat), k ≤ m ∧ i = .int .i64 k ∧ Hid (S4 w.heap.size V t n wr x T S v Q S v zs k) ∧ Below w.heap.size w wr) (fun _ i _ _ _ _ _ _ _ _ _ _ _ _ => m - (intOf i).toNat)
  case atStart => exact ⟨0, T, S, v, Q, [], Nat.zero_le _, rfl, HS, hb⟩
  case round =>
    clear HS hb
    obtain ⟨k, T, S, v, Q, zs, hk, rfl, HS, hb⟩ := hrel
    by_cases hlt : k < m
    · obtain ⟨b, off, hA, hbl, ca, cb, cc, cd, hkd, hh, hv⟩ := HC.out.get hb (Nat.le_refl _) k hlt
      subst hA
      obtain ⟨⟨kd, hx, vl, rr⟩, hfk⟩ : ∃ x, f k = x := ⟨_, rfl⟩
      rw [hfk] at ca cb cc cd hkd hh hv
      simp only at ca cb cc cd hkd hh hv
      have hq0 := Int.emod_nonneg kd (show (5 : Int) ≠ 0 by omega)
      have hq1 := Int.emod_lt_of_pos kd (show (0 : Int) < 5 by omega)
      obtain ⟨q, hq⟩ : ∃ q, q = kd % 5 := ⟨_, rfl⟩
      rw [← hq] at hq0 hq1
      have HQ := hid hq
      obtain ⟨Ax, cx, hxx, hN⟩ := HS.out.pl.nums
      subst hxx
      have HN := hid hN
      have hlen := HS.out.pl.iss.len
      have HB := hid hb
      have HBL := hid hbl
      have HPK := hid (HS.out.pl.iss.pk_le rr hx hh)
      clear hq hN hb hfk
      go_wp2_with fail
      refine (pick_any kd hx vl rr Ax zs.length cx zs _ HN.out (by omega) hh).mono ?_
      rintro e x1 ⟨rfl, hb1⟩
      have HCV := hid ((hb1.cell (p := ⟨b, off + k * 4 + 2, none⟩) (Nat.lt_of_lt_of_le HBL.out HB.out.size)).trans cc)
      have c0 := (hb1.cell (p := ⟨b, off + k * 4, none⟩) (Nat.lt_of_lt_of_le HBL.out HB.out.size)).trans ca
      have HS1 := hid (HS.out.below hb1)
      have HB1 := hid (HB.out.trans (hb1.mono HB.out.size))
      have hpk := HPK.out
      obtain ⟨h, hh'⟩ : ∃ h, h = pk rr hx zs := ⟨_, rfl⟩
      rw [← hh'] at hpk ⊢
      clear hb1 ca cb cc cd HN HPK hh' HS HB hh
      have HS := HS1
      have HB := HB1
      clear HS1 HB1
      go_wp2_with fail
      refine (mod_any kd 5 _ (by omega) (by omega)).mono ?_
      rintro e x2 ⟨rfl, rfl⟩
      rw [← HQ.out]
      clear c0
      go_upto_block 2 with fail
      go_cut [9, 12, 13, 14, 15, 16, 17, 18, 19, 20] from 64 to 146 (fun v9 v12 v13 v14 v15 _ _ _ _ _ wc => ∃ (a r : Int) (T : TL) (S : SS) (v : Nat → Int) (Q : RTL) (zs : List Nat), v12 = .int .u32 a ∧ v13 = .int .u32 a ∧ v14 = .int .i64 r ∧ v15 = .int .i64 r ∧ Hid (S4 w.heap.size V t n wc v9 T S v Q S v zs (k + 1)) ∧ Below w.heap.size w wc)
      case first =>
        rcases (by omega : q = 2 ∨ q = 3 ∨ q = 4 ∨ (q = 0 ∨ q = 1)) with rfl | rfl | rfl | h01
        · clear HCV
          go_wp2_with fail
          refine (s4_lookup_a h HS.out hpk).mono ?_
          rintro e x1 ⟨rfl, rfl⟩
          obtain ⟨a0, a1, a2, a3, a4, a5⟩ := Row6.cells HS.out.v6
          go_wp2_with fail
          refine (r4_lookup h HS.out.r HS.out.pl.wf hpk).mono ?_
          rintro e x2 ⟨rfl, hb2⟩
          have HS2 := hid (HS.out.below hb2)
          have HB2 := hid (HB.out.trans (hb2.mono HB.out.size))
          clear hb2 a0 a1 a2 a3 a4 a5
          obtain ⟨a, ha⟩ : ∃ a, a = tk S v h := ⟨_, rfl⟩
          obtain ⟨r, hr⟩ : ∃ r, r = te S h := ⟨_, rfl⟩
          rw [← ha, ← hr]
          clear ha hr
          go_wp2
          go_meet
          exact ⟨a, r, T, S, v, Q, zs, rfl, rfl, rfl, rfl, hid HS2.out.more, HB2.out⟩
        · have cc := HCV.out
          have RA : Hid (∀ W, W = x1 → Calls Try.prog 37 #[.pointer (some ⟨t, 0, none⟩), .int .u64 (h : Int), .int .u32 (vl : Int)] W fun e w' => e = .returned (.int .i64 (te S h)) ∧ S4 w.heap.size V t n w' (.slice Ax zs.length cx) T S (rv S v h (vl : Int)) Q S v zs k ∧ Below w.heap.size x1 w') := hid fun W hW => by subst hW; exact s4_replace_a h (vl : Int) HS.out hpk
          have HC0 := hid ((HB.out.cell (p := ⟨b, off + k * 4 + 2, none⟩) HBL.out).symm.trans cc)
          go_wp2_with fail
          refine (RA.out _ rfl).mono ?_
          rintro e x2 ⟨rfl, hS2, hb2⟩
          have HS2 := hid hS2
          have HB2 := hid (HB.out.trans hb2)
          have HWS := hid HS.out.pl.wf
          clear hS2 hb2 cc HCV RA
          have cc : x2.cell? ⟨b, off + k * 4 + 2, none⟩ = some (.int .u32 (vl : Int)) := (HB2.out.cell (p := ⟨b, off + k * 4 + 2, none⟩) HBL.out).trans HC0.out
          obtain ⟨a0, a1, a2, a3, a4, a5⟩ := Row6.cells HS2.out.v6
          have RB : Hid (∀ W, Below x2.heap.size x2 W → Calls Try.prog 44 #[.agg #[.int .i64 (S.n : Int), .slice Q.R.a S.rl.length Q.R.c, .int .i64 ((S.fresh : Int) + 1), .slice (some ⟨Q.R.gb, 0, none⟩) S.n Q.R.gc, .slice (some ⟨Q.R.ob, 0, none⟩) S.n Q.R.oc, .slice (some ⟨Q.vb, 0, none⟩) S.n Q.vc], .int .u64 (h : Int), .int .u32 (vl : Int)] W fun e w' => ∃ Q' : RTL, e = .returned (.tuple #[Q'.val S, .int .i64 (te S h)]) ∧ RTAt (fun j => T.foot j ∨ (Value.slice Ax zs.length cx).ownBlock = some j ∨ j = V) w' Q' S (rv S v h (vl : Int)) ∧ Below x2.heap.size x2 w') := hid fun W hW => by
            refine (r4_replace h (vl : Int) (HS2.out.r.below hW) HWS.out (fun j hj => Nat.lt_of_lt_of_le (HS2.out.flt j hj) hW.size) hpk).mono ?_
            rintro e w' ⟨Q', he, hr, hb⟩
            exact ⟨Q', he, hr, hW.trans (hb.mono hW.size)⟩
          obtain ⟨r, hr⟩ : ∃ r, r = te S h := ⟨_, rfl⟩
          rw [← hr] at RB ⊢
          clear hr
          have nb : ¬ b = V := by have := HS2.out.bv; have := HBL.out; omega
          have nb2 : ¬ V = b := by omega
          go_wp2_with fail
          go_region_with
            ((go_at_call 44; refine (RB.out _ (by first | exact (Below.refl _ _).drew | exact Below.refl _ _)).mono ?_; rintro e w5 ⟨Q5, rfl, hr5, hb5⟩; have HR5 := hid hr5; have HS5 := hid (HS2.out.below hb5); have HB5 := hid (HB2.out.trans (hb5.mono HB2.out.size)); obtain ⟨b0, b1, b2, b3, b4, b5⟩ := Row6.cells HS5.out.v6; obtain ⟨f0, f1, f2, f3, f4, f5⟩ := Row6.frz HS5.out.v6; clear hr5 hb5; unfold RTL.val))
          all_goals go_wp2
          all_goals go_meet
          all_goals exact ⟨0, r, T, S, rv S v h (vl : Int), Q5, zs, rfl, rfl, rfl, rfl, hid (HS5.out.put HR5.out).more, put6_below HB5.out HS5.out.bv⟩
        · clear HCV
          go_wp2_with fail
          refine (s4_close_a h HS.out hpk).mono ?_
          rintro e x1 ⟨T1, rfl, hS1, hb1⟩
          have HS1 := hid hS1
          have HB1 := hid (HB.out.trans hb1)
          have HWS := hid HS.out.pl.wf
          clear hS1 hb1
          obtain ⟨a0, a1, a2, a3, a4, a5⟩ := Row6.cells HS1.out.v6
          go_wp2_with fail
          refine (r4_close h HS1.out.r HWS.out HS1.out.flt hpk).mono ?_
          rintro e x2 ⟨Q2, rfl, hR2, hb2⟩
          have HS2 := hid (HS1.out.below hb2)
          have HB2 := hid (HB1.out.trans (hb2.mono HB1.out.size))
          have HR2 := hid hR2
          obtain ⟨a, ha⟩ : ∃ a, a = tk S v h := ⟨_, rfl⟩
          obtain ⟨r, hr⟩ : ∃ r, r = te S h := ⟨_, rfl⟩
          obtain ⟨S', hS'⟩ : ∃ S', S' = cs S h := ⟨_, rfl⟩
          rw [← ha, ← hr, ← hS']
          rw [← hS'] at HR2 HS2
          clear hb2 hR2 a0 a1 a2 a3 a4 a5 ha hr hS'
          obtain ⟨a0, a1, a2, a3, a4, a5⟩ := Row6.cells HS2.out.v6
          obtain ⟨f0, f1, f2, f3, f4, f5⟩ := Row6.frz HS2.out.v6
          unfold RTL.val
          go_wp2
          go_meet
          exact ⟨a, r, T1, S', v, Q2, zs, rfl, rfl, rfl, rfl, hid (HS2.out.put HR2.out).more, put6_below HB2.out HS2.out.bv⟩
        · have cc := HCV.out
          clear HCV
          have q2 : (q == 2) = false := by simp; omega
          have q3 : (q == 3) = false := by simp; omega
          have q4 : (q == 4) = false := by simp; omega
          have HC0 := hid ((HB.out.cell (p := ⟨b, off + k * 4 + 2, none⟩) HBL.out).symm.trans cc)
          have nb : ¬ b = V := by have := HS.out.bv; have := HBL.out; omega
          have nb2 : ¬ V = b := by omega
          go_wp2_with fail
          refine (s4_open (vl : Int) HS.out (by omega)).mono ?_
          rintro e x2 ⟨rfl, hS2, hb2⟩
          have HS2 := hid hS2
          have HB2 := hid (HB.out.trans hb2)
          have HWS := hid HS.out.pl.wf
          have HIS := hid HS.out.pl.iss
          clear hS2 hb2 cc HS HB
          have cc : x2.cell? ⟨b, off + k * 4 + 2, none⟩ = some (.int .u32 (vl : Int)) := (HB2.out.cell (p := ⟨b, off + k * 4 + 2, none⟩) HBL.out).trans HC0.out
          obtain ⟨a0, a1, a2, a3, a4, a5⟩ := Row6.cells HS2.out.v6
          have hbo := fun o => (Below.refl x2.heap.size x2).alloc (Nat.le_refl _) o
          have co := fun o => ((hbo o).cell (p := ⟨b, off + k * 4 + 2, none⟩) (Nat.lt_of_lt_of_le HBL.out HB2.out.size)).trans cc
          have ao := fun o => Row6.cells (Row6.below HS2.out.v6 (hbo o) HS2.out.lt)
          have ao0 := fun o => (ao o).1
          have ao1 := fun o => (ao o).2.1
          have ao2 := fun o => (ao o).2.2.1
          have ao3 := fun o => (ao o).2.2.2.1
          have ao4 := fun o => (ao o).2.2.2.2.1
          have ao5 := fun o => (ao o).2.2.2.2.2
          have nx1 : ¬ V = x2.heap.size := by have := HS2.out.lt; omega
          have nx2 : ¬ x2.heap.size = V := by omega
          have nx3 : ¬ b = x2.heap.size := by have := HB2.out.size; have := HBL.out; omega
          have nx4 : ¬ x2.heap.size = b := by omega
          obtain ⟨z, hz⟩ : ∃ z, z = oh S := ⟨_, rfl⟩
          obtain ⟨r, hr⟩ : ∃ r, r = oe S := ⟨_, rfl⟩
          obtain ⟨S', hS'⟩ : ∃ S', S' = os S := ⟨_, rfl⟩
          obtain ⟨v', hv'⟩ : ∃ v', v' = ov S v (vl : Int) := ⟨_, rfl⟩
          have RB : Hid (∀ W, Below x2.heap.size x2 W → Calls Try.prog 46 #[.agg #[.int .i64 (S.n : Int), .slice Q.R.a S.rl.length Q.R.c, .int .i64 ((S.fresh : Int) + 1), .slice (some ⟨Q.R.gb, 0, none⟩) S.n Q.R.gc, .slice (some ⟨Q.R.ob, 0, none⟩) S.n Q.R.oc, .slice (some ⟨Q.vb, 0, none⟩) S.n Q.vc], .int .u32 (vl : Int)] W fun e w' => ∃ Q' : RTL, e = .returned (.tuple #[Q'.val S', .int .u64 (z : Int), .int .i64 r]) ∧ RTAt (fun j => (T.foot j ∨ (Value.slice Ax zs.length cx).ownBlock = some j ∨ j = V) ∨ (x2.heap.size ≤ j ∧ j < W.heap.size)) w' Q' S' v' ∧ Below x2.heap.size x2 w' ∧ Below W.heap.size W w') := hid fun W hW => by
            rw [hz, hr, hS', hv']; exact r4_open_from (vl : Int) HS2.out.r HWS.out HS2.out.flt hW
          have HIO : Hid (r = 0 → Iss S' (zs ++ [z]) (k + 1)) := hid (fun hr0 => by
            rw [hz, hS']
            refine iss_open HIS.out HWS.out ?_ (by omega)
            rw [hr0] at hr
            unfold oe at hr
            by_cases hf : 0 < S.free
            · exact hf
            · rw [if_neg hf] at hr; cases hr)
          have HR0 : Hid (r = 0 ∨ r = 2) := hid (by rw [hr]; unfold oe; split; exact .inl rfl; exact .inr rfl)
          rw [← hS', ← hv'] at HS2
          rw [← hz, ← hr]
          clear hbo ao hz hr hS' hv'
          go_upto_region 17 with fail
          go_cut [18, 19, 20] from 74 to 84 (fun v18 v19 v20 wy => ∃ (p : Nat) (Q' : RTL), v18 = .pointer (some ⟨p, 0, none⟩) ∧ v19 = .int .u64 (z : Int) ∧ v20 = .int .i64 r ∧ p < wy.heap.size ∧ Hid (Below x2.heap.size x2 wy) ∧ Hid (Q'.six S' wy p) ∧ Hid (RTAt (fun j => T.foot j ∨ (Value.slice Ax zs.length cx).ownBlock = some j ∨ j = V) wy Q' S' v'))
          case first =>
            go_region_held3 (fun W => (W.cell? ⟨V, 0, none⟩ = some (.int .i64 (S.n : Int)) ∧ W.cell? ⟨V, 1, none⟩ = some (.slice Q.R.a S.rl.length Q.R.c) ∧ W.cell? ⟨V, 2, none⟩ = some (.int .i64 ((S.fresh : Int) + 1)) ∧ W.cell? ⟨V, 3, none⟩ = some (.slice (some ⟨Q.R.gb, 0, none⟩) S.n Q.R.gc) ∧ W.cell? ⟨V, 4, none⟩ = some (.slice (some ⟨Q.R.ob, 0, none⟩) S.n Q.R.oc) ∧ W.cell? ⟨V, 5, none⟩ = some (.slice (some ⟨Q.vb, 0, none⟩) S.n Q.vc)) ∧ W.cell? ⟨b, off + k * 4 + 2, none⟩ = some (.int .u32 (vl : Int)))
              (go_keep)
              ((go_at_call 46; refine (RB.out _ (by first | exact (Below.refl _ _).drew | exact Below.refl _ _ | exact ((Below.refl _ _).drew.alloc (by simp) _) | exact (((Below.refl _ _).alloc (Nat.le_refl _) _).drew))).mono ?_; rintro e w5 ⟨Q5, rfl, hr5, hb5, hb5'⟩; have HR5 := hid hr5; have HB5 := hid hb5; have HB5W := hid hb5'; have hv6 := Row6.below HS2.out.v6 hb5 HS2.out.lt; obtain ⟨b0, b1, b2, b3, b4, b5⟩ := Row6.cells hv6; have cc5 := (hb5.cell (p := ⟨b, off + k * 4 + 2, none⟩) (Nat.lt_of_lt_of_le HBL.out HB2.out.size)).trans cc; have ny1 : ¬ V = w5.heap.size := (by have := hb5.size; have := HS2.out.lt; omega); have ny2 : ¬ w5.heap.size = V := (by omega); have ny3 : ¬ b = w5.heap.size := (by have := hb5.size; have := HB2.out.size; have := HBL.out; omega); have ny4 : ¬ w5.heap.size = b := (by omega); (try (have hz : Row6 w5 x2.heap.size (.int .i64 0) (.slice none 0 0) (.int .i64 0) (.slice none 0 0) (.slice none 0 0) (.slice none 0 0) := (hb5'.block x2.heap.size (by simp)).trans (heap_alloc_new x2 _); obtain ⟨z0, z1, z2, z3, z4, z5⟩ := hz.cells; obtain ⟨y0, y1, y2, y3, y4, y5⟩ := hz.frz; have HZ := hid hz; clear hz)); clear hb5 hb5' hr5 hv6; unfold RTL.val))
            · go_wp2
              go_meet
              exact ⟨w5.heap.size, Q5, rfl, rfl, rfl, by simp, hid (HB5.out.alloc HB5.out.size _), hid (heap_alloc_new w5 _), hid (HR5.out.keep ((Chg.refl Nil w5).alloc _) (fun _ h => h.elim) (fun _ h => .inl (.inl h)))⟩
            · have hlt5 : x2.heap.size < w5.heap.size := by have := HB5W.out.size; simp at this; omega
              go_wp2
              go_meet
              exact ⟨x2.heap.size, Q5, rfl, rfl, rfl, by simp only [size_set]; exact hlt5, hid (put6_below HB5.out (Nat.le_refl _)), hid (six_stored HZ.out), hid (HR5.out.keep put6_chg (fun j hj => .inr ⟨by omega, by rw [hj]; simp⟩) (fun _ h => .inl (.inl h)))⟩
          case rest =>
            obtain ⟨p, Q', rfl, rfl, rfl, hp, HBy, H6, HRy⟩ := hcut
            have HSy := hid (HS2.out.below HBy.out)
            have HBw := hid (HB2.out.trans (HBy.out.mono HB2.out.size))
            clear a0 a1 a2 a3 a4 a5 ao0 ao1 ao2 ao3 ao4 ao5 co cc
            obtain ⟨a0, a1, a2, a3, a4, a5⟩ := Row6.cells H6.out
            obtain ⟨b0, b1, b2, b3, b4, b5⟩ := Row6.cells HSy.out.v6
            obtain ⟨f0, f1, f2, f3, f4, f5⟩ := Row6.frz HSy.out.v6
            have HST := hid (HSy.out.put HRy.out)
            have HBT := hid (put6_below (Q' := Q') (S' := S') HBw.out HSy.out.bv)
            rcases HR0.out with hr0 | hr0
            · subst hr0
              have HIO2 := hid (HIO.out rfl)
              clear HIO
              go_upto_if 92 with fail
              obtain ⟨y, hy⟩ : ∃ y, y = ((((((wc.setCell ⟨V, 0, none⟩ (.int .i64 (S'.n : Int))).setCell ⟨V, 1, none⟩ (.slice Q'.R.a S'.rl.length Q'.R.c)).setCell ⟨V, 2, none⟩ (.int .i64 ((S'.fresh : Int) + 1))).setCell ⟨V, 3, none⟩ (.slice (some ⟨Q'.R.gb, 0, none⟩) S'.n Q'.R.gc)).setCell ⟨V, 4, none⟩ (.slice (some ⟨Q'.R.ob, 0, none⟩) S'.n Q'.R.oc)).setCell ⟨V, 5, none⟩ (.slice (some ⟨Q'.vb, 0, none⟩) S'.n Q'.vc)) := ⟨_, rfl⟩
              rw [← hy] at HST HBT ⊢
              clear hy a0 a1 a2 a3 a4 a5 b0 b1 b2 b3 b4 b5 f0 f1 f2 f3 f4 f5
              have HX : Hid (y.ownsRow w.heap.size 58 1 (.slice Ax zs.length cx) zs.length ((natsI zs).map (Value.int .u64))) := hid HST.out.pl.own
              have HSZ := hid HST.out.size_le
              go_wp2_with (at_builtin; refine wpList_append_own_at _ rfl (.tmp 93) (.tmp 95) 62 rfl w.heap.size 58 i0 (.int .u64 0) 1 8 Try.underlying62 hi0 hz0 hz1 hz2 rfl (by decide) (.slice Ax zs.length cx) zs.length _ rfl (HX.out.alloc _) ⟨y.heap.size, 0, none⟩ 1 1 [.int .u64 (z : Int)] rfl (by simp) (cell_one_new _ _ _) (by intro u hu; simp at hu; subst hu; rfl) (by unfold maxLen; omega) (by omega) (by have := HSZ.out; simp; omega) ?_)
              intro x' w7 hown7 hg7 _ hat7
              have hc7 : Chg (fun j => (Value.slice Ax zs.length cx).ownBlock = some j) y w7 := ((Chg.refl _ y).alloc _).grown hg7 (fun j hj => .inl hj)
              have hb7 : Below w.heap.size y w7 := hc7.below HSZ.out (fun j hj => (HX.out.lt j hj).1)
              have HS7 := hid (HST.out.push HIO2.out hown7 hc7 (fun j hj => by
                rcases hat7 with e | e
                · left; rw [← hj, e]
                · right; rw [e] at hj; injection hj with hj; first | omega | (simp at hj; omega)))
              have HB7 := hid (HBT.out.trans hb7)
              clear hown7 hg7 hat7 hc7 hb7
              go_wp2
              go_meet
              exact ⟨0, 0, T, S', v', Q', zs ++ [z], rfl, rfl, rfl, rfl, HS7, HB7.out⟩
            · subst hr0
              go_wp2
              go_meet
              exact ⟨0, 2, T, S', v', Q', zs, rfl, rfl, rfl, rfl, HST, HBT.out⟩
      case rest =>
        clear HS HB hlen
        obtain ⟨a, r, T, S, v, Q, zs, rfl, rfl, rfl, rfl, HS, hb⟩ := hcut
        obtain ⟨a0, a1, a2, a3, a4, a5⟩ := Row6.cells HS.out.v6
        go_wp2_with fail
        refine (ref_handles HS.out.r HS.out.pl.wf).mono ?_
        rintro e z1 ⟨O, cO, rfl, hO, hb1⟩
        have HS1 := hid (HS.out.below hb1)
        have HB1 := hid (hb.trans (hb1.mono hb.size))
        have HLE := hid HS.out.pl.wf.len_opens
        have HWF := hid HS.out.pl.wf
        obtain ⟨M, hM⟩ : ∃ M, M = (opens S).length := ⟨_, rfl⟩
        rw [← hM] at hO HLE ⊢
        have HMF := hid hM
        have hMle : M ≤ 65536 := by rw [hM]; have := opens_len S S.n; have := HWF.out.n2; unfold opens; omega
        have HO := hid (hO.weak (F' := Nil) (fun _ h => h.elim))
        clear hO hM hb1 hb HS a0 a1 a2 a3 a4 a5
        go_wp2_with fail
        refine (HS1.out.pl.t_ ▸ len_any HS1.out.pl.tab HWF.out).mono ?_
        rintro e z2 ⟨rfl, hq⟩
        rw [HLE.out]
        have hb2 : Below z1.heap.size z1 z2 := (hq.chg Nil).below (Nat.le_refl _) (fun _ h => h.elim)
        have HS2 := hid (HS1.out.below hb2)
        have HO2 := hid (HO.out.below hb2)
        have HB2 := hid (HB1.out.trans (hb2.mono HB1.out.size))
        clear hq hb2 HS1
        go_wp2_with fail
        refine (HS2.out.pl.t_ ▸ handles_any HS2.out.pl.tab HWF.out).mono ?_
        rintro e z3 ⟨P, cP, rfl, hP, hb3⟩
        rw [← HMF.out] at hP ⊢
        have HS3 := hid (HS2.out.below hb3)
        have HO3 := hid (HO2.out.below hb3)
        have HB3 := hid (HB2.out.trans (hb3.mono HB2.out.size))
        have HP := hid (hP.weak (F' := Nil) (fun _ h => h.elim))
        clear hP hb3 HS2
        go_wp2_with fail
        refine (same64_yes P O M cP cO (natsI (opens S)) _ HP.out HO3.out (by omega)).mono ?_
        rintro e z4 ⟨rfl, hq⟩
        have hb4 : Below z3.heap.size z3 z4 := (hq.chg Nil).below (Nat.le_refl _) (fun _ h => h.elim)
        have HS4 := hid (HS3.out.below hb4)
        have HB4 := hid (HB3.out.trans (hb4.mono HB3.out.size))
        clear hq hb4 HS3
        go_wp2
        go_roundw
        case rel => exact ⟨k + 1, T, S, v, Q, zs, by omega, by first | rfl | go_num, HS4, HB4.out⟩
        case measure => simp [intOf]; omega
    · go_wp2
      go_ret
      exact ⟨rfl, hb⟩


set_option maxRecDepth 100000 in
set_option linter.unusedVariables false in
theorem lifted (os : Os) (started : os.Started) (H : Type) (enc : TypeId × Value → H) :
    ReturnsInHanded {} Try.checked os 12 .any (Rows.handlesAgreeSpec.pre6 enc Try.prog Try.f12 Rows.handlesAgreeRow.domain false) (Rows.handlesAgreeSpec.post enc Try.prog Try.f12 false true false false) := by
  refine returnsInHanded_of_change_sized (C := Try.checked) own started (by kernel_rfl) Try.func12
    (ChangeSpec.witness6 (enc := enc) (C := Try.checked) false ⟨#[], #[.int .i64 0, .slice none 0 0], []⟩ 8 (by kernel_rfl) (by kernel_rfl) (by kernel_rfl) (by kernel_rfl)) ?_
  intro W base args ds gs before hval0 hW hcnd hsz0 _
  have hsz : (DataW.weightsEach Try.prog (Try.f12.params.toList ++ Rows.handlesAgreeSpec.plain.varTypes Try.prog) (ds ++ gs)).all (· ≤ reachBytes) = true := hsz0
  clear hsz0
  have hval : ∀ (j : Nat) t v, Try.f12.params[j]? = some t → args[j]? = some v → Value.okWide Try.prog W .any base t v := hval0
  have hW' := hW
  obtain ⟨p, q, hA0, hV, rfl, hfz, hnd⟩ := hW
  have hA : DataW.TrodAll enc Try.prog W 0 (fun _ => true) true Try.f12.params.toList args.toList ds p := hA0
  rw [Try.params12] at hA hval hsz
  obtain ⟨v0, vs0, d0, ds0, p0, q0, hargs, rfl, rfl, h0, r0⟩ := trodAll_cons hA
  obtain ⟨v1, vs1, d1, ds1, p1, q1, rfl, rfl, rfl, h1, r1⟩ := trodAll_cons r0
  obtain ⟨rfl, rfl, rfl⟩ := trodAll_nil r1
  obtain rfl : args = #[v0, v1] := by cases args; simp_all
  obtain ⟨rfl, rfl⟩ := trodVars_none hV
  obtain ⟨a0, rfl, rfl, rfl, w0⟩ := open_int Try.underlying3 (hval 0 3 v0 rfl rfl) h0
  obtain ⟨a1, len1, cap1, rfl⟩ := okWide_slice Try.underlying61 (hval 1 61 v1 rfl rfl)
  have k1 := h1
  have lt1 : ∀ x ∈ p1, x.block < W.heap.size := by obtain ⟨m, hm⟩ := k1; exact DataW.trod_lt m _ _ _ hm
  obtain ⟨z1, w1⟩ : ∃ zs, CArg4 W a1 len1 cap1 zs := CArg4.open_ (j := 1) k1 hsz rfl rfl
  clear hA0 hval0
  refine (walk a0 a1 len1 cap1 z1 W w0 w1).mono fun e W' ⟨he, bel⟩ => ?_
  subst he
  exact ⟨_, rfl, _, _, _, [], _, [], hW', trodAll_mk1 (shut_bool Try.underlying4 _), (trodAll_cons_mk (shut_int Try.underlying3 w0) (trodAll_cons_mk (Below.trod laidOut (by kernel_rfl) (of_decide_eq_true (by kernel_rfl)) k1 bel lt1) trodAll_mk0)), rfl, bel.frame _, fun h => by cases h⟩

theorem over : Rows.handlesAgreeRow.holds Try.pinned (OpenSpec.ofChange Rows.handlesAgreeSpec) :=
  OpenClaim.holds_of_wide 12 Try.f12 rfl rfl rfl rfl rfl rfl rfl ⟨rfl, rfl, rfl, rfl, rfl⟩ rfl rfl rfl rfl rfl (by kernel_rfl) Try.func12 (by kernel_rfl)
    (of_decide_eq_true (by kernel_rfl)) (by unfold Func.isWrapper; first | (rw [if_pos (by decide +kernel)]; kernel_rfl) | (rw [if_neg (by decide +kernel)]; exact ⟨rfl, rfl⟩))
    (fun os started H enc _ => lifted os started H enc)

end Go.Proofs.Ytbmamikhjfieoaa.WHandlesAgree

namespace Go.Proofs.Ytbmamikhjfieoaa
theorem handlesAgree_holds : Rows.HandlesAgreeSaid := WHandlesAgree.over
#print axioms handlesAgree_holds
end Go.Proofs.Ytbmamikhjfieoaa
