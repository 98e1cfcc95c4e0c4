/-
  SlotsPartition: for every int and every slice of calls the law returns true; no condition (the slice lies within the form's own reach).
-/
import Derived.Test.YtbmamikhjfieoaaOpen
namespace Go.Proofs.Ytbmamikhjfieoaa.WSlotsPartition
open Go.ChangeShapes Go.WideShapes Go.ChangeAt Go.RowKit

set_option maxRecDepth 100000 in
set_option maxHeartbeats 4000000 in
set_option linter.unusedVariables false in
theorem walk (c : Int) (A : Option Addr) (m d : Nat) (f : Nat → Bool × Nat) (w : World) (w0 : (Lit.int .i64 c).wf = true) (w1 : CArg3 w A m d f) :
    Calls Try.prog 6 #[.int .i64 c, .slice A m d] w fun e w' => e = .returned (.bool true) ∧ Below w.heap.size w w' := by
  have hm0 := Int.emod_nonneg c (show (30 : Int) ≠ 0 by omega)
  have hm1 := Int.emod_lt_of_pos c (show (0 : Int) < 30 by omega)
  obtain ⟨n0, hn0⟩ := Int.eq_ofNat_of_zero_le hm0
  rw [hn0] at hm1
  have HM := hid hn0
  obtain ⟨n, hn⟩ : ∃ n, n = n0 + 1 := ⟨_, rfl⟩
  have HNN := hid (show (1 : Int) + (n0 : Int) = (n : Int) by omega)
  have hn29 : n0 ≤ 29 := by omega
  have hn1 : 1 ≤ n := by omega
  have hn30 : n ≤ 30 := by omega
  obtain ⟨hC, _, hm⟩ := w1
  have HC := hid hC
  clear hm0 hm1 hn0 hn hC
  have hmk := fun W => make_at (z := .int .i64 0) 53 3 8 Try.underlying53 info3 rfl n (by omega) (by omega) W
  go_enter Try.func6, Try.ntmps6
  go_wp2_with fail
  refine (mod_any c 30 _ (by omega) (by omega)).mono ?_
  rintro e x1 ⟨rfl, rfl⟩
  rw [HM.out]
  go_wp2_with fail
  rw [HNN.out]
  refine (play_any n A m d f _ hn1 (by omega) HC.out hm).mono ?_
  rintro e x2 ⟨g, rfl, ⟨L, S, hS, hw, hSn, hg⟩, hb⟩
  have HS := hid hS
  have HW := hid hw
  have HN := hid hSn
  have HG := hid hg
  clear hS hw hSn hg
  go_wp2_with fail
  refine (awake_any _).mono ?_
  rintro e x3 ⟨rfl, hb3⟩
  have HS3 := hid (HS.out.below hb3)
  have hb := hb.trans (hb3.mono hb.size)
  clear hb3
  go_wp2_with fail
  have hbs : Below x3.heap.size x3 (x3.alloc (.cells (madeCells #[.int .i64 0] (n + 1)) 3)) := (Below.refl _ _).alloc (Nat.le_refl _) _
  rw [← HG.out]
  refine (order_any (HS3.out.below hbs) HW.out).mono ?_
  rintro e x4 ⟨O, cO, rfl, hO, hS4, hb4⟩
  obtain ⟨N, hN⟩ : ∃ N, N = S.free := ⟨_, rfl⟩
  rw [← hN] at hO ⊢
  have HNF := hid hN
  have hNle : N ≤ 65536 := by rw [hN]; have := HW.out.free_le; have := HW.out.n2; omega
  have hrow0 : x4.rowIs x3.heap.size 3 (n + 1) (fun j => .int .i64 (((S.ord.take 0).count j : Nat) : Int)) :=
    ((World.rowIs_made x3 (.int .i64 0) (n + 1) 3).of_block (hb4.block _ (by simp))).congr fun i _ => by simp
  have HO := hid (hO.weak (F' := fun k => k = x3.heap.size) (fun i hi => by simp; omega))
  have hb5 : Below w.heap.size w x4 := (hb.trans (hbs.mono hb.size)).trans (hb4.mono (by have := hb.size; simp; omega))
  obtain ⟨Bs, hBs⟩ : ∃ Bs, Bs = x3.heap.size := ⟨_, rfl⟩
  rw [← hBs] at hrow0 HO ⊢
  have HNB : Hid (¬ L.foot Bs) := hid (fun hf => by have := HS3.out.foot_lt hf; omega)
  have HBS : Hid (w.heap.size ≤ Bs) := hid (by rw [hBs]; exact hb.size)
  have HS4 := hid hS4
  have HR0 := hid hrow0
  clear hO hN hb4 hbs hrow0 hBs hS4 hb
  go_wp2
  go_loopw [9] (fun i wr => ∃ k : Nat, k ≤ N ∧ i = .int .i64 k ∧ Hid (wr.rowIs Bs 3 (n + 1) (fun j => .int .i64 (((S.ord.take k).count j : Nat) : Int))) ∧ Hid (Chg (fun b => b = Bs) x4 wr) ∧ Below w.heap.size w wr) (fun i _ => N - (intOf i).toNat)
  case atStart => exact ⟨0, Nat.zero_le _, rfl, HR0, hid (Chg.refl _ _), hb5⟩
  case round =>
    obtain ⟨k, hk, rfl, hrow, hch, hb⟩ := hrel
    clear hb5
    by_cases hlt : k < N
    · obtain ⟨b, off, hAe, hbl, _, hcell⟩ := ((HO.out.keep hch.out (fun _ h => h) (fun _ h => .inl h))).2 (by omega)
      subst hAe
      have hck := hcell k hlt
      have hkl : k < S.ord.length := by rw [S.ord_len, ← HNF.out]; exact hlt
      obtain ⟨z, hz⟩ : ∃ z, z = S.ord.getD k 0 := ⟨_, rfl⟩
      rw [natsI_getD, ← hz] at hck
      have hz1 := HW.out.ord_le k hkl
      rw [← hz, HN.out] at hz1
      obtain ⟨hz1, hz2⟩ := hz1
      have hcs := hrow.out.cell (i := z) (by omega)
      obtain ⟨y, hy⟩ : ∃ y, y = (S.ord.take k).count z := ⟨_, rfl⟩
      rw [← hy] at hcs
      have hyk : y ≤ 65536 := by rw [hy]; have := List.count_le_length (l := S.ord.take k) (a := z); have := List.length_take_le k S.ord; omega
      have hfs := hrow.out.frozen z
      have HZ := hid hz
      have HY := hid hy
      have HKL := hid hkl
      clear hcell hz hy hkl hbl
      go_wp2
      go_roundw
      case rel => exact ⟨k + 1, by omega, by first | rfl | go_num, hid ((hrow.out.set z _).congr fun j _ => by
          rw [count_more _ _ _ HKL.out, ← HZ.out]
          by_cases e : j = z
          · subst e; rw [if_pos rfl, if_pos rfl, ← HY.out]; rfl
          · rw [if_neg e, if_neg (fun h => e h.symm)]; rfl), hid (hch.out.setCell (.inl rfl) _), hb.setCell HBS.out _⟩
      case measure => simp [intOf]; omega
    · have hkN : k = N := by omega
      subst hkN
      have HR : Hid (wr.rowIs Bs 3 (n + 1) (fun j => .int .i64 ((S.ord.count j : Nat) : Int))) := hid (by
        have := hrow.out
        rw [List.take_of_length_le (by rw [S.ord_len, ← HNF.out]; omega)] at this
        exact this)
      have HS5 := hid (HS4.out.keep hch.out (fun b hb hf => HNB.out (hb ▸ hf)))
      clear hrow hch
      go_wp2
      go_loopw [10] (fun i wr => ∃ (j q : Nat), 1 ≤ j ∧ j ≤ n + 1 ∧ i = .int .i64 j ∧ Below w.heap.size w wr ∧ Hid (SAt w.heap.size wr L S) ∧ Hid (wr.rowIs Bs 3 (n + 1) (fun j => .int .i64 ((S.ord.count j : Nat) : Int)))) (fun i _ => n + 1 - (intOf i).toNat)
      case atStart => exact ⟨1, 0, by omega, by omega, rfl, hb, HS5, HR⟩
      case round =>
        clear hb HS5 HR
        obtain ⟨j, q, hj1, hjn, rfl, hb, HS6, HR⟩ := hrel
        by_cases hlt : j < n + 1
        · have hcs := HR.out.cell (i := j) hlt
          have hcnt := HW.out.ord_count j hj1 (by rw [HN.out]; omega)
          cases ho : S.on j with
          | true =>
            rw [ho] at hcnt
            simp only [if_true] at hcnt
            rw [hcnt] at hcs
            have HO2 := hid ho
            clear ho hcnt
            go_wp2_with fail
            go_quiet ((go_at_call 16; refine Calls.quiet_of_same (HO2.out ▸ allocd_q j _ HS6.out HW.out (by omega))))
            go_wp2
            go_roundw
            case rel => exact ⟨j + 1, 0, by omega, by omega, by first | rfl | go_num, below_drewN hb _, hid (HS6.out.qt ⟨_, rfl⟩), HR⟩
            case measure => simp [intOf]; omega
          | false =>
            rw [ho] at hcnt
            simp only [Bool.false_eq_true, if_false] at hcnt
            rw [hcnt] at hcs
            have HO2 := hid ho
            clear ho hcnt
            go_wp2_with fail
            go_quiet ((go_at_call 16; refine Calls.quiet_of_same (HO2.out ▸ allocd_q j _ HS6.out HW.out (by omega))))
            go_wp2
            go_roundw
            case rel => exact ⟨j + 1, 0, by omega, by omega, by first | rfl | go_num, below_drewN hb _, hid (HS6.out.qt ⟨_, rfl⟩), HR⟩
            case measure => simp [intOf]; omega
        · have HO0 : Hid (S.on 0 = false) := hid (by
            cases e : S.on 0 with
            | false => rfl
            | true => have := HW.out.on 0 e; omega)
          have HO1 : Hid (S.on (n + 1) = false) := hid (by
            cases e : S.on (n + 1) with
            | false => rfl
            | true => have := HW.out.on _ e; have := HW.out.fr; have := HN.out; omega)
          have E1 := hid (show (n : Int) + 1 = ((n + 1 : Nat) : Int) by omega)
          go_wp2_with fail
          refine (free_any HS6.out HW.out).mono ?_
          rintro e y1 ⟨rfl, hq⟩
          rw [← HNF.out]
          have HS7 := hid (HS6.out.qt hq)
          have hb7 := hb.trans ((hq.chg Nil).below hb.size (fun _ h => h.elim))
          clear hb hq
          go_wp2_with fail
          refine (allocd_any 0 HS7.out HW.out (by omega)).mono ?_
          rintro e y2 ⟨rfl, rfl⟩
          rw [HO0.out]
          go_wp2_with fail
          rw [E1.out]
          refine (allocd_any (n + 1) HS7.out HW.out (by omega)).mono ?_
          rintro e y2 ⟨rfl, rfl⟩
          rw [HO1.out]
          go_wp2
          go_ret
          exact ⟨rfl, hb7⟩


set_option maxRecDepth 100000 in
set_option linter.unusedVariables false in
theorem lifted (os : Os) (started : os.Started) (H : Type) (enc : TypeId × Value → H) :
    ReturnsInHanded {} Try.checked os 6 .any (Rows.slotsPartitionSpec.pre6 enc Try.prog Try.f6 Rows.slotsPartitionRow.domain false) (Rows.slotsPartitionSpec.post enc Try.prog Try.f6 false true false false) := by
  refine returnsInHanded_of_change_sized (C := Try.checked) own started (by kernel_rfl) Try.func6
    (ChangeSpec.witness6 (enc := enc) (C := Try.checked) false ⟨#[], #[.int .i64 0, .slice none 0 0], []⟩ 8 (by kernel_rfl) (by kernel_rfl) (by kernel_rfl) (by kernel_rfl)) ?_
  intro W base args ds gs before hval0 hW hcnd hsz0 _
  have hsz : (DataW.weightsEach Try.prog (Try.f6.params.toList ++ Rows.slotsPartitionSpec.plain.varTypes Try.prog) (ds ++ gs)).all (· ≤ reachBytes) = true := hsz0
  clear hsz0
  have hval : ∀ (j : Nat) t v, Try.f6.params[j]? = some t → args[j]? = some v → Value.okWide Try.prog W .any base t v := hval0
  have hW' := hW
  obtain ⟨p, q, hA0, hV, rfl, hfz, hnd⟩ := hW
  have hA : DataW.TrodAll enc Try.prog W 0 (fun _ => true) true Try.f6.params.toList args.toList ds p := hA0
  rw [Try.params6] at hA hval hsz
  obtain ⟨v0, vs0, d0, ds0, p0, q0, hargs, rfl, rfl, h0, r0⟩ := trodAll_cons hA
  obtain ⟨v1, vs1, d1, ds1, p1, q1, rfl, rfl, rfl, h1, r1⟩ := trodAll_cons r0
  obtain ⟨rfl, rfl, rfl⟩ := trodAll_nil r1
  obtain rfl : args = #[v0, v1] := by cases args; simp_all
  obtain ⟨rfl, rfl⟩ := trodVars_none hV
  obtain ⟨a0, rfl, rfl, rfl, w0⟩ := open_int Try.underlying3 (hval 0 3 v0 rfl rfl) h0
  obtain ⟨a1, len1, cap1, rfl⟩ := okWide_slice Try.underlying22 (hval 1 22 v1 rfl rfl)
  have k1 := h1
  have lt1 : ∀ x ∈ p1, x.block < W.heap.size := by obtain ⟨m, hm⟩ := k1; exact DataW.trod_lt m _ _ _ hm
  obtain ⟨z1, w1⟩ : ∃ zs, CArg3 W a1 len1 cap1 zs := CArg3.open_ (j := 1) k1 hsz rfl rfl
  clear hA0 hval0
  refine (walk a0 a1 len1 cap1 z1 W w0 w1).mono fun e W' ⟨he, bel⟩ => ?_
  subst he
  exact ⟨_, rfl, _, _, _, [], _, [], hW', trodAll_mk1 (shut_bool Try.underlying4 _), (trodAll_cons_mk (shut_int Try.underlying3 w0) (trodAll_cons_mk (Below.trod laidOut (by kernel_rfl) (of_decide_eq_true (by kernel_rfl)) k1 bel lt1) trodAll_mk0)), rfl, bel.frame _, fun h => by cases h⟩

theorem over : Rows.slotsPartitionRow.holds Try.pinned (OpenSpec.ofChange Rows.slotsPartitionSpec) :=
  OpenClaim.holds_of_wide 6 Try.f6 rfl rfl rfl rfl rfl rfl rfl ⟨rfl, rfl, rfl, rfl, rfl⟩ rfl rfl rfl rfl rfl (by kernel_rfl) Try.func6 (by kernel_rfl)
    (of_decide_eq_true (by kernel_rfl)) (by unfold Func.isWrapper; first | (rw [if_pos (by decide +kernel)]; kernel_rfl) | (rw [if_neg (by decide +kernel)]; exact ⟨rfl, rfl⟩))
    (fun os started H enc _ => lifted os started H enc)

end Go.Proofs.Ytbmamikhjfieoaa.WSlotsPartition

namespace Go.Proofs.Ytbmamikhjfieoaa
theorem slotsPartition_holds : Rows.SlotsPartitionSaid := WSlotsPartition.over
#print axioms slotsPartition_holds
end Go.Proofs.Ytbmamikhjfieoaa
