/-
  THE CONTRACTS OF versionmapref4's Table, continued: Lookup, Replace, and Same on handles.
-/
import Derived.Test.YtbmamikhjfieoaaRt
namespace Go.Proofs.Ytbmamikhjfieoaa
open Go.RowKit

section
variable {F : Nat → Prop} {w : World} {Q : RTL} {S : SS} {v : Nat → Int}

theorem ref_entry_no (h : Nat) (hR : RTAt F w Q S v) (hw : S.wf) (hh : h ≤ 18446744073709551615) (ho : S.op h = false) :
    Calls Try.prog 51 #[Q.val S, .int .u64 (h : Int)] w fun e w' => e = .returned (.int .u32 0) ∧ Below w.heap.size w w' :=
  (ref_entry h hR hw hh).mono fun e w' ⟨he, hb⟩ => ⟨by rw [he, ho]; rfl, hb⟩
theorem ref_entry_yes (h : Nat) (hR : RTAt F w Q S v) (hw : S.wf) (hh : h ≤ 18446744073709551615) (ho : S.op h = true) :
    Calls Try.prog 51 #[Q.val S, .int .u64 (h : Int)] w fun e w' => e = .returned (.int .u32 ((ent h : Nat) : Int)) ∧ Below w.heap.size w w' :=
  (ref_entry h hR hw hh).mono fun e w' ⟨he, hb⟩ => ⟨by rw [he, ho]; rfl, hb⟩

set_option maxRecDepth 100000 in
set_option maxHeartbeats 1000000 in
theorem ref_lookup_no (h : Nat) (hR : RTAt F w Q S v) (hw : S.wf) (hh : h ≤ 18446744073709551615) (ho : S.op h = false) :
    Calls Try.prog 43 #[Q.val S, .int .u64 (h : Int)] w fun e w' => e = .returned (.tuple #[.int .u32 0, .int .i64 5]) ∧ Below w.heap.size w w' := by
  have HR := hid hR
  have HW := hid hw
  have HO := hid ho
  clear hR hw ho
  unfold RTL.val
  go_enter Try.func43, Try.ntmps43
  go_wp2_with fail
  refine (ref_entry_no h (HR.out.below ((Below.refl _ w).alloc (Nat.le_refl _) _)) HW.out hh HO.out).mono ?_
  rintro e w1 ⟨rfl, hb⟩
  have hbb : Below w.heap.size w w1 := ((Below.refl _ w).alloc (Nat.le_refl _) _).trans (hb.mono (by simp))
  clear hb
  go_wp2
  go_ret2
  exact ⟨rfl, hbb⟩

set_option maxRecDepth 100000 in
set_option maxHeartbeats 1000000 in
theorem ref_lookup_yes (h : Nat) (hR : RTAt F w Q S v) (hw : S.wf) (hh : h ≤ 18446744073709551615) (ho : S.op h = true) :
    Calls Try.prog 43 #[Q.val S, .int .u64 (h : Int)] w fun e w' => e = .returned (.tuple #[.int .u32 (v (ent h)), .int .i64 0]) ∧ Below w.heap.size w w' := by
  have hon := hw.on _ (SS.op_on ho).1
  have hfr := hw.fr
  have hn2 := hw.n2
  have hvc := hR.vc
  have HR := hid hR
  have HW := hid hw
  have HO := hid ho
  have HEN := hid (ref_entry_yes h (hR.below ((Below.refl _ w).alloc (Nat.le_refl _) (.cells #[.int .i64 (S.n : Int), .slice Q.R.a S.rl.length Q.R.c, .int .i64 ((S.fresh : Int) + 1), .slice (some ⟨Q.R.gb, 0, none⟩) S.n Q.R.gc, .slice (some ⟨Q.R.ob, 0, none⟩) S.n Q.R.oc, .slice (some ⟨Q.vb, 0, none⟩) S.n Q.vc] 74))) hw hh ho)
  have HVS : Hid (∀ w', Below w.heap.size w w' → w'.cell? ⟨Q.vb, ent h - 1, none⟩ = some (.int .u32 (v (ent h)))) := hid fun w' hb => by
    have := (hR.below hb).vs (ent h - 1) (by omega)
    rw [show ent h - 1 + 1 = ent h by omega] at this
    exact this
  obtain ⟨x, hx⟩ : ∃ x, x = v (ent h) := ⟨_, rfl⟩
  rw [← hx] at HVS ⊢
  obtain ⟨i, hi'⟩ : ∃ i, i = ent h := ⟨_, rfl⟩
  rw [← hi'] at hon HVS HEN
  have e1 : ((i : Int) - 1) = ((i - 1 : Nat) : Int) := by omega
  have i0 : ((i : Int) == 0) = false := by simp; omega
  clear hR hw ho hx hi'
  unfold RTL.val at HEN ⊢
  go_enter Try.func43, Try.ntmps43
  go_wp2_with fail
  refine HEN.out.mono ?_
  rintro e w1 ⟨rfl, hb⟩
  have B1 : Row6 w1 w.heap.size _ _ _ _ _ _ := (hb.block _ (by simp)).trans (heap_alloc_new w _)
  have hbb : Below w.heap.size w w1 := ((Below.refl _ w).alloc (Nat.le_refl _) _).trans (hb.mono (by simp))
  obtain ⟨a0, a1, a2, a3, a4, a5⟩ := B1.cells
  have cv := HVS.out _ hbb
  clear hb B1
  go_wp2
  go_ret2
  exact ⟨rfl, hbb⟩

set_option maxRecDepth 100000 in
set_option maxHeartbeats 1000000 in
theorem ref_replace_no (h : Nat) (x : Int) (hR : RTAt F w Q S v) (hw : S.wf) (hh : h ≤ 18446744073709551615) (ho : S.op h = false) :
    Calls Try.prog 44 #[Q.val S, .int .u64 (h : Int), .int .u32 x] w fun e w' => e = .returned (.tuple #[Q.val S, .int .i64 5]) ∧ Below w.heap.size w w' := by
  have HR := hid hR
  have HW := hid hw
  have HO := hid ho
  clear hR hw ho
  unfold RTL.val
  go_enter Try.func44, Try.ntmps44
  go_wp2_with fail
  refine (ref_entry_no h (HR.out.below (((Below.refl _ w).alloc (Nat.le_refl _) _).alloc (by simp) _)) HW.out hh HO.out).mono ?_
  rintro e w1 ⟨rfl, hb⟩
  have B1 : Row6 w1 w.heap.size _ _ _ _ _ _ := (hb.block _ (by simp; omega)).trans (heap_alloc2_old w _ _)
  have B2 : Row6 w1 (w.heap.size + 1) _ _ _ _ _ _ := (hb.block _ (by simp)).trans (heap_alloc2_new w _ _)
  have hbb : Below w.heap.size w w1 := (((Below.refl _ w).alloc (Nat.le_refl _) _).alloc (by simp) _).trans (hb.mono (by simp; omega))
  obtain ⟨a0, a1, a2, a3, a4, a5⟩ := B1.cells
  obtain ⟨b0, b1, b2, b3, b4, b5⟩ := B2.cells
  obtain ⟨f0, f1, f2, f3, f4, f5⟩ := B2.frz
  have HB := hid hbb
  clear hb hbb B1 B2
  go_wp2
  (try simp only [Exit.inBlock, Exit.then])
  refine bodyPost_ret (v := .tuple #[RTL.val Q S, .int .i64 5]) ?_ rfl ⟨rfl, ?_⟩
  · unfold RTL.val
    rw [results_cell_tmp1 rfl]
    go_simp
  · exact (((((HB.out.setCell (by simp) _).setCell (by simp) _).setCell (by simp) _).setCell (by simp) _).setCell (by simp) _).setCell (by simp) _

set_option maxRecDepth 100000 in
set_option maxHeartbeats 1000000 in
theorem same64_yes (A A' : Option Addr) (n c c' : Nat) (zs : List Int) (w : World) (hx : Nums .u64 Nil w A n zs) (hy : Nums .u64 Nil w A' n zs) (hn : n ≤ 140737488355328) :
    Calls Try.prog 48 #[.slice A n c, .slice A' n c'] w fun e w' => e = .returned (.bool true) ∧ Qt w w' := by
  have HX := hid hx
  have HY := hid hy
  clear hx hy
  go_enter Try.func48, Try.ntmps48
  go_wp2
  go_loopw [5] (fun i wr => ∃ k : Nat, k ≤ n ∧ i = .int .i64 k ∧ Qt w wr) (fun i _ => n - (intOf i).toNat)
  case atStart => exact ⟨0, Nat.zero_le _, rfl, 0, rfl⟩
  case round =>
    obtain ⟨k, hk, rfl, hq⟩ := hrel
    by_cases hlt : k < n
    · obtain ⟨b, off, hA, hbl, _, hc⟩ := HX.out.2 (by omega)
      obtain ⟨b', off', hA', hbl', _, hc'⟩ := HY.out.2 (by omega)
      subst hA hA'
      obtain ⟨z, hz⟩ : ∃ z, z = zs.getD k 0 := ⟨_, rfl⟩
      have c1 : wr.cell? ⟨b, off + k, none⟩ = some (.int .u64 z) := by obtain ⟨q, rfl⟩ := hq; rw [hz]; exact hc k hlt
      have c2 : wr.cell? ⟨b', off' + k, none⟩ = some (.int .u64 z) := by obtain ⟨q, rfl⟩ := hq; rw [hz]; exact hc' k hlt
      clear hz hc hc'
      have HQ := hid hq
      clear hq
      go_wp2_with fail
      go_quiet (fail)
      go_wp2
      go_roundw
      case rel => exact ⟨k + 1, by omega, by go_num, by obtain ⟨q, rfl⟩ := HQ.out; exact ⟨_, World.drewN_drewN ..⟩⟩
      case measure => simp [intOf]; omega
    · have : k = n := by omega
      subst this
      go_wp2
      go_ret
      exact ⟨rfl, hq⟩
end
end Go.Proofs.Ytbmamikhjfieoaa
