/-
  THE CONTRACTS OF THE READERS: Same (at equal bytes), less, Key and Uvarint of the program and of the reference. For every slice of bytes that reads as a list.
-/
import Derived.Test.YtkdggpjlafecgaaSame
import Derived.Deep.QuietTactic
import Derived.BigQuiet
namespace Go.Proofs.Ytkdggpjlafecgaa
open Go.RowKit

set_option maxRecDepth 100000 in
set_option maxHeartbeats 1000000 in
theorem same_yes (A : Option Addr) (n c : Nat) (zs : List Int) (B : Option Addr) (m d : Nat) (w : World) (hnm : m = n) (hA : Byt w A n zs) (hB : Byt w B m zs) (hn : n ≤ 281474976710656) :
    Calls Try.prog 25 #[.slice A n c, .slice B m d] w fun e w' => e = .returned (.bool true) ∧ Below w.heap.size w w' := by
  have HA := hid hA
  have HB := hid hB
  subst hnm
  clear hA hB
  have hne : (((m : Nat) : Int) != (m : Int)) = false := by simp
  go_enter Try.func25, Try.ntmps25
  go_wp2
  go_loopw [5] (fun i wr => ∃ k : Nat, k ≤ m ∧ i = .int .i64 k ∧ Below w.heap.size w wr) (fun i _ => m - (intOf i).toNat)
  case atStart => exact ⟨0, Nat.zero_le _, rfl, Below.refl _ _⟩
  case round =>
    obtain ⟨k, hk, rfl, hb⟩ := hrel
    by_cases hlt : k < m
    · obtain ⟨b, off, hAe, hbl, hc⟩ := HA.out.2.2 (by omega)
      obtain ⟨b', off', hBe, hbl', hc'⟩ := HB.out.2.2 (by omega)
      subst hAe hBe
      obtain ⟨z, hz⟩ : ∃ z, z = zs.getD k 0 := ⟨_, rfl⟩
      have hck : wr.cell? ⟨b, off + k, none⟩ = some (.int .u8 z) := by rw [hz]; exact (hb.cell (by exact hbl)).trans (hc k hlt)
      have hck' : wr.cell? ⟨b', off' + k, none⟩ = some (.int .u8 z) := by rw [hz]; exact (hb.cell (by exact hbl')).trans (hc' k hlt)
      clear hc hc' hz hbl hbl'
      go_wp2
      go_region
      all_goals go_wp2
      all_goals
        go_roundw
        case rel => exact ⟨k + 1, by omega, by go_num, hb.drew⟩
        case measure => simp [intOf]; omega
    · go_wp2
      go_ret
      exact ⟨rfl, hb⟩

/-- The bytewise order of two strings of one length. -/
def lx : List Int → List Int → Bool
  | x :: xs, y :: ys => if x = y then lx xs ys else decide (x < y)
  | _, _ => false
theorem lx_at (xs ys : List Int) (k : Nat) (hk : k < xs.length) (hk' : k < ys.length) (h : xs.take k = ys.take k) :
    lx xs ys = if xs.getD k 0 = ys.getD k 0 then lx (xs.drop (k + 1)) (ys.drop (k + 1)) else decide (xs.getD k 0 < ys.getD k 0) := by
  induction k generalizing xs ys with
  | zero =>
    match xs, ys, hk, hk' with
    | x :: xs, y :: ys, _, _ => simp [lx]
  | succ k ih =>
    match xs, ys, hk, hk' with
    | x :: xs, y :: ys, hk, hk' =>
      simp only [List.take_succ_cons, List.cons.injEq] at h
      rw [lx, if_pos h.1, ih xs ys (by simpa using hk) (by simpa using hk') h.2]
      simp
theorem lx_same (xs ys : List Int) (h : xs = ys) : lx xs ys = false := by
  subst h
  induction xs with
  | nil => rfl
  | cons x xs ih => simp [lx, ih]
theorem take_eq_more (xs ys : List Int) (k : Nat) (hk : k < xs.length) (hk' : k < ys.length) (h : xs.take k = ys.take k) (he : xs.getD k 0 = ys.getD k 0) : xs.take (k + 1) = ys.take (k + 1) := by
  rw [take_more _ _ hk, take_more _ _ hk', h, he]
theorem lx_diff (xs ys : List Int) (k : Nat) (hk : k < xs.length) (hk' : k < ys.length) (h : xs.take k = ys.take k) (hne : xs.getD k 0 ≠ ys.getD k 0) : lx xs ys = decide (xs.getD k 0 < ys.getD k 0) := by
  rw [lx_at xs ys k hk hk' h, if_neg hne]

set_option maxRecDepth 100000 in
set_option maxHeartbeats 1000000 in
theorem less_any (A : Option Addr) (c : Nat) (xs : List Int) (B : Option Addr) (d : Nat) (ys : List Int) (w : World) (hA : Byt w A 8 xs) (hB : Byt w B 8 ys) :
    Calls Try.prog 18 #[.slice A 8 c, .slice B 8 d] w fun e w' => e = .returned (.bool (lx xs ys)) ∧ Below w.heap.size w w' := by
  have HA := hid hA
  have HB := hid hB
  clear hA hB
  obtain ⟨r, hr⟩ : ∃ r, r = lx xs ys := ⟨_, rfl⟩
  have HR := hid hr
  rw [← hr]
  clear hr
  go_enter Try.func18, Try.ntmps18
  go_wp2
  go_loopw [5] (fun i wr => ∃ k : Nat, k ≤ 8 ∧ i = .int .i64 k ∧ Hid (xs.take k = ys.take k) ∧ Below w.heap.size w wr) (fun i _ => 8 - (intOf i).toNat)
  case atStart => exact ⟨0, Nat.zero_le _, rfl, hid (by simp), Below.refl _ _⟩
  case round =>
    obtain ⟨k, hk, rfl, ht, hb⟩ := hrel
    by_cases hlt : k < 8
    · obtain ⟨b, off, hAe, hbl, hc⟩ := HA.out.2.2 (by omega)
      obtain ⟨b', off', hBe, hbl', hc'⟩ := HB.out.2.2 (by omega)
      subst hAe hBe
      obtain ⟨z, hz⟩ : ∃ z, z = xs.getD k 0 := ⟨_, rfl⟩
      obtain ⟨y, hy⟩ : ∃ y, y = ys.getD k 0 := ⟨_, rfl⟩
      have hck : wr.cell? ⟨b, off + k, none⟩ = some (.int .u8 z) := by rw [hz]; exact (hb.cell (by exact hbl)).trans (hc k hlt)
      have hck' : wr.cell? ⟨b', off' + k, none⟩ = some (.int .u8 y) := by rw [hy]; exact (hb.cell (by exact hbl')).trans (hc' k hlt)
      have HZ := hid hz
      have HY := hid hy
      have e1 := HA.out.1
      have e2 := HB.out.1
      have E1 := hid (show k < xs.length by omega)
      have E2 := hid (show k < ys.length by omega)
      clear hc hc' hz hbl hbl' hy e1 e2
      by_cases hzy : z = y
      · have hyy := hzy
        have HE := hid hzy
        subst hzy
        go_wp2
        go_region
        all_goals go_wp2
        all_goals
          go_roundw
          case rel => exact ⟨k + 1, by omega, by go_num, hid (take_eq_more xs ys k E1.out E2.out ht.out (by rw [← HZ.out, ← HY.out])), hb.drew⟩
          case measure => simp [intOf]; omega
      · have hzb : (z != y) = true := by simpa using hzy
        have HD := hid (lx_diff xs ys k E1.out E2.out ht.out (by rw [← HZ.out, ← HY.out]; exact hzy))
        have HN := hid hzy
        clear hzy
        go_wp2
        go_region
        all_goals go_wp2
        all_goals go_region
        all_goals go_wp2
        all_goals
          go_ret
          exact ⟨by rw [HR.out, HD.out, ← HZ.out, ← HY.out]; rfl, hb.drew.drew⟩
    · have hk8 : k = 8 := by omega
      subst hk8
      have e1 := HA.out.1
      have e2 := HB.out.1
      have HX := hid (lx_same xs ys (by have := ht.out; rwa [List.take_of_length_le (by omega), List.take_of_length_le (by omega)] at this))
      clear e1 e2
      go_wp2
      go_ret
      exact ⟨by rw [HR.out, HX.out]; rfl, hb⟩
end Go.Proofs.Ytkdggpjlafecgaa
