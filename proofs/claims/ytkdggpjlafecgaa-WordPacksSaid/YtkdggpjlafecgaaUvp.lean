/-
  PLAIN: what Uvarint and Key return, as functions of the bytes; no program in sight.
-/
import Derived.Test.YtkdggpjlafecgaaApp
namespace Go.Proofs.Ytkdggpjlafecgaa
open Go.RowKit

def uvr (at' : Int) : Nat → Int → List Int → Int × Int × Int
  | _, _, [] => (0, 0, 12)
  | i, v, c :: l => if (i = 9 ∧ 1 < c) ∨ (0 < i ∧ c = 0) then (0, 0, 13) else if c < 128 then (v + c * 128 ^ i, at' + i + 1, 0) else uvr at' (i + 1) (v + (c - 128) * 128 ^ i) l

def uvOut (zs : List Int) (at' : Int) : Int × Int × Int := if at' < 0 ∨ (zs.length : Int) < at' then (0, 0, 1) else uvr at' 0 0 (zs.drop at'.toNat)

theorem drop_at (zs : List Int) (k : Nat) (h : k < zs.length) : zs.drop k = zs.getD k 0 :: zs.drop (k + 1) := by
  rw [List.drop_eq_getElem_cons h]
  simp [List.getD, h]

/-- The state of the reader behind k bytes. -/
def uvS (at' : Nat) (zs : List Int) (r : Int × Int × Int) (k : Nat) (x : Int) : Prop := uvr at' k x (zs.drop (at' + k)) = r ∧ 0 ≤ x ∧ x < 128 ^ k ∧ k ≤ 9

theorem pow9 (k : Nat) (h : k ≤ 9) : (128 : Int) ^ k ≤ 9223372036854775808 := by
  rcases (by omega : k = 0 ∨ k = 1 ∨ k = 2 ∨ k = 3 ∨ k = 4 ∨ k = 5 ∨ k = 6 ∨ k = 7 ∨ k = 8 ∨ k = 9) with rfl | rfl | rfl | rfl | rfl | rfl | rfl | rfl | rfl | rfl <;> decide
theorem pow_two_seven (k : Nat) : (2 : Int) ^ (7 * k) = 128 ^ k := by rw [Int.pow_mul]; rfl
theorem pow_pos128 (k : Nat) : (0 : Int) < 128 ^ k := Int.pow_pos (by omega)

theorem uvS_x {at' : Nat} {zs : List Int} {r : Int × Int × Int} {k : Nat} {x : Int} (h : uvS at' zs r k x) : 0 ≤ x ∧ x ≤ 9223372036854775807 := ⟨h.2.1, by have := h.2.2.1; have := pow9 k h.2.2.2; omega⟩

theorem uvS_end {at' : Nat} {zs : List Int} {r : Int × Int × Int} {k : Nat} {x : Int} (h : uvS at' zs r k x) (hk : zs.length ≤ at' + k) : r = (0, 0, 12) := by
  rw [← h.1, List.drop_eq_nil_of_le hk]; rfl
theorem uvS_bad {at' : Nat} {zs : List Int} {r : Int × Int × Int} {k : Nat} {x : Int} (h : uvS at' zs r k x) (hk : at' + k < zs.length) (hb : (k = 9 ∧ 1 < zs.getD (at' + k) 0) ∨ (0 < k ∧ zs.getD (at' + k) 0 = 0)) : r = (0, 0, 13) := by
  rw [← h.1, drop_at _ _ hk, uvr, if_pos hb]
theorem uvS_done {at' : Nat} {zs : List Int} {r : Int × Int × Int} {k : Nat} {x : Int} (h : uvS at' zs r k x) (hk : at' + k < zs.length) (hb : ¬ ((k = 9 ∧ 1 < zs.getD (at' + k) 0) ∨ (0 < k ∧ zs.getD (at' + k) 0 = 0))) (hc : zs.getD (at' + k) 0 < 128) :
    r = (x + zs.getD (at' + k) 0 * 128 ^ k, (at' : Int) + k + 1, 0) := by
  rw [← h.1, drop_at _ _ hk, uvr, if_neg hb, if_pos hc]
theorem uvS_next {at' : Nat} {zs : List Int} {r : Int × Int × Int} {k : Nat} {x : Int} (h : uvS at' zs r k x) (hk : at' + k < zs.length) (hb : ¬ ((k = 9 ∧ 1 < zs.getD (at' + k) 0) ∨ (0 < k ∧ zs.getD (at' + k) 0 = 0))) (hc : 128 ≤ zs.getD (at' + k) 0) (hc2 : zs.getD (at' + k) 0 ≤ 255) :
    k < 9 ∧ uvS at' zs r (k + 1) (x + (zs.getD (at' + k) 0 - 128) * 128 ^ k) := by
  have hk9 : k ≠ 9 := fun e => hb (.inl ⟨e, by omega⟩)
  have h4 := h.2.2.2
  refine ⟨by omega, ?_, ?_, ?_, by omega⟩
  · rw [← h.1, drop_at _ _ hk, uvr, if_neg hb, if_neg (by omega)]; rfl
  · have := Int.mul_nonneg (show 0 ≤ zs.getD (at' + k) 0 - 128 by omega) (Int.le_of_lt (pow_pos128 k))
    have := h.2.1; omega
  · have h3 := h.2.2.1
    have h5 : (zs.getD (at' + k) 0 - 128) * 128 ^ k ≤ 127 * 128 ^ k := Int.mul_le_mul_of_nonneg_right (by omega) (Int.le_of_lt (pow_pos128 k))
    have h6 : (128 : Int) ^ (k + 1) = 128 ^ k * 128 := Int.pow_succ ..
    omega

/-- The program's way of adding a group. -/
theorem uv_or (x z : Int) (k : Nat) (h0 : 0 ≤ x) (h1 : x < 128 ^ k) (hz0 : 0 ≤ z) (hz1 : z ≤ 255) (hk : k ≤ 9) (h9 : k = 9 → z ≤ 1) :
    bits .or .u64 x (IntKind.u64.wrap (IntKind.u64.wrap (bits .and .u8 z 127) * 2 ^ (7 * k))) = x + (z % 128) * 128 ^ k := by
  have hp := pow9 k hk
  have hp0 := pow_pos128 k
  have hm : (z % 128) * 128 ^ k < 18446744073709551616 := by
    by_cases e : k = 9
    · subst e; have := h9 rfl; have : z % 128 ≤ 1 := by omega
      have h5 : (z % 128) * 128 ^ 9 ≤ 1 * 128 ^ 9 := Int.mul_le_mul_of_nonneg_right this (by decide)
      have : (1 : Int) * 128 ^ 9 = 9223372036854775808 := by decide
      omega
    · have h5 : (z % 128) * 128 ^ k ≤ 127 * 128 ^ k := Int.mul_le_mul_of_nonneg_right (by omega) (by omega)
      have h8 : (128 : Int) ^ k ≤ 72057594037927936 := by
        rcases (by omega : k = 0 ∨ k = 1 ∨ k = 2 ∨ k = 3 ∨ k = 4 ∨ k = 5 ∨ k = 6 ∨ k = 7 ∨ k = 8) with rfl | rfl | rfl | rfl | rfl | rfl | rfl | rfl | rfl <;> decide
      omega
  have hm0 : 0 ≤ (z % 128) * 128 ^ k := Int.mul_nonneg (by omega) (by omega)
  rw [and127 z hz0 hz1, pow_two_seven, IntKind.wrap_u64, IntKind.wrap_u64, show z % 128 % 18446744073709551616 = z % 128 by omega, Int.emod_eq_of_lt hm0 hm]
  have hN : ((2 ^ (7 * k) : Nat) : Int) = 128 ^ k := by rw [← pow_two_seven]; simp
  have := or_disj (7 * k) x (z % 128) h0 (by rw [hN]; exact h1) (by omega) (by rw [hN]; exact hm) (by omega)
  rw [hN] at this
  exact this

/-- The reference's way. -/
theorem uv_add (x z : Int) (k : Nat) (h0 : 0 ≤ x) (h1 : x < 128 ^ k) (hz0 : 0 ≤ z) (hz1 : z ≤ 255) (hk : k ≤ 9) (h9 : k = 9 → z ≤ 1) :
    IntKind.u64.wrap (x + IntKind.u64.wrap (128 ^ k * (z % 128))) = x + (z % 128) * 128 ^ k := by
  have h := uv_or x z k h0 h1 hz0 hz1 hk h9
  have hp := pow9 k hk
  have hp0 := pow_pos128 k
  have hm0 : 0 ≤ (z % 128) * 128 ^ k := Int.mul_nonneg (by omega) (by omega)
  have hb : x + (z % 128) * 128 ^ k < 18446744073709551616 := by
    by_cases e : k = 9
    · subst e; have := h9 rfl; have : z % 128 ≤ 1 := by omega
      have h5 : (z % 128) * 128 ^ 9 ≤ 1 * 128 ^ 9 := Int.mul_le_mul_of_nonneg_right this (by decide)
      have : (1 : Int) * 128 ^ 9 = 9223372036854775808 := by decide
      have : (128 : Int) ^ 9 = 9223372036854775808 := by decide
      omega
    · have h5 : (z % 128) * 128 ^ k ≤ 127 * 128 ^ k := Int.mul_le_mul_of_nonneg_right (by omega) (by omega)
      have h8 : (128 : Int) ^ k ≤ 72057594037927936 := by
        rcases (by omega : k = 0 ∨ k = 1 ∨ k = 2 ∨ k = 3 ∨ k = 4 ∨ k = 5 ∨ k = 6 ∨ k = 7 ∨ k = 8) with rfl | rfl | rfl | rfl | rfl | rfl | rfl | rfl | rfl <;> decide
      omega
  rw [Int.mul_comm, IntKind.wrap_u64, IntKind.wrap_u64, Int.emod_eq_of_lt hm0 (by omega), Int.emod_eq_of_lt (by omega) hb]
end Go.Proofs.Ytkdggpjlafecgaa
