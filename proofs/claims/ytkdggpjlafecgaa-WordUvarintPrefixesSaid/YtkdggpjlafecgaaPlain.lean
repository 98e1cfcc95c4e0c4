/-
  PLAIN LAWS ON NUMBERS AND LISTS OF BYTES for the statements of layer 1 (word): no program in sight. No conditions beyond those that each lemma names.
-/
import Derived.Laws.BitsAllLaws
import Derived.Laws.BitsLemmas
import Derived.RowKit
import Derived.RowKit3
import Derived.Below
namespace Go.Proofs.Ytkdggpjlafecgaa
open Go.RowKit

/-- A fact kept from the walk. -/
theorem hid {p : Prop} (h : p) : Hid p := h

/-! ### bits -/
theorem nat_xor_ones (a : Nat) (ha : a < 18446744073709551616) : a ^^^ 18446744073709551615 = 18446744073709551615 - a := by
  have h : (BitVec.ofNat 64 a ^^^ BitVec.allOnes 64) = ~~~ (BitVec.ofNat 64 a) := BitVec.xor_allOnes
  have h2 := congrArg BitVec.toNat h
  rw [BitVec.toNat_xor, BitVec.toNat_not, BitVec.toNat_ofNat, BitVec.toNat_allOnes, Nat.mod_eq_of_lt (by omega)] at h2
  simpa using h2

theorem nat_xor_disj (i x y : Nat) (hx : x % 2 ^ i = 0) (hy : y < 2 ^ i) : x ^^^ y = x + y := by
  rw [← nat_join i x y hx hy]
  apply Nat.eq_of_testBit_eq
  intro j
  rw [Nat.testBit_xor, Nat.testBit_or]
  by_cases hj : j < i
  · have : x.testBit j = false := by
      have h := Nat.testBit_mod_two_pow x i j
      rw [hx] at h
      simpa [hj] using h.symm
    simp [this]
  · have : y.testBit j = false := Nat.testBit_lt_two_pow (Nat.lt_of_lt_of_le hy (Nat.pow_le_pow_right (by omega) (by omega)))
    simp [this]

theorem nat_xor_top (a : Nat) (ha : a < 18446744073709551616) : a ^^^ 9223372036854775808 = (a + 9223372036854775808) % 18446744073709551616 := by
  by_cases h : a < 9223372036854775808
  · rw [Nat.xor_comm, nat_xor_disj 63 9223372036854775808 a (by decide) (by simpa using h)]
    omega
  · have e : a = 9223372036854775808 ^^^ (a - 9223372036854775808) := by
      rw [nat_xor_disj 63 9223372036854775808 (a - 9223372036854775808) (by decide) (by simp; omega)]
      omega
    rw [Nat.xor_comm, e, ← Nat.xor_assoc, Nat.xor_self, Nat.zero_xor]
    omega

theorem u64_xor_top (x : Int) (h1 : 0 ≤ x) (h2 : x < 18446744073709551616) : bits .xor .u64 x 9223372036854775808 = (x + 9223372036854775808) % 18446744073709551616 := by
  rw [u64_xor x _ h1 h2 (by omega) (by omega)]
  rw [show (9223372036854775808 : Int).toNat = 9223372036854775808 from rfl, nat_xor_top x.toNat (by omega)]
  omega

/-! ### zigzag -/
def zz (n : Int) : Int := if 0 ≤ n then 2 * n else -2 * n - 1
def uz (u : Int) : Int := if u % 2 = 0 then u / 2 else -(u / 2) - 1
def mag (n : Int) : Int := if n < 0 then -n else n

theorem zz_pos (n : Int) (h1 : 0 ≤ n) (h2 : n ≤ 9223372036854775807) : bits .xor .u64 (n * 2) (n / 9223372036854775808) = zz n := by
  have e : n / 9223372036854775808 = 0 := by omega
  rw [e, u64_xor _ _ (by omega) (by omega) (by omega) (by omega)]
  simp [zz, h1]; omega
theorem zz_neg (n : Int) (h1 : n < 0) (h2 : -9223372036854775808 ≤ n) :
    bits .xor .u64 (IntKind.u64.wrap (IntKind.u64.wrap n * 2)) (IntKind.u64.wrap (n / 9223372036854775808)) = zz n := by
  have e : n / 9223372036854775808 = -1 := by omega
  rw [e, IntKind.wrap_u64, IntKind.wrap_u64, IntKind.wrap_u64]
  rw [u64_xor _ _ (by omega) (by omega) (by omega) (by omega)]
  rw [show ((-1 : Int) % 18446744073709551616).toNat = 18446744073709551615 from rfl, nat_xor_ones _ (by omega)]
  simp [zz]; omega
theorem zz_bd (n : Int) (h1 : -9223372036854775808 ≤ n) (h2 : n ≤ 9223372036854775807) : 0 ≤ zz n ∧ zz n ≤ 18446744073709551615 := by unfold zz; split <;> omega
theorem uz_bd (u : Int) (h1 : 0 ≤ u) (h2 : u ≤ 18446744073709551615) : -9223372036854775808 ≤ uz u ∧ uz u ≤ 9223372036854775807 := by unfold uz; split <;> omega
theorem uz_zz (n : Int) : uz (zz n) = n := by unfold uz zz; split <;> split <;> omega
theorem zz_uz (u : Int) (h : 0 ≤ u) : zz (uz u) = u := by unfold uz zz; split <;> split <;> omega
theorem zz_lt (m n : Int) (h : mag m < mag n) : zz m < zz n := by unfold mag at h; unfold zz; split at h <;> split at h <;> split <;> split <;> omega
theorem mag_bd (n : Int) (h1 : -9223372036854775808 ≤ n) (h2 : n ≤ 9223372036854775807) : 0 ≤ mag n ∧ mag n ≤ 9223372036854775808 := by unfold mag; split <;> omega

theorem uz_form (u : Int) (h1 : 0 ≤ u) (h2 : u ≤ 18446744073709551615) :
    bits .xor .i64 (u / 2) (wrap64 (-wrap64 (bits .and .u64 u 1))) = uz u := by
  have e : bits .and .u64 u 1 = u % 2 := by
    rw [u64_and u 1 h1 (by omega) (by omega) (by omega), show (1 : Int).toNat = 1 from rfl, nat_mask1]; omega
  rw [e]
  obtain ⟨a, ha⟩ : ∃ a : Nat, u / 2 = (a : Int) := ⟨(u / 2).toNat, by omega⟩
  have hal : a < 9223372036854775808 := by omega
  have ho : (BitVec.ofInt 64 (a : Int)).toNat = a := ofInt_u64 a (by omega)
  by_cases hu : u % 2 = 0
  · rw [hu, show wrap64 (-wrap64 0) = 0 from rfl, ha]
    show IntKind.i64.wrap ((BitVec.ofInt 64 (a : Int) ^^^ BitVec.ofInt 64 0).toNat : Int) = _
    rw [show BitVec.ofInt 64 0 = 0#64 from rfl, BitVec.xor_zero, ho, IntKind.wrap_i64]
    unfold uz; rw [if_pos hu]; omega
  · have hu1 : u % 2 = 1 := by omega
    rw [hu1, show wrap64 (-wrap64 1) = -1 from rfl, ha]
    show IntKind.i64.wrap ((BitVec.ofInt 64 (a : Int) ^^^ BitVec.ofInt 64 (-1)).toNat : Int) = _
    rw [show BitVec.ofInt 64 (-1) = BitVec.allOnes 64 from rfl, BitVec.xor_allOnes, BitVec.toNat_not, ho, IntKind.wrap_i64]
    unfold uz; rw [if_neg hu]; omega

/-! ### pack -/
theorem pk_form (i g : Int) (h1 : 0 ≤ i) (h2 : i ≤ 4294967295) (h3 : 0 ≤ g) (h4 : g ≤ 4294967295) : bits .or .u64 (g * 4294967296) i = g * 4294967296 + i := by
  rw [u64_or _ _ (by omega) (by omega) (by omega) (by omega), nat_join 32 _ _ (by omega) (by omega)]
  omega

/-! ### varints: groups of seven bits -/
def vbf : Nat → Nat → List Int
  | 0, u => [(u : Int)]
  | f + 1, u => if u < 128 then [(u : Int)] else ((u % 128 + 128 : Nat) : Int) :: vbf f (u / 128)
def vb (u : Nat) : List Int := vbf 9 u

theorem or128 (u : Int) : bits .or .u8 (u % 256) 128 = u % 128 + 128 := by
  rw [u8_or _ _ (by omega) (by omega) (by omega) (by omega)]
  have key : ∀ a, a < 256 → a ||| 128 = a % 128 + 128 := by decide +kernel
  rw [show (128 : Int).toNat = 128 from rfl, key _ (by omega)]
  omega
theorem and127 (c : Int) (h1 : 0 ≤ c) (h2 : c ≤ 255) : bits .and .u8 c 127 = c % 128 := by
  rw [u8_and _ _ (by omega) (by omega) (by omega) (by omega), show (127 : Int).toNat = 127 from rfl, nat_mask7]
  omega
theorem or_disj (i : Nat) (v c : Int) (h1 : 0 ≤ v) (h2 : v < (2 ^ i : Nat)) (h3 : 0 ≤ c) (h4 : c * (2 ^ i : Nat) < 18446744073709551616) (h5 : v < 18446744073709551616) :
    bits .or .u64 v (c * (2 ^ i : Nat)) = v + c * (2 ^ i : Nat) := by
  obtain ⟨a, rfl⟩ := Int.eq_ofNat_of_zero_le h1
  obtain ⟨d, rfl⟩ := Int.eq_ofNat_of_zero_le h3
  have e : (d : Int) * (2 ^ i : Nat) = ((d * 2 ^ i : Nat) : Int) := by simp
  rw [e] at h4 ⊢
  rw [u64_or_nat _ _ (by omega) (by omega), Nat.or_comm, nat_join i _ _ (Nat.mul_mod_left _ _) (by omega)]
  omega

#print axioms uz_form
#print axioms nat_xor_top
end Go.Proofs.Ytkdggpjlafecgaa
