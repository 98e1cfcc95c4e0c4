/-
  THE CONTRACTS OF THE FUNCTIONS THAT ONLY COMPUTE WITH NUMBERS: Zigzag, Unzigzag, Pack, Unpack, Log2 (program and reference), magnitude, Mod. Each: for every argument of its type the call returns the plain function's value and leaves the world as it is.
-/
import Derived.Test.YtkdggpjlafecgaaProg
import Derived.Test.YtkdggpjlafecgaaPlain
import Derived.WalkKit
import Derived.WalkSpells
import Derived.WalkLawsBesides
namespace Go.Proofs.Ytkdggpjlafecgaa
open Go.RowKit

theorem ret_int {k : IntKind} {a b : Int} (h : a = b) : Ending.returned (.int k a) = .returned (.int k b) := by rw [h]

set_option maxHeartbeats 400000 in
theorem zig_any (n : Int) (w : World) (h1 : -9223372036854775808 ≤ n) (h2 : n ≤ 9223372036854775807) :
    Calls Try.prog 16 #[.int .i64 n] w fun e w' => e = .returned (.int .u64 (zz n)) ∧ w = w' := by
  by_cases h : 0 ≤ n
  · have H := hid (zz_pos n h h2)
    go_enter Try.func16, Try.ntmps16
    go_wp2
    go_ret
    exact ⟨ret_int H.out, rfl⟩
  · have h' : n < 0 := by omega
    have H := hid (zz_neg n h' h1)
    clear h
    go_enter Try.func16, Try.ntmps16
    go_wp2
    go_ret
    exact ⟨ret_int H.out, rfl⟩

set_option maxHeartbeats 400000 in
theorem rzig_any (n : Int) (w : World) (h1 : -9223372036854775808 ≤ n) (h2 : n ≤ 9223372036854775807) :
    Calls Try.prog 20 #[.int .i64 n] w fun e w' => e = .returned (.int .u64 (zz n)) ∧ w = w' := by
  by_cases h : 0 ≤ n
  · go_enter Try.func20, Try.ntmps20
    go_wp2
    go_ret
    exact ⟨ret_int (by unfold zz; rw [if_pos h]), rfl⟩
  · have h' : n < 0 := by omega
    clear h
    go_enter Try.func20, Try.ntmps20
    go_wp2
    go_ret
    exact ⟨ret_int (by unfold zz; rw [if_neg (by omega)]; omega), rfl⟩

set_option maxHeartbeats 400000 in
theorem unzig_any (u : Int) (w : World) (h1 : 0 ≤ u) (h2 : u ≤ 18446744073709551615) :
    Calls Try.prog 21 #[.int .u64 u] w fun e w' => e = .returned (.int .i64 (uz u)) ∧ w = w' := by
  have H := hid (uz_form u h1 h2)
  go_enter Try.func21, Try.ntmps21
  go_wp2
  go_ret
  exact ⟨ret_int H.out, rfl⟩

set_option maxHeartbeats 400000 in
theorem mag_any (n : Int) (w : World) (h1 : -9223372036854775808 ≤ n) (h2 : n ≤ 9223372036854775807) :
    Calls Try.prog 14 #[.int .i64 n] w fun e w' => e = .returned (.int .u64 (mag n)) ∧ w = w' := by
  by_cases h : n < 0
  · go_enter Try.func14, Try.ntmps14
    go_wp2
    go_ret
    exact ⟨ret_int (by unfold mag; rw [if_pos h]; omega), rfl⟩
  · have h' : 0 ≤ n := by omega
    go_enter Try.func14, Try.ntmps14
    go_wp2
    go_ret
    exact ⟨ret_int (by unfold mag; rw [if_neg (by omega)]), rfl⟩

set_option maxHeartbeats 400000 in
theorem pack_any (i g : Int) (w : World) (h1 : 0 ≤ i) (h2 : i ≤ 4294967295) (h3 : 0 ≤ g) (h4 : g ≤ 4294967295) :
    Calls Try.prog 23 #[.int .u32 i, .int .u32 g] w fun e w' => e = .returned (.int .u64 (g * 4294967296 + i)) ∧ w = w' := by
  have H := hid (pk_form i g h1 h2 h3 h4)
  go_enter Try.func23, Try.ntmps23
  go_wp2
  go_ret
  exact ⟨ret_int H.out, rfl⟩

set_option maxHeartbeats 400000 in
theorem rpack_any (i g : Int) (w : World) (h1 : 0 ≤ i) (h2 : i ≤ 4294967295) (h3 : 0 ≤ g) (h4 : g ≤ 4294967295) :
    Calls Try.prog 24 #[.int .u32 i, .int .u32 g] w fun e w' => e = .returned (.int .u64 (g * 4294967296 + i)) ∧ w = w' := by
  go_enter Try.func24, Try.ntmps24
  go_wp2
  go_ret
  exact ⟨rfl, rfl⟩

set_option maxHeartbeats 400000 in
theorem unpack_any (n : Int) (w : World) (h1 : 0 ≤ n) (h2 : n ≤ 18446744073709551615) :
    Calls Try.prog 22 #[.int .u64 n] w fun e w' => e = .returned (.tuple #[.int .u32 (n % 4294967296), .int .u32 (n / 4294967296)]) ∧ w = w' := by
  go_enter Try.func22, Try.ntmps22
  go_wp2
  go_ret2
  exact ⟨rfl, rfl⟩

theorem tmod_neg (k n : Int) (h : 1 ≤ n) (hk : k.tmod n < 0) : k.tmod n + n = k % n := by
  have h0 : ¬ 0 ≤ k := fun h0 => by have := Int.tmod_nonneg n h0; omega
  have h1 := Int.emod_add_mul_ediv k n
  have h2 := Int.tmod_add_mul_tdiv k n
  have h3 := Int.emod_nonneg k (show n ≠ 0 by omega)
  have h4 := Int.emod_lt_of_pos k (show 0 < n by omega)
  have h5 := Int.lt_tmod_of_pos k (show 0 < n by omega)
  have e : n * (k.tdiv n - k / n) = k % n - k.tmod n := by rw [Int.mul_sub]; omega
  have h6 : k.tdiv n - k / n = 1 := by
    rcases Int.lt_trichotomy (k.tdiv n - k / n) 1 with hlt | heq | hgt
    · have : n * (k.tdiv n - k / n) ≤ n * 0 := Int.mul_le_mul_of_nonneg_left (by omega) (by omega)
      simp at this; omega
    · exact heq
    · have : n * 2 ≤ n * (k.tdiv n - k / n) := Int.mul_le_mul_of_nonneg_left (by omega) (by omega)
      omega
  rw [h6] at e
  omega
theorem tmod_pos (k n : Int) (h : 1 ≤ n) (hk : 0 ≤ k.tmod n) : k.tmod n = k % n := by
  have h1 := Int.emod_add_mul_ediv k n
  have h2 := Int.tmod_add_mul_tdiv k n
  have h3 := Int.emod_nonneg k (show n ≠ 0 by omega)
  have h4 := Int.emod_lt_of_pos k (show 0 < n by omega)
  have h5 := Int.tmod_lt_of_pos k (show 0 < n by omega)
  have e : n * (k.tdiv n - k / n) = k % n - k.tmod n := by rw [Int.mul_sub]; omega
  have h6 : k.tdiv n - k / n = 0 := by
    rcases Int.lt_trichotomy (k.tdiv n - k / n) 0 with hlt | heq | hgt
    · have : n * (k.tdiv n - k / n) ≤ n * (-1) := Int.mul_le_mul_of_nonneg_left (by omega) (by omega)
      omega
    · exact heq
    · have : n * 1 ≤ n * (k.tdiv n - k / n) := Int.mul_le_mul_of_nonneg_left (by omega) (by omega)
      omega
  rw [h6] at e
  omega

set_option maxHeartbeats 400000 in
theorem mod_any (k n : Int) (w : World) (h1 : 1 ≤ n) (h2 : n ≤ 9223372036854775807) :
    Calls Try.prog 30 #[.int .i64 k, .int .i64 n] w fun e w' => e = .returned (.int .i64 (k % n)) ∧ w = w' := by
  have h3 := Int.emod_nonneg k (show n ≠ 0 by omega)
  have h4 := Int.emod_lt_of_pos k (show 0 < n by omega)
  have H1 := hid (tmod_neg k n h1)
  have H2 := hid (tmod_pos k n h1)
  go_enter Try.func30, Try.ntmps30
  go_wp2
  · go_ret
    have e := H1.out (by assumption)
    exact ⟨ret_int (by rw [e]; exact IntWalk.wrap64_in _ ⟨by omega, by omega⟩), rfl⟩
  · go_ret
    exact ⟨ret_int (H2.out (by assumption)), rfl⟩

/-- What Log2 returns. -/
def lgOf (u : Nat) (r : Int) : Prop := (u = 0 ∧ r = -1) ∨ ∃ k : Nat, r = k ∧ k ≤ 63 ∧ u / 2 ^ k = 1

theorem pow_le_64 (a k : Nat) (ha : a < 18446744073709551616) (h : 64 ≤ k) : a / 2 ^ k = 0 := by
  have : 2 ^ 64 ≤ 2 ^ k := Nat.pow_le_pow_right (by omega) h
  exact Nat.div_eq_of_lt (by omega)

theorem lg_done (u k : Nat) (hk : k ≤ 64) (h0 : u / 2 ^ k = 0) (hp : k = 0 ∨ 1 ≤ u / 2 ^ (k - 1)) : lgOf u ((k : Int) - 1) := by
  rcases hp with rfl | hp
  · exact .inl ⟨by simpa using h0, rfl⟩
  · match k, hp with
    | 0, hp => exact .inl ⟨by simpa using h0, rfl⟩
    | j + 1, hp =>
      refine .inr ⟨j, by omega, by omega, ?_⟩
      rw [Nat.pow_succ, ← Nat.div_div_eq_div_mul] at h0
      simp only [Nat.add_sub_cancel] at hp
      omega

set_option maxHeartbeats 400000 in
theorem log2_any (u : Nat) (w : World) (h2 : u < 18446744073709551616) :
    Calls Try.prog 19 #[.int .u64 u] w fun e w' => (∃ r, e = .returned (.int .i64 r) ∧ lgOf u r) ∧ w = w' := by
  go_enter Try.func19, Try.ntmps19
  go_wp2
  go_loop [0, 3] (fun v n => ∃ k : Nat, k ≤ 64 ∧ v = .int .u64 ((u / 2 ^ k : Nat) : Int) ∧ n = .int .i64 ((k : Int) - 1) ∧ (k = 0 ∨ 1 ≤ u / 2 ^ (k - 1))) (fun v _ => (intOf v).toNat)
  case atStart => exact ⟨0, by omega, by simp, rfl, .inl rfl⟩
  case round =>
    obtain ⟨k, hk, rfl, rfl, hp⟩ := hrel
    obtain ⟨x, hx⟩ : ∃ x : Nat, u / 2 ^ k = x := ⟨_, rfl⟩
    have hd : u / 2 ^ (k + 1) = x / 2 := by rw [← hx, Nat.pow_succ, Nat.div_div_eq_div_mul]
    have hxl : x < 18446744073709551616 := by rw [← hx]; exact Nat.lt_of_le_of_lt (Nat.div_le_self _ _) h2
    have h64 : 0 < x → k < 64 := fun h => by
      rcases Nat.lt_or_ge k 64 with h' | h'
      · exact h'
      · rw [pow_le_64 u k h2 h'] at hx; omega
    rw [hx]
    have HX := hid hx
    have HD := hid hd
    have HP := hid hp
    have H64 := hid h64
    clear hx hd hp h64
    by_cases hz : 0 < x
    · have hkk := H64.out hz
      go_wp2
      go_round
      case rel => exact ⟨k + 1, by omega, by rw [HD.out]; go_num, by go_num, .inr (by rw [Nat.add_sub_cancel, HX.out]; omega)⟩
      case measure => simp [intOf]; omega
    · have hx0 : x ≤ 0 := by omega
      go_wp2
      go_ret
      exact ⟨⟨_, rfl, lg_done u k hk (by rw [HX.out]; omega) HP.out⟩, rfl⟩
end Go.Proofs.Ytkdggpjlafecgaa
