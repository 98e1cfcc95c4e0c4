/-
  THE CONTRACT OF THE REFERENCE's Uvarint: it returns 'uvOut' of the bytes. For every slice of bytes and every index.
-/
import Derived.Test.YtkdggpjlafecgaaUv
namespace Go.Proofs.Ytkdggpjlafecgaa
open Go.RowKit

set_option maxRecDepth 100000 in
set_option maxHeartbeats 1000000 in
theorem ruv_neg (A : Option Addr) (n c : Nat) (at' : Int) (w : World) (h : at' < 0) :
    Calls Try.prog 34 #[.slice A n c, .int .i64 at'] w fun e w' => e = .returned (.tuple #[.int .u64 0, .int .i64 0, .int .i64 1]) ∧ w = w' := by
  go_enter Try.func34, Try.ntmps34
  go_wp2
  go_ret3
  exact ⟨rfl, rfl⟩
set_option maxRecDepth 100000 in
set_option maxHeartbeats 1000000 in
theorem ruv_far (A : Option Addr) (n c : Nat) (at' : Int) (w : World) (h : (n : Int) < at') :
    Calls Try.prog 34 #[.slice A n c, .int .i64 at'] w fun e w' => e = .returned (.tuple #[.int .u64 0, .int .i64 0, .int .i64 1]) ∧ w = w' := by
  have h0 : 0 ≤ at' := by omega
  go_enter Try.func34, Try.ntmps34
  go_wp2
  go_ret3
  exact ⟨rfl, rfl⟩
theorem pow_step56 (k : Nat) (h : k ≤ 8) : (128 : Int) ^ k ≤ 72057594037927936 := by
  rcases (by omega : k = 0 ∨ k = 1 ∨ k = 2 ∨ k = 3 ∨ k = 4 ∨ k = 5 ∨ k = 6 ∨ k = 7 ∨ k = 8) with rfl | rfl | rfl | rfl | rfl | rfl | rfl | rfl | rfl <;> decide
set_option maxRecDepth 100000 in
set_option maxHeartbeats 2000000 in
theorem ruv_in (A : Option Addr) (n c at' : Nat) (zs : List Int) (w : World) (v n' e' : Int) (hb : n ≤ 9223372036854775807) (hat : at' ≤ n) (hA : Byt w A n zs) (hr : uvOut zs at' = (v, n', e')) :
    Calls Try.prog 34 #[.slice A n c, .int .i64 at'] w fun e w' => e = .returned (.tuple #[.int .u64 v, .int .i64 n', .int .i64 e']) ∧ w = w' := by
  have hl := hA.1
  rw [uvOut_at zs at' (by omega)] at hr
  have hs0 : uvS at' zs (v, n', e') 0 0 := ⟨hr, by omega, by decide, by omega⟩
  have HS0 := hid hs0
  have HA := hid hA
  have HL := hid hl
  clear hA hr hs0 hl
  go_enter Try.func34, Try.ntmps34
  go_wp2
  go_loop [7, 8, 9] (fun u U i => ∃ (k : Nat) (x y : Int), k ≤ n - at' ∧ Hid (uvS at' zs (v, n', e') k x) ∧ u = .int .u64 x ∧ U = .int .u64 y ∧ Hid (y = 128 ^ k) ∧ i = .int .i64 k) (fun _ _ i => n - at' - (intOf i).toNat)
  case atStart => exact ⟨0, 0, 1, by omega, HS0, rfl, rfl, hid (by decide), rfl⟩
  case round =>
    obtain ⟨k, x, y, hk, hs, rfl, rfl, hy, rfl⟩ := hrel
    have hk9 : k ≤ 9 := hs.out.2.2.2
    obtain ⟨hx0, hx1⟩ := uvS_x hs.out
    have hy0 : 1 ≤ y := by rw [hy.out]; have := pow_pos128 k; omega
    have hy1 : y ≤ 9223372036854775808 := by rw [hy.out]; exact pow9 k hk9
    by_cases hlt : k < n - at'
    · obtain ⟨b, off, rfl, hbl, hcc⟩ := HA.out.2.2 (by omega)
      obtain ⟨z, hz⟩ : ∃ z, z = zs.getD (at' + k) 0 := ⟨_, rfl⟩
      have hck : w.cell? ⟨b, off + (at' + k), none⟩ = some (.int .u8 z) := by rw [hz]; exact hcc (at' + k) (by omega)
      have hzr : 0 ≤ z ∧ z ≤ 255 := by rw [hz]; exact HA.out.2.1 (at' + k) (by omega)
      obtain ⟨hz0, hz255⟩ := hzr
      have HZ := hid hz
      have HK := hid (show at' + k < zs.length by rw [HL.out]; omega)
      have hfull : (((at' : Int) + k) == (n : Int)) = false := by simp; omega
      clear hz hcc hbl
      by_cases hbad : (k = 9 ∧ 1 < z) ∨ (0 < k ∧ z = 0)
      · have HE := hid (uvS_bad hs.out HK.out (by rw [← HZ.out]; exact hbad))
        rcases hbad with ⟨hk', hz'⟩ | ⟨hk', hz'⟩
        · subst hk'
          go_wp2
          go_ret3
          exact ⟨ret3u HE.out.symm, rfl⟩
        · subst hz'
          by_cases h9 : k = 9
          · subst h9
            go_wp2
            go_ret3
            exact ⟨ret3u HE.out.symm, rfl⟩
          · have h9' : k ≤ 8 := by omega
            have hn9 : ((k : Int) == 9) = false := by simp; omega
            clear h9
            go_wp2
            go_ret3
            exact ⟨ret3u HE.out.symm, rfl⟩
      · have h9z : k = 9 → z ≤ 1 := fun e => by by_cases h1 : 1 < z; exact absurd (.inl ⟨e, h1⟩) hbad; omega
        have HOR := hid (uv_add x z k hs.out.2.1 hs.out.2.2.1 hz0 hz255 hk9 h9z)
        rw [← hy.out] at HOR
        by_cases hz128 : z < 128
        · have HE := hid (uvS_done hs.out HK.out (by rw [← HZ.out]; exact hbad) (by rw [← HZ.out]; exact hz128))
          have HF : Hid ((IntKind.u64.wrap (x + IntKind.u64.wrap (y * (z % 128))), (at' : Int) + k + 1, (0 : Int)) = (v, n', e')) := by
            refine hid ?_
            rw [HE.out, HOR.out, ← HZ.out, show z % 128 = z by omega, hy.out]
          by_cases h9 : k = 9
          · subst h9
            have hz1 : z = 1 := by have := h9z rfl; by_cases h0 : z = 0; exact absurd (.inr ⟨by omega, h0⟩) hbad; omega
            clear h9z hbad HOR
            subst hz1
            have HF9 : Hid ((x + y, (at' : Int) + 9 + 1, (0 : Int)) = (v, n', e')) := hid (by
              rw [← HF.out, IntKind.wrap_u64, IntKind.wrap_u64]
              have e1 : (x + y * (1 % 128) % 18446744073709551616) % 18446744073709551616 = x + y := by omega
              rw [e1]; rfl)
            go_wp2
            go_ret3
            exact ⟨ret3u HF9.out, rfl⟩
          · have hn9 : ((k : Int) == 9) = false := by simp; omega
            have h9' : k ≤ 8 := by omega
            by_cases h0 : k = 0
            · subst h0
              have HF0 : Hid ((IntKind.u64.wrap (x + IntKind.u64.wrap (y * (z % 128))), (at' : Int) + 1, (0 : Int)) = (v, n', e')) := hid (by have := HF.out; simpa using this)
              have hck0 : w.cell? ⟨b, off + at', none⟩ = some (.int .u8 z) := hck
              have hfull0 : ((at' : Int) == (n : Int)) = false := by simp; omega
              clear h9 h9z hbad HOR hck hfull
              go_wp2
              go_ret3
              exact ⟨ret3u HF0.out, rfl⟩
            · have h0' : 0 < k := by omega
              have hzp : 0 < z := by by_cases h0 : z = 0; exact absurd (.inr ⟨h0', h0⟩) hbad; omega
              have hzn : (z == 0) = false := by simp; omega
              clear h9 h9z hbad HOR h0
              go_wp2
              go_ret3
              exact ⟨ret3u HF.out, rfl⟩
        · have hz128' : 128 ≤ z := by omega
          have hnx := uvS_next hs.out HK.out (by rw [← HZ.out]; exact hbad) (by rw [← HZ.out]; exact hz128') (by rw [← HZ.out]; exact hz255)
          rw [← HZ.out] at hnx
          have hk8 := hnx.1
          have HN := hid hnx.2
          have hn9 : ((k : Int) == 9) = false := by simp; omega
          have hy56 : y ≤ 72057594037927936 := by rw [hy.out]; exact pow_step56 k (by omega)
          have HE : Hid (IntKind.u64.wrap (x + IntKind.u64.wrap (y * (z % 128))) = x + (z - 128) * 128 ^ k) := by
            refine hid ?_
            rw [HOR.out, show z % 128 = z - 128 by omega, hy.out]
          have HY2 : Hid (y * 128 = 128 ^ (k + 1)) := hid (by rw [hy.out, Int.pow_succ])
          clear hnx h9z hbad HOR hz128
          by_cases h0 : k = 0
          · subst h0
            have hck0 : w.cell? ⟨b, off + at', none⟩ = some (.int .u8 z) := hck
            have hfull0 : ((at' : Int) == (n : Int)) = false := by simp; omega
            clear hck hfull
            go_wp2
            go_round
            case rel => exact ⟨1, _, _, by omega, HN, by rw [HE.out], rfl, hid (by rw [HY2.out]), rfl⟩
            case measure => simp [intOf]; omega
          · have h0' : 0 < k := by omega
            have hzn : (z == 0) = false := by simp; omega
            clear h0
            go_wp2
            go_round
            case rel => exact ⟨k + 1, _, _, by omega, HN, by rw [HE.out], rfl, HY2, by go_num⟩
            case measure => simp [intOf]; omega
    · have HE := hid (uvS_end hs.out (by rw [HL.out]; omega))
      have hfull : (((at' : Int) + k) == (n : Int)) = true := by simp; omega
      go_wp2
      go_ret3
      exact ⟨ret3u HE.out.symm, rfl⟩

theorem ruv_any (A : Option Addr) (n c : Nat) (zs : List Int) (at' : Int) (w : World) (v n' e' : Int) (hA : Byt w A n zs) (hb : n ≤ 9223372036854775807) (hr : uvOut zs at' = (v, n', e')) :
    Calls Try.prog 34 #[.slice A n c, .int .i64 at'] w fun e w' => e = .returned (.tuple #[.int .u64 v, .int .i64 n', .int .i64 e']) ∧ w = w' := by
  have hl := hA.1
  by_cases h1 : at' < 0
  · rw [uvOut_inv (.inl h1)] at hr
    refine (ruv_neg A n c at' w h1).mono fun e w' ⟨he, hw⟩ => ⟨?_, hw⟩
    rw [he]; exact ret3u hr
  · by_cases h2 : (n : Int) < at'
    · rw [uvOut_inv (.inr (by omega))] at hr
      refine (ruv_far A n c at' w h2).mono fun e w' ⟨he, hw⟩ => ⟨?_, hw⟩
      rw [he]; exact ret3u hr
    · obtain ⟨k, rfl⟩ := Int.eq_ofNat_of_zero_le (show 0 ≤ at' by omega)
      exact ruv_in A n c k zs w v n' e' hb (by omega) hA hr
end Go.Proofs.Ytkdggpjlafecgaa
