/-
  THE CONTRACTS OF Uvarint, the program's and the reference's: both return 'uvOut' of the bytes. For every slice of bytes and every index.
-/
import Derived.Test.YtkdggpjlafecgaaUvp
import Derived.Test.YtkdggpjlafecgaaRead
namespace Go.Proofs.Ytkdggpjlafecgaa
open Go.RowKit

theorem ret3u {a b c a' b' c' : Int} (h : (a, b, c) = (a', b', c')) : Ending.returned (.tuple #[.int .u64 a, .int .i64 b, .int .i64 c]) = .returned (.tuple #[.int .u64 a', .int .i64 b', .int .i64 c']) := by
  simp only [Prod.mk.injEq] at h
  obtain ⟨rfl, rfl, rfl⟩ := h
  rfl

/-- The bounds of the index fail. -/
theorem uvOut_inv {zs : List Int} {at' : Int} (h : at' < 0 ∨ (zs.length : Int) < at') : uvOut zs at' = (0, 0, 1) := by unfold uvOut; rw [if_pos h]
theorem uvOut_at (zs : List Int) (k : Nat) (h : k ≤ zs.length) : uvOut zs k = uvr k 0 0 (zs.drop k) := by unfold uvOut; rw [if_neg (by omega)]; rfl

set_option maxRecDepth 100000 in
set_option maxHeartbeats 1000000 in
theorem uv_neg (A : Option Addr) (n c : Nat) (at' : Int) (w : World) (h : at' < 0) :
    Calls Try.prog 33 #[.slice A n c, .int .i64 at'] w fun e w' => e = .returned (.tuple #[.int .u64 0, .int .i64 0, .int .i64 1]) ∧ w = w' := by
  go_enter Try.func33, Try.ntmps33
  go_wp2
  go_ret3
  exact ⟨rfl, rfl⟩
set_option maxRecDepth 100000 in
set_option maxHeartbeats 1000000 in
theorem uv_far (A : Option Addr) (n c : Nat) (at' : Int) (w : World) (h : (n : Int) < at') :
    Calls Try.prog 33 #[.slice A n c, .int .i64 at'] w fun e w' => e = .returned (.tuple #[.int .u64 0, .int .i64 0, .int .i64 1]) ∧ w = w' := by
  have h0 : 0 ≤ at' := by omega
  go_enter Try.func33, Try.ntmps33
  go_wp2
  go_ret3
  exact ⟨rfl, rfl⟩
set_option maxRecDepth 100000 in
set_option maxHeartbeats 1000000 in
theorem uv_end (A : Option Addr) (n c : Nat) (w : World) (_hc : n ≤ c) (_hb : n ≤ 9223372036854775807) :
    Calls Try.prog 33 #[.slice A n c, .int .i64 n] w fun e w' => e = .returned (.tuple #[.int .u64 0, .int .i64 0, .int .i64 12]) ∧ w = w' := by
  go_enter Try.func33, Try.ntmps33
  go_wp2
  all_goals (refine wp_loop_rounds 1 ?_; rw [rounds_succ]; go_wp2)
  all_goals go_ret3
  all_goals exact ⟨rfl, rfl⟩
set_option maxRecDepth 100000 in
set_option maxHeartbeats 2000000 in
theorem uv_in (b off n c at' : Nat) (zs : List Int) (w : World) (v n' e' : Int) (hc : n ≤ c) (hb : n ≤ 9223372036854775807) (hat : at' < n) (hA : Byt w (some ⟨b, off, none⟩) n zs) (hr : uvOut zs at' = (v, n', e')) :
    Calls Try.prog 33 #[.slice (some ⟨b, off, none⟩) n c, .int .i64 at'] w fun e w' => e = .returned (.tuple #[.int .u64 v, .int .i64 n', .int .i64 e']) ∧ w = w' := by
  have hl := hA.1
  rw [uvOut_at zs at' (by omega)] at hr
  have hs0 : uvS at' zs (v, n', e') 0 0 := ⟨hr, by omega, by decide, by omega⟩
  have HS0 := hid hs0
  have HA := hid hA
  have HL := hid hl
  clear hA hr hs0 hl
  go_enter Try.func33, Try.ntmps33
  go_wp2
  go_loop [7, 22] (fun u i => ∃ (k : Nat) (x : Int), k ≤ n - at' ∧ Hid (uvS at' zs (v, n', e') k x) ∧ u = .int .u64 x ∧ i = .int .i64 k) (fun _ i => n - at' - (intOf i).toNat)
  case atStart => exact ⟨0, 0, by omega, HS0, rfl, rfl⟩
  case round =>
    obtain ⟨k, x, hk, hs, rfl, rfl⟩ := hrel
    have hk9 : k ≤ 9 := hs.out.2.2.2
    obtain ⟨hx0, hx1⟩ := uvS_x hs.out
    by_cases hlt : k < n - at'
    · obtain ⟨z, hz⟩ : ∃ z, z = zs.getD (at' + k) 0 := ⟨_, rfl⟩
      have hck : w.cell? ⟨b, off + at' + k, none⟩ = some (.int .u8 z) := by
        obtain ⟨b1, off1, e1, _, hcc⟩ := HA.out.2.2 (by omega)
        injection e1 with e1; injection e1 with e1 e2; subst e1; subst e2
        rw [hz, Nat.add_assoc]; exact hcc (at' + k) (by omega)
      have hzr : 0 ≤ z ∧ z ≤ 255 := by rw [hz]; exact HA.out.2.1 (at' + k) (by omega)
      obtain ⟨hz0, hz255⟩ := hzr
      have HZ := hid hz
      have HK := hid (show at' + k < zs.length by rw [HL.out]; omega)
      clear hz
      by_cases hbad : (k = 9 ∧ 1 < z) ∨ (0 < k ∧ z = 0)
      · have HE := hid (uvS_bad hs.out HK.out (by rw [← HZ.out]; exact hbad))
        rcases hbad with ⟨hk', hz'⟩ | ⟨hk', hz'⟩
        · subst hk'
          go_wp2
          go_ret3
          exact ⟨ret3u HE.out.symm, rfl⟩
        · have H0 := hid hz'
          subst hz'
          by_cases h9 : k = 9
          · subst h9
            go_wp2
            go_ret3
            exact ⟨ret3u HE.out.symm, rfl⟩
          · have h9' : k ≤ 8 := by omega
            have hn9 : ((k : Int) == 9) = false := by simp; omega
            clear h9
            go_wp2
            go_ret3
            exact ⟨ret3u HE.out.symm, rfl⟩
      · have h9z : k = 9 → z ≤ 1 := fun e => by by_cases h1 : 1 < z; exact absurd (.inl ⟨e, h1⟩) hbad; omega
        have HOR := hid (uv_or x z k hs.out.2.1 hs.out.2.2.1 hz0 hz255 hk9 h9z)
        by_cases hz128 : z < 128
        · have HE := hid (uvS_done hs.out HK.out (by rw [← HZ.out]; exact hbad) (by rw [← HZ.out]; exact hz128))
          have HF : Hid ((bits .or .u64 x (IntKind.u64.wrap (IntKind.u64.wrap (bits .and .u8 z 127) * 2 ^ (7 * k))), (at' : Int) + k + 1, (0 : Int)) = (v, n', e')) := by
            refine hid ?_
            rw [HE.out, HOR.out, ← HZ.out, show z % 128 = z by omega]
          by_cases h9 : k = 9
          · subst h9
            have hz1 : z = 1 := by have := h9z rfl; by_cases h0 : z = 0; exact absurd (.inr ⟨by omega, h0⟩) hbad; omega
            clear h9z hbad HOR
            subst hz1
            go_wp2
            go_ret3
            exact ⟨ret3u HF.out, rfl⟩
          · have hn9 : ((k : Int) == 9) = false := by simp; omega
            have h9' : k ≤ 8 := by omega
            by_cases h0 : k = 0
            · subst h0
              have hck0 : w.cell? ⟨b, off + at', none⟩ = some (.int .u8 z) := hck
              have HF0 : Hid ((bits .or .u64 x (IntKind.u64.wrap (IntKind.u64.wrap (bits .and .u8 z 127))), (at' : Int) + 1, (0 : Int)) = (v, n', e')) := hid (by have := HF.out; simpa using this)
              clear h9 h9z hbad HOR hck
              go_wp2
              go_ret3
              exact ⟨ret3u HF0.out, rfl⟩
            · have h0' : 0 < k := by omega
              have hzp : 0 < z := by by_cases h0 : z = 0; exact absurd (.inr ⟨h0', h0⟩) hbad; omega
              have hzn : (z == 0) = false := by simp; omega
              clear h9 h9z hbad HOR h0
              go_wp2
              go_ret3
              exact ⟨ret3u HF.out, rfl⟩
        · have hz128' : 128 ≤ z := by omega
          have hnx := uvS_next hs.out HK.out (by rw [← HZ.out]; exact hbad) (by rw [← HZ.out]; exact hz128') (by rw [← HZ.out]; exact hz255)
          rw [← HZ.out] at hnx
          have hk8 := hnx.1
          have HN := hid hnx.2
          have hn9 : ((k : Int) == 9) = false := by simp; omega
          have HE : Hid (bits .or .u64 x (IntKind.u64.wrap (IntKind.u64.wrap (bits .and .u8 z 127) * 2 ^ (7 * k))) = x + (z - 128) * 128 ^ k) := by
            refine hid ?_
            rw [HOR.out, show z % 128 = z - 128 by omega]
          clear hnx h9z hbad HOR hz128
          by_cases h0 : k = 0
          · subst h0
            have hck0 : w.cell? ⟨b, off + at', none⟩ = some (.int .u8 z) := hck
            have HE0 : Hid (bits .or .u64 x (IntKind.u64.wrap (IntKind.u64.wrap (bits .and .u8 z 127))) = x + (z - 128) * 128 ^ 0) := hid (by have := HE.out; simpa using this)
            clear hck
            go_wp2
            go_round
            case rel => exact ⟨1, _, by omega, HN, by rw [HE0.out], rfl⟩
            case measure => simp [intOf]; omega
          · have h0' : 0 < k := by omega
            have hzn : (z == 0) = false := by simp; omega
            clear h0
            go_wp2
            go_round
            case rel => exact ⟨k + 1, _, by omega, HN, by rw [HE.out], by go_num⟩
            case measure => simp [intOf]; omega
    · have HE := hid (uvS_end hs.out (by rw [HL.out]; omega))
      go_wp2
      go_ret3
      exact ⟨ret3u HE.out.symm, rfl⟩

theorem uv_any (A : Option Addr) (n c : Nat) (zs : List Int) (at' : Int) (w : World) (v n' e' : Int) (hA : Byt w A n zs) (hc : n ≤ c) (hb : n ≤ 9223372036854775807) (hr : uvOut zs at' = (v, n', e')) :
    Calls Try.prog 33 #[.slice A n c, .int .i64 at'] w fun e w' => e = .returned (.tuple #[.int .u64 v, .int .i64 n', .int .i64 e']) ∧ w = w' := by
  have hl := hA.1
  by_cases h1 : at' < 0
  · rw [uvOut_inv (.inl h1)] at hr
    refine (uv_neg A n c at' w h1).mono fun e w' ⟨he, hw⟩ => ⟨?_, hw⟩
    rw [he]; exact ret3u hr
  · by_cases h2 : (n : Int) < at'
    · rw [uvOut_inv (.inr (by omega))] at hr
      refine (uv_far A n c at' w h2).mono fun e w' ⟨he, hw⟩ => ⟨?_, hw⟩
      rw [he]; exact ret3u hr
    · obtain ⟨k, rfl⟩ := Int.eq_ofNat_of_zero_le (show 0 ≤ at' by omega)
      by_cases h3 : k = n
      · subst h3
        rw [uvOut_at zs k (by omega), List.drop_eq_nil_of_le (by omega)] at hr
        refine (uv_end A k c w hc hb).mono fun e w' ⟨he, hw⟩ => ⟨?_, hw⟩
        rw [he]; exact ret3u hr
      · obtain ⟨b, off, rfl, _⟩ := hA.2.2 (by omega)
        exact uv_in b off n c k zs w v n' e' hc hb (by omega) hA hr
end Go.Proofs.Ytkdggpjlafecgaa
