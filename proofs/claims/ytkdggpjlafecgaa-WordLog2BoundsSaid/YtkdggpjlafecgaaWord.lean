/-
  THE CONTRACTS OF Word at 8 bytes, KeyBytes, and of 'awake'. For every number.
-/
import Derived.Test.YtkdggpjlafecgaaKey
namespace Go.Proofs.Ytkdggpjlafecgaa
open Go.RowKit

theorem RB.mk_new {w : World} {zs : List Int} {n : Nat} {cs : Array Value} (hn : n = zs.length) (hcs : cs = (bnum zs).toArray) (hm : zs.length ≤ maxLen) (hz : allB zs) : RB w zs (.returned (.slice (some ⟨w.heap.size, 0, none⟩) n n)) (w.alloc (.cells cs 5)) := by
  subst hn hcs
  have h := World.ownsRow_lit (base := w.heap.size) (e := 5) (size := 1) w (bnum zs).toArray zs.length (Nat.le_refl _) hm (by simp [bnum])
  exact RB.mk_own rfl h hz (Nat.le_refl _) ((Below.refl _ _).alloc (Nat.le_refl _) _)

set_option maxRecDepth 100000 in
set_option maxHeartbeats 4000000 in
theorem word8_any (x : Nat) (w : World) (hx : x < 18446744073709551616) :
    Calls Try.prog 35 #[.int .u64 x, .int .i64 8] w (RB w (kb x)) := by
  have hmk : ∀ w, (Instr.makeSlice 26 (.int .i64 8) (.int .i64 8)).run Try.prog w = .ok (.slice (some ⟨w.heap.size, 0, none⟩) 8 8) (w.alloc (.cells #[.int .u8 0, .int .u8 0, .int .u8 0, .int .u8 0, .int .u8 0, .int .u8 0, .int .u8 0, .int .u8 0] 5)) := fun _ => by kernel_rfl
  go_enter Try.func35, Try.ntmps35
  go_wp2
  refine wp_loop_rounds 9 ?_
  iterate 9 (rw [rounds_succ]; go_wp2)
  go_ret
  exact RB.mk_new (zs := kb x) rfl (by simp [bnum, kb]; omega) (by simp [kb, maxLen]) (kb_all x hx)

set_option maxRecDepth 100000 in
set_option maxHeartbeats 1000000 in
theorem keyBytes_any (k : Int) (w : World) (h1 : -9223372036854775808 ≤ k) (h2 : k ≤ 9223372036854775807) :
    Calls Try.prog 27 #[.int .i64 k] w (RB w (kb (kn k))) := by
  have HX := hid (kn_add k h1 h2)
  have HL := hid (kn_lt k h1 h2)
  clear h1 h2
  go_enter Try.func27, Try.ntmps27
  go_wp2_with fail
  rw [HX.out]
  refine (word8_any (kn k) w HL.out).mono ?_
  rintro e w1 ⟨A, cap, rfl, hcap, hB, hbel⟩
  go_wp2
  go_ret
  exact ⟨A, cap, rfl, hcap, hB, hbel⟩

/-! ### awake: the examples of the chapter -/
theorem kb0 : kb (kn 0) = [128, 0, 0, 0, 0, 0, 0, 0] := by decide
theorem vb300 : vb 300 = [172, 2] := by decide
theorem lg8 (r : Int) (h : lgOf 8 r) : r = 3 := by
  rcases h with ⟨h, _⟩ | ⟨k, rfl, hk, h⟩
  · omega
  · rcases (by omega : k ≤ 2 ∨ k = 3 ∨ 4 ≤ k) with h' | h' | h'
    · rcases (by omega : k = 0 ∨ k = 1 ∨ k = 2) with rfl | rfl | rfl <;> simp at h
    · rw [h']; rfl
    · have : 8 / 2 ^ k = 0 := Nat.div_eq_of_lt (Nat.lt_of_lt_of_le (by decide : 8 < 2 ^ 4) (Nat.pow_le_pow_right (by omega) h'))
      omega

theorem lg8_any (w : World) : Calls Try.prog 19 #[.int .u64 8] w fun e w' => e = .returned (.int .i64 3) ∧ w = w' :=
  (log2_any 8 w (by omega)).mono fun e w' ⟨⟨r, he, hr⟩, hw⟩ => ⟨by rw [he, lg8 r hr], hw⟩

set_option maxRecDepth 100000 in
set_option maxHeartbeats 2000000 in
theorem awake_any (w : World) : Calls Try.prog 15 #[] w fun e w' => e = .returned (.bool true) ∧ Below w.heap.size w w' := by
  go_enter Try.func15, Try.ntmps15
  go_wp2_with fail
  refine (appUv_any none 0 0 [] 300 w (Byt.nil _ _) (fun _ => rfl) (by omega) (by omega)).mono ?_
  rintro e w1 ⟨A, cap, rfl, hcap, hB, hbel⟩
  simp only [List.nil_append, vb300] at hcap hB ⊢
  obtain ⟨b, off, rfl, hbl, hc⟩ := hB.2.2 (by simp)
  have hc0 : w1.cell? ⟨b, off, none⟩ = some (.int .u8 172) := by simpa using hc 0 (by simp)
  have hc1 : w1.cell? ⟨b, off + 1, none⟩ = some (.int .u8 2) := by simpa using hc 1 (by simp)
  clear hc hB hbl
  go_wp2_with (first | (go_at_call 16; refine (zig_any _ _ (by omega) (by omega)).mono ?_; rintro e w' ⟨rfl, rfl⟩) | (go_at_call 23; refine (pack_any _ _ _ (by omega) (by omega) (by omega) (by omega)).mono ?_; rintro e w' ⟨rfl, rfl⟩))
  refine (lg8_any _).mono ?_
  rintro e w' ⟨rfl, rfl⟩
  go_wp2_with fail
  refine (appKey_any none 0 0 [] 0 _ (Byt.nil _ _) (fun _ => rfl) (by omega) (by omega) (by omega)).mono ?_
  rintro e w2 ⟨A, cap2, rfl, hcap2, hB2, hbel2⟩
  simp only [List.nil_append, kb0]
  clear hB2 hcap2
  go_wp2
  go_ret
  exact ⟨rfl, hbel.trans (hbel2.mono hbel.size)⟩
end Go.Proofs.Ytkdggpjlafecgaa
