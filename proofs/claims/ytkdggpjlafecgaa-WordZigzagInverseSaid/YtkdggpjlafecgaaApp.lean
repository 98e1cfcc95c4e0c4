/-
  THE CONTRACTS OF THE FUNCTIONS THAT MAKE BYTES: AppendUvarint, Varint, Join. Conditions: lengths below 2^47 (each argument's; the sum at Join).
-/
import Derived.Test.YtkdggpjlafecgaaFns
import Derived.Test.YtkdggpjlafecgaaMem
namespace Go.Proofs.Ytkdggpjlafecgaa
open Go.RowKit

theorem info5 : (Try.prog.info? 5).map (fun i => (i.zero, i.size, i.bytes)) = some (some (.int .u8 0), 1, 1) := by kernel_rfl

/-! ### varint: what is still to come -/
theorem vbf_small (f u : Nat) (h : u < 128) : vbf f u = [(u : Int)] := by cases f <;> simp [vbf, h]
theorem vbf_big (f u : Nat) (h : 128 ≤ u) : vbf (f + 1) u = ((u % 128 + 128 : Nat) : Int) :: vbf f (u / 128) := by simp [vbf, show ¬ u < 128 by omega]
theorem vbf_len (f u : Nat) : 1 ≤ (vbf f u).length ∧ (vbf f u).length ≤ f + 1 := by
  induction f generalizing u with
  | zero => simp [vbf]
  | succ f ih =>
    by_cases h : u < 128
    · rw [vbf_small _ _ h]; simp
    · rw [vbf_big _ _ (by omega)]; have := ih (u / 128); simp; omega
theorem vbf_all (f u : Nat) (hu : u < 2 ^ (7 * f + 7)) : allB (vbf f u) := by
  induction f generalizing u with
  | zero => intro z hz; simp [vbf] at hz; simp at hu; omega
  | succ f ih =>
    by_cases h : u < 128
    · rw [vbf_small _ _ h]; intro z hz; simp at hz; omega
    · rw [vbf_big _ _ (by omega)]
      intro z hz
      rcases List.mem_cons.1 hz with rfl | hz
      · omega
      · have e : 2 ^ (7 * (f + 1) + 7) = 2 ^ (7 * f + 7) * 128 := by rw [show 7 * (f + 1) + 7 = (7 * f + 7) + 7 by omega, Nat.pow_add (m := 7 * f + 7)]
        exact ih (u / 128) (by rw [Nat.div_lt_iff_lt_mul (by omega)]; omega) z hz
theorem vb_all (u : Nat) (hu : u < 18446744073709551616) : allB (vb u) := vbf_all 9 u (Nat.lt_of_lt_of_le hu (by decide))

/-- After k rounds: what has been written (d) and what is left (x). -/
def vSplit (u k : Nat) (d : List Int) (x : Nat) : Prop := k ≤ 9 ∧ d.length = k ∧ d ++ vbf (9 - k) x = vb u ∧ x < 2 ^ (64 - 7 * k)
theorem vSplit_start (u : Nat) (hu : u < 18446744073709551616) : vSplit u 0 [] u := ⟨by omega, rfl, rfl, by simpa using hu⟩
theorem vSplit_lt {u k : Nat} {d : List Int} {x : Nat} (h : vSplit u k d x) (hx : 128 ≤ x) : k < 9 := by
  obtain ⟨h1, _, _, h4⟩ := h
  rcases Nat.lt_or_ge k 9 with h9 | h9
  · exact h9
  · have : k = 9 := by omega
    subst this
    simp at h4; omega
theorem vSplit_step {u k : Nat} {d : List Int} {x : Nat} (h : vSplit u k d x) (hx : 128 ≤ x) : vSplit u (k + 1) (d ++ [((x % 128 + 128 : Nat) : Int)]) (x / 128) := by
  have hk := vSplit_lt h hx
  obtain ⟨h1, h2, h3, h4⟩ := h
  refine ⟨by omega, by simp [h2], ?_, ?_⟩
  · rw [← h3, List.append_assoc, show 9 - k = (9 - (k + 1)) + 1 by omega, vbf_big _ _ hx]; rfl
  · rw [Nat.div_lt_iff_lt_mul (by omega)]
    have : 2 ^ (64 - 7 * k) = 2 ^ (64 - 7 * (k + 1)) * 128 := by rw [show 64 - 7 * k = (64 - 7 * (k + 1)) + 7 by omega, Nat.pow_add (m := 64 - 7 * (k + 1))]
    omega
theorem vSplit_end {u k : Nat} {d : List Int} {x : Nat} (h : vSplit u k d x) (hx : x < 128) : d ++ [(x : Int)] = vb u := by
  obtain ⟨h1, h2, h3, h4⟩ := h
  rw [← h3, vbf_small _ _ hx]
theorem vSplit_x {u k : Nat} {d : List Int} {x : Nat} (h : vSplit u k d x) : x < 18446744073709551616 :=
  Nat.lt_of_lt_of_le h.2.2.2 (show 2 ^ (64 - 7 * k) ≤ 2 ^ 64 from Nat.pow_le_pow_right (by omega) (by omega))

set_option maxRecDepth 100000 in
set_option maxHeartbeats 1000000 in
theorem appUv_any (A : Option Addr) (n c : Nat) (zs : List Int) (u : Nat) (w : World) (hA : Byt w A n zs) (hA0 : A = none → c = 0) (hn : n ≤ 140737488355328) (hu : u < 18446744073709551616) :
    Calls Try.prog 31 #[.slice A n c, .int .u64 u] w (RB w (zs ++ vb u)) := by
  obtain ⟨i0, hi, hz0, hz1, hz2⟩ := info_parts info5
  have hlen := hA.1
  have HL := hid hlen
  have hone := bnum_oneCell zs
  have HA0 := hid hA0
  have HZ := hid hA
  have hbl : (bnum zs).length = n * 1 := by simp [bnum, hlen]
  have HBL := hid hbl
  have hnn : A = none → n = 0 ∧ c = 0 := fun h => ⟨hA.none_zero h, hA0 h⟩
  have HNN := hid hnn
  clear hlen hA0 hA hbl hnn
  go_enter Try.func31, Try.ntmps31
  go_wp2_with (at_make; refine wpList_make_own _ rfl _ _ 26 rfl w.heap.size 5 i0 (.int .u8 0) 1 Try.underlying26 hi hz0 hz1 _ _ _ (n + 10) rfl rfl (by omega) ?b2 ?b3 (Nat.le_refl _) ?_)
  case b2 => rw [hz2]; omega
  case b3 => unfold maxLen; omega
  intro w0 hown0 hgrow0
  have hb0 : Below w.heap.size w w0 := (Below.refl _ _).grown hgrow0 (Nat.le_refl _) (fun k h => by cases h)
  go_wp2_with (at_builtin; refine wpList_append_fits_any _ rfl (.tmp 9) (.tmp 10) 26 rfl w.heap.size 5 i0 1 Try.underlying26 hi hz1 w.heap.size 0 (n + 10) _ rfl hown0 A n c (bnum zs) rfl HBL.out HNN.out (HZ.out.below hb0 (Nat.le_refl _)).src hone (by omega) ?_)
  intro w1 hown1 hgrow1
  have hb1 : Below w.heap.size w w1 := hb0.grown hgrow1 hb0.size (fun k h => by cases h; exact Nat.le_refl _)
  clear hb0 hown0 hgrow0 hgrow1
  go_wp2
  go_loopw [1, 5] (fun v out wr => ∃ (k : Nat) (d : List Int) (x : Nat), vSplit u k d x ∧ v = .int .u64 x ∧ out = .slice (some ⟨w.heap.size, 0, none⟩) (n + k) (n + 10) ∧
      wr.ownsRow w.heap.size 5 1 (.slice (some ⟨w.heap.size, 0, none⟩) (n + k) (n + 10)) (n + k) (bnum (zs ++ d)) ∧ Below w.heap.size w wr) (fun v _ _ => (intOf v).toNat)
  case atStart => exact ⟨0, [], u, vSplit_start u hu, rfl, rfl, by simpa using hown1, hb1⟩
  case round =>
    obtain ⟨k, d, x, hs, rfl, rfl, hown, hb⟩ := hrel
    have hx := vSplit_x hs
    have HS := hid hs
    have hk9 := hs.1
    clear hs hown1 hb1
    by_cases hx128 : 128 ≤ x
    · have hk := vSplit_lt HS.out hx128
      have HO := hid (or128 (x : Int))
      go_wp2_with (at_builtin; refine wpList_append_fits _ rfl (.tmp 14) (.tmp 18) 26 rfl w.heap.size 5 i0 1 Try.underlying26 hi hz1 w.heap.size (n + k) (n + 10) _ rfl (hown.alloc _) ⟨wr.heap.size, 0, none⟩ 1 1 [.int .u8 (bits .or .u8 ((x : Int) % 256) 128)] rfl rfl (cell_one_new _ _ _) (by intro u hu; simp at hu; subst hu; rfl) (by omega) ?_)
      intro w2 hown2 hgrow2
      have hb2 : Below w.heap.size w w2 := (hb.alloc hb.size _).grown hgrow2 (by have := hb.size; simp; omega) (fun k h => by cases h; exact Nat.le_refl _)
      rw [HO.out] at hown2
      clear hown hb hgrow2
      go_wp2
      go_roundw
      case rel => exact ⟨k + 1, _, x / 128, vSplit_step HS.out hx128, by go_num, rfl, by rw [← List.append_assoc, bnum_append]; simpa [bnum, Nat.add_assoc] using hown2, hb2⟩
      case measure => simp [intOf]; omega
    · have hxlt : x < 128 := by omega
      go_wp2_with (at_builtin; refine wpList_append_fits _ rfl (.tmp 22) (.tmp 25) 26 rfl w.heap.size 5 i0 1 Try.underlying26 hi hz1 w.heap.size (n + k) (n + 10) _ rfl (hown.alloc _) ⟨wr.heap.size, 0, none⟩ 1 1 [.int .u8 (x : Int)] rfl rfl (cell_one_new _ _ _) (by intro u hu; simp at hu; subst hu; rfl) (by omega) ?_)
      intro w2 hown2 hgrow2
      have hb2 : Below w.heap.size w w2 := (hb.alloc hb.size _).grown hgrow2 (by have := hb.size; simp; omega) (fun k h => by cases h; exact Nat.le_refl _)
      clear hown hb hgrow2
      go_wp2
      go_ret
      have hend := vSplit_end HS.out hxlt
      have hl : n + k + 1 = (zs ++ vb u).length := by rw [← hend]; simp [HL.out, HS.out.2.1]; omega
      refine RB.mk_own hl ?_ (HZ.out.all.append (vb_all u hu)) (by omega) hb2
      rw [← hend, ← List.append_assoc, bnum_append]
      exact hown2
end Go.Proofs.Ytkdggpjlafecgaa
