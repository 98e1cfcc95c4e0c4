/-
  THE CONTRACTS OF Varint, Join, Same (at equal bytes) and less. Conditions: lengths (the model's own bounds).
-/
import Derived.Test.YtkdggpjlafecgaaApp
namespace Go.Proofs.Ytkdggpjlafecgaa
open Go.RowKit

theorem take_more (zs : List Int) (i : Nat) (h : i < zs.length) : zs.take (i + 1) = zs.take i ++ [zs.getD i 0] := by
  rw [List.take_succ_eq_append_getElem h]
  simp [List.getD, h]

set_option maxRecDepth 100000 in
set_option maxHeartbeats 1000000 in
theorem varint_any (u : Nat) (w : World) (hu : u < 18446744073709551616) :
    Calls Try.prog 32 #[.int .u64 u] w (RB w (vb u)) := by
  obtain ⟨i0, hi, hz0, hz1, hz2⟩ := info_parts info5
  go_enter Try.func32, Try.ntmps32
  go_wp2
  go_loopw [0, 3] (fun v out wr => ∃ (k : Nat) (d : List Int) (x : Nat), vSplit u k d x ∧ v = .int .u64 x ∧
      wr.ownsRow w.heap.size 5 1 out k (bnum d) ∧ Below w.heap.size w wr) (fun v _ _ => (intOf v).toNat)
  case atStart => exact ⟨0, [], u, vSplit_start u hu, rfl, World.ownsRow_nil _ _ _ _, Below.refl _ _⟩
  case round =>
    obtain ⟨k, d, x, hs, rfl, hown, hb⟩ := hrel
    have hx := vSplit_x hs
    have HS := hid hs
    have hk9 := hs.1
    clear hs
    have hrow : ∀ k0, u3.ownBlock = some k0 → w.heap.size ≤ k0 := fun k0 h => (hown.lt k0 h).1
    have HR := hid hrow
    clear hrow
    by_cases hx128 : 128 ≤ x
    · have hk := vSplit_lt HS.out hx128
      go_wp2_with (at_builtin; refine wpList_append_own _ rfl (.tmp 6) (.tmp 11) 26 rfl w.heap.size 5 i0 (.int .u8 0) 1 1 Try.underlying26 hi hz0 hz1 hz2 rfl (by decide) u3 k _ rfl (hown.alloc _) ⟨wr.heap.size, 0, none⟩ 1 1 [.int .u8 ((x : Int) % 128 + 128)] rfl rfl (cell_one_new _ _ _) (by intro u hu; simp at hu; subst hu; rfl) (by unfold maxLen; omega) (by omega) (by have := hb.size; simp; omega) ?_)
      intro v2 w2 hown2 hgrow2 _
      have hb2 : Below w.heap.size w w2 := (hb.alloc hb.size _).grown hgrow2 (by have := hb.size; simp; omega) HR.out
      clear hown hb hgrow2
      go_wp2
      go_roundw
      case rel => exact ⟨k + 1, _, x / 128, vSplit_step HS.out hx128, by go_num, by rw [bnum_append]; simpa [bnum] using hown2, hb2⟩
      case measure => simp [intOf]; omega
    · have hxlt : x < 128 := by omega
      go_wp2_with (at_builtin; refine wpList_append_own _ rfl (.tmp 15) (.tmp 18) 26 rfl w.heap.size 5 i0 (.int .u8 0) 1 1 Try.underlying26 hi hz0 hz1 hz2 rfl (by decide) u3 k _ rfl (hown.alloc _) ⟨wr.heap.size, 0, none⟩ 1 1 [.int .u8 (x : Int)] rfl rfl (cell_one_new _ _ _) (by intro u hu; simp at hu; subst hu; rfl) (by unfold maxLen; omega) (by omega) (by have := hb.size; simp; omega) ?_)
      intro v2 w2 hown2 hgrow2 _
      have hb2 : Below w.heap.size w w2 := (hb.alloc hb.size _).grown hgrow2 (by have := hb.size; simp; omega) HR.out
      clear hown hb hgrow2
      go_wp2
      go_ret
      have hend := vSplit_end HS.out hxlt
      have hl : k + 1 = (vb u).length := by rw [← hend]; simp [HS.out.2.1]
      refine RB.mk_any hl ?_ (vb_all u hu) hb2
      rw [← hend, bnum_append]
      exact hown2

set_option maxRecDepth 100000 in
set_option maxHeartbeats 2000000 in
theorem join_any (A : Option Addr) (n c : Nat) (zs : List Int) (B : Option Addr) (m d : Nat) (ys : List Int) (w : World) (hA : Byt w A n zs) (hB : Byt w B m ys) (hn : n + m ≤ 281474976710656) :
    Calls Try.prog 26 #[.slice A n c, .slice B m d] w (RB w (zs ++ ys)) := by
  obtain ⟨i0, hi, hz0, hz1, hz2⟩ := info_parts info5
  have HA := hid hA
  have HB := hid hB
  clear hA hB
  go_enter Try.func26, Try.ntmps26
  go_wp2_with (at_make; refine wpList_make_own _ rfl _ _ 26 rfl w.heap.size 5 i0 (.int .u8 0) 1 Try.underlying26 hi hz0 hz1 _ _ _ (n + m) rfl rfl (by omega) ?b2 ?b3 (Nat.le_refl _) ?_)
  case b2 => rw [hz2]; omega
  case b3 => unfold maxLen; omega
  intro w0 hown0 hgrow0
  have hb0 : Below w.heap.size w w0 := (Below.refl _ _).grown hgrow0 (Nat.le_refl _) (fun k h => by cases h)
  clear hgrow0
  go_wp2
  go_loopw [5, 6] (fun out i wr => ∃ k : Nat, k ≤ n ∧ i = .int .i64 k ∧ out = .slice (some ⟨w.heap.size, 0, none⟩) k (n + m) ∧
      wr.ownsRow w.heap.size 5 1 (.slice (some ⟨w.heap.size, 0, none⟩) k (n + m)) k (bnum (zs.take k)) ∧ Below w.heap.size w wr) (fun _ i _ => n - (intOf i).toNat)
  case atStart => exact ⟨0, Nat.zero_le _, rfl, rfl, by simpa [bnum] using hown0, hb0⟩
  case round =>
    obtain ⟨k, hk, rfl, rfl, hown, hb⟩ := hrel
    clear hown0 hb0
    by_cases hlt : k < n
    · obtain ⟨b, off, hAe, hbl, hc⟩ := HA.out.2.2 (by omega)
      subst hAe
      obtain ⟨z, hz⟩ : ∃ z, z = zs.getD k 0 := ⟨_, rfl⟩
      have hck : wr.cell? ⟨b, off + k, none⟩ = some (.int .u8 z) := by rw [hz]; exact (hb.cell (by exact hbl)).trans (hc k hlt)
      have HZ := hid hz
      clear hz hc hbl
      go_wp2_with (at_builtin; refine wpList_append_fits _ rfl (.tmp 20) (.tmp 25) 26 rfl w.heap.size 5 i0 1 Try.underlying26 hi hz1 w.heap.size k (n + m) _ rfl (hown.alloc _) ⟨wr.heap.size, 0, none⟩ 1 1 [.int .u8 z] rfl rfl (cell_one_new _ _ _) (by intro u hu; simp at hu; subst hu; rfl) (by omega) ?_)
      intro w2 hown2 hgrow2
      have hb2 : Below w.heap.size w w2 := (hb.alloc hb.size _).grown hgrow2 (by have := hb.size; simp; omega) (fun k h => by cases h; exact Nat.le_refl _)
      clear hown hb hgrow2 hck
      go_wp2
      go_roundw
      case rel => exact ⟨k + 1, by omega, by go_num, rfl, by rw [take_more zs k (by rw [HA.out.1]; omega), bnum_append, ← HZ.out]; simpa [bnum] using hown2, hb2⟩
      case measure => simp [intOf]; omega
    · have hkn : k = n := by omega
      subst hkn
      have hown' : wr.ownsRow w.heap.size 5 1 (.slice (some ⟨w.heap.size, 0, none⟩) k (k + m)) k (bnum zs) := by
        rw [List.take_of_length_le (by rw [HA.out.1]; omega)] at hown
        exact hown
      clear hown hk
      go_wp2
      go_loopw [5, 7] (fun out i wr => ∃ j : Nat, j ≤ m ∧ i = .int .i64 j ∧ out = .slice (some ⟨w.heap.size, 0, none⟩) (k + j) (k + m) ∧
          wr.ownsRow w.heap.size 5 1 (.slice (some ⟨w.heap.size, 0, none⟩) (k + j) (k + m)) (k + j) (bnum (zs ++ ys.take j)) ∧ Below w.heap.size w wr) (fun _ i _ => m - (intOf i).toNat)
      case atStart => exact ⟨0, Nat.zero_le _, rfl, rfl, by simpa [bnum] using hown', hb⟩
      case round =>
        clear hown' hb
        obtain ⟨j, hj, rfl, rfl, hown, hb⟩ := hrel
        by_cases hlt : j < m
        · obtain ⟨b, off, hBe, hbl, hc⟩ := HB.out.2.2 (by omega)
          subst hBe
          obtain ⟨z, hz⟩ : ∃ z, z = ys.getD j 0 := ⟨_, rfl⟩
          have hck : wr.cell? ⟨b, off + j, none⟩ = some (.int .u8 z) := by rw [hz]; exact (hb.cell (by exact hbl)).trans (hc j hlt)
          have HZ := hid hz
          clear hz hc hbl
          go_wp2_with (at_builtin; refine wpList_append_fits _ rfl (.tmp 33) (.tmp 38) 26 rfl w.heap.size 5 i0 1 Try.underlying26 hi hz1 w.heap.size (k + j) (k + m) _ rfl (hown.alloc _) ⟨wr.heap.size, 0, none⟩ 1 1 [.int .u8 z] rfl rfl (cell_one_new _ _ _) (by intro u hu; simp at hu; subst hu; rfl) (by omega) ?_)
          intro w2 hown2 hgrow2
          have hb2 : Below w.heap.size w w2 := (hb.alloc hb.size _).grown hgrow2 (by have := hb.size; simp; omega) (fun k h => by cases h; exact Nat.le_refl _)
          clear hown hb hgrow2 hck
          go_wp2
          go_roundw
          case rel => exact ⟨j + 1, by omega, by go_num, rfl, by rw [take_more ys j (by rw [HB.out.1]; omega), ← List.append_assoc, bnum_append, ← HZ.out]; simpa [bnum, Nat.add_assoc] using hown2, hb2⟩
          case measure => simp [intOf]; omega
        · have hjm : j = m := by omega
          subst hjm
          have hown' := hown
          rw [List.take_of_length_le (by rw [HB.out.1]; omega)] at hown'
          clear hown
          go_wp2
          go_ret
          exact RB.mk_own (by simp [HA.out.1, HB.out.1]) hown' (HA.out.all.append HB.out.all) (by omega) hb
end Go.Proofs.Ytkdggpjlafecgaa
