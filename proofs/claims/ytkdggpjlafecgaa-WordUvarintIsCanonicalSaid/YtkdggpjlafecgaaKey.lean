/-
  THE CONTRACTS OF Key (program and reference), AppendKey, Word at 8 bytes, KeyBytes. For every slice of bytes and every index; lengths below 2^47 where bytes are made.
-/
import Derived.Test.YtkdggpjlafecgaaRuv
namespace Go.Proofs.Ytkdggpjlafecgaa
open Go.RowKit

/-! ### plain -/
def bval (l : List Int) : Int := l.foldl (fun a d => 256 * a + d) 0
theorem bval_snoc (l : List Int) (d : Int) : bval (l ++ [d]) = 256 * bval l + d := by simp [bval]
theorem bval_rev (l : List Int) (h : allB l) : 0 ≤ bval l.reverse ∧ bval l.reverse < 256 ^ l.length := by
  induction l with
  | nil => simp [bval]
  | cons d l ih =>
    have h1 := ih (fun z hz => h z (by simp [hz]))
    have h2 := h d (by simp)
    rw [List.reverse_cons, bval_snoc, List.length_cons]
    have : (256 : Int) ^ (l.length + 1) = 256 ^ l.length * 256 := Int.pow_succ ..
    omega
theorem bval_bd (l : List Int) (h : allB l) : 0 ≤ bval l ∧ bval l < 256 ^ l.length := by
  have := bval_rev l.reverse (fun z hz => h z (by simpa using hz))
  simpa using this

def kyOut (zs : List Int) (at' : Int) : Int × Int × Int :=
  if at' < 0 ∨ (zs.length : Int) < at' then (0, 0, 1) else if (zs.length : Int) - at' < 8 then (0, 0, 12) else (bval ((zs.drop at'.toNat).take 8) - 9223372036854775808, at' + 8, 0)

/-- After j of the 8 bytes. -/
def kyS (at' : Nat) (zs : List Int) (j : Nat) (x : Int) : Prop := x = bval ((zs.drop at').take j) ∧ j ≤ 8 ∧ at' + 8 ≤ zs.length ∧ allB zs
theorem kyS_bd {at' : Nat} {zs : List Int} {j : Nat} {x : Int} (h : kyS at' zs j x) : 0 ≤ x ∧ x < 256 ^ j := by
  obtain ⟨rfl, h1, h2, h3⟩ := h
  have hb := bval_bd ((zs.drop at').take j) (fun z hz => h3 z (List.mem_of_mem_drop (List.mem_of_mem_take hz)))
  have : ((zs.drop at').take j).length = j := by simp; omega
  rw [this] at hb
  exact hb
theorem pow256 (j : Nat) (h : j ≤ 7) : (256 : Int) ^ j ≤ 72057594037927936 := by
  rcases (by omega : j = 0 ∨ j = 1 ∨ j = 2 ∨ j = 3 ∨ j = 4 ∨ j = 5 ∨ j = 6 ∨ j = 7) with rfl | rfl | rfl | rfl | rfl | rfl | rfl | rfl <;> decide
theorem kyS_next {at' : Nat} {zs : List Int} {j : Nat} {x : Int} (h : kyS at' zs j x) (hj : j < 8) : kyS at' zs (j + 1) (256 * x + zs.getD (at' + j) 0) := by
  obtain ⟨rfl, h1, h2, h3⟩ := h
  refine ⟨?_, by omega, h2, h3⟩
  rw [take_more _ _ (by simp; omega), bval_snoc]
  simp [List.getD]
theorem or8 (x z : Int) (h0 : 0 ≤ x) (h1 : x ≤ 72057594037927935) (h2 : 0 ≤ z) (h3 : z ≤ 255) : bits .or .u64 (x * 256) z = 256 * x + z := by
  rw [u64_or _ _ (by omega) (by omega) (by omega) (by omega), nat_join 8 _ _ (by omega) (by omega)]
  omega
theorem ky_fin {at' : Nat} {zs : List Int} {x : Int} (h : kyS at' zs 8 x) : kyOut zs at' = (x - 9223372036854775808, (at' : Int) + 8, 0) := by
  unfold kyOut
  rw [if_neg (by have := h.2.2.1; omega), if_neg (by have := h.2.2.1; omega), h.1]; rfl
theorem top_u (x : Int) (h0 : 0 ≤ x) (h1 : x < 18446744073709551616) : wrap64 (bits .xor .u64 x 9223372036854775808) = x - 9223372036854775808 := by
  rw [u64_xor_top x h0 h1]; unfold wrap64; omega
theorem top_m (x : Int) (h0 : 0 ≤ x) (h1 : x < 18446744073709551616) : wrap64 (IntKind.u64.wrap (x - 9223372036854775808)) = x - 9223372036854775808 := by
  rw [IntKind.wrap_u64]; unfold wrap64; omega

theorem ret3k {a b c a' b' c' : Int} (h : (a, b, c) = (a', b', c')) : Ending.returned (.tuple #[.int .i64 a, .int .i64 b, .int .i64 c]) = .returned (.tuple #[.int .i64 a', .int .i64 b', .int .i64 c']) := by
  simp only [Prod.mk.injEq] at h
  obtain ⟨rfl, rfl, rfl⟩ := h
  rfl

/-! ### Key of the program -/
set_option maxRecDepth 100000 in
set_option maxHeartbeats 1000000 in
theorem ky_neg (f : Nat) (hf : f = 28 ∨ f = 29) (A : Option Addr) (n c : Nat) (at' : Int) (w : World) (h : at' < 0) :
    Calls Try.prog f #[.slice A n c, .int .i64 at'] w fun e w' => e = .returned (.tuple #[.int .i64 0, .int .i64 0, .int .i64 1]) ∧ w = w' := by
  rcases hf with rfl | rfl
  · go_enter Try.func28, Try.ntmps28
    go_wp2
    go_ret3
    exact ⟨rfl, rfl⟩
  · go_enter Try.func29, Try.ntmps29
    go_wp2
    go_ret3
    exact ⟨rfl, rfl⟩
set_option maxRecDepth 100000 in
set_option maxHeartbeats 1000000 in
theorem ky_far (f : Nat) (hf : f = 28 ∨ f = 29) (A : Option Addr) (n c : Nat) (at' : Int) (w : World) (h : (n : Int) < at') :
    Calls Try.prog f #[.slice A n c, .int .i64 at'] w fun e w' => e = .returned (.tuple #[.int .i64 0, .int .i64 0, .int .i64 1]) ∧ w = w' := by
  have h0 : 0 ≤ at' := by omega
  rcases hf with rfl | rfl
  · go_enter Try.func28, Try.ntmps28
    go_wp2
    go_ret3
    exact ⟨rfl, rfl⟩
  · go_enter Try.func29, Try.ntmps29
    go_wp2
    go_ret3
    exact ⟨rfl, rfl⟩
set_option maxRecDepth 100000 in
set_option maxHeartbeats 1000000 in
theorem ky_few (f : Nat) (hf : f = 28 ∨ f = 29) (A : Option Addr) (n c at' : Nat) (w : World) (_hb : n ≤ 9223372036854775807) (h : at' ≤ n) (h8 : n < at' + 8) :
    Calls Try.prog f #[.slice A n c, .int .i64 at'] w fun e w' => e = .returned (.tuple #[.int .i64 0, .int .i64 0, .int .i64 12]) ∧ w = w' := by
  rcases hf with rfl | rfl
  · go_enter Try.func28, Try.ntmps28
    go_wp2
    go_ret3
    exact ⟨rfl, rfl⟩
  · go_enter Try.func29, Try.ntmps29
    go_wp2
    go_ret3
    exact ⟨rfl, rfl⟩

set_option maxRecDepth 100000 in
set_option maxHeartbeats 1000000 in
theorem ky_in (b off n c at' : Nat) (zs : List Int) (w : World) (v n' e' : Int) (hc : n ≤ c) (hb : n ≤ 9223372036854775807) (hat : at' + 8 ≤ n) (hA : Byt w (some ⟨b, off, none⟩) n zs) (hr : kyOut zs at' = (v, n', e')) :
    Calls Try.prog 28 #[.slice (some ⟨b, off, none⟩) n c, .int .i64 at'] w fun e w' => e = .returned (.tuple #[.int .i64 v, .int .i64 n', .int .i64 e']) ∧ w = w' := by
  have hl := hA.1
  have HR := hid hr
  have HS0 : Hid (kyS at' zs 0 0) := hid ⟨rfl, by omega, by omega, hA.all⟩
  have HA := hid hA
  have HL := hid hl
  clear hA hr hl
  go_enter Try.func28, Try.ntmps28
  go_wp2
  go_loop [7, 29] (fun u i => ∃ (j : Nat) (x : Int), j ≤ 8 ∧ Hid (kyS at' zs j x) ∧ u = .int .u64 x ∧ i = .int .i64 j) (fun _ i => 8 - (intOf i).toNat)
  case atStart => exact ⟨0, 0, by omega, HS0, rfl, rfl⟩
  case round =>
    obtain ⟨j, x, hj, hs, rfl, rfl⟩ := hrel
    obtain ⟨hx0, hx1⟩ := kyS_bd hs.out
    by_cases hlt : j < 8
    · have hx7 : x ≤ 72057594037927935 := by have := pow256 j (by omega); omega
      obtain ⟨z, hz⟩ : ∃ z, z = zs.getD (at' + j) 0 := ⟨_, rfl⟩
      have hck : w.cell? ⟨b, off + at' + j, none⟩ = some (.int .u8 z) := by
        obtain ⟨b1, off1, e1, _, hcc⟩ := HA.out.2.2 (by omega)
        injection e1 with e1; injection e1 with e1 e2; subst e1; subst e2
        rw [hz, Nat.add_assoc]; exact hcc (at' + j) (by omega)
      have hzr : 0 ≤ z ∧ z ≤ 255 := by rw [hz]; exact HA.out.2.1 (at' + j) (by omega)
      obtain ⟨hz0, hz255⟩ := hzr
      have HN := hid (kyS_next hs.out hlt)
      rw [← hz] at HN
      have HO := hid (or8 x z hx0 hx7 hz0 hz255)
      clear hz hx1
      go_wp2
      go_round
      case rel => exact ⟨j + 1, _, by omega, HN, by rw [HO.out], by go_num⟩
      case measure => simp [intOf]; omega
    · have h8 : j = 8 := by omega
      subst h8
      have hx64 : x < 18446744073709551616 := hx1
      have HF := hid ((ky_fin hs.out).symm.trans HR.out)
      rw [← top_u x hx0 hx64] at HF
      clear hx1
      go_wp2
      go_ret3
      exact ⟨ret3k HF.out, rfl⟩

set_option maxRecDepth 100000 in
set_option maxHeartbeats 1000000 in
theorem rky_in (b off n c at' : Nat) (zs : List Int) (w : World) (v n' e' : Int) (hb : n ≤ 9223372036854775807) (hat : at' + 8 ≤ n) (hA : Byt w (some ⟨b, off, none⟩) n zs) (hr : kyOut zs at' = (v, n', e')) :
    Calls Try.prog 29 #[.slice (some ⟨b, off, none⟩) n c, .int .i64 at'] w fun e w' => e = .returned (.tuple #[.int .i64 v, .int .i64 n', .int .i64 e']) ∧ w = w' := by
  have hl := hA.1
  have HR := hid hr
  have HS0 : Hid (kyS at' zs 0 0) := hid ⟨rfl, by omega, by omega, hA.all⟩
  have HA := hid hA
  have HL := hid hl
  clear hA hr hl
  go_enter Try.func29, Try.ntmps29
  go_wp2
  go_loop [7, 8] (fun u i => ∃ (j : Nat) (x : Int), j ≤ 8 ∧ Hid (kyS at' zs j x) ∧ u = .int .u64 x ∧ i = .int .i64 j) (fun _ i => 8 - (intOf i).toNat)
  case atStart => exact ⟨0, 0, by omega, HS0, rfl, rfl⟩
  case round =>
    obtain ⟨j, x, hj, hs, rfl, rfl⟩ := hrel
    obtain ⟨hx0, hx1⟩ := kyS_bd hs.out
    by_cases hlt : j < 8
    · have hx7 : x ≤ 72057594037927935 := by have := pow256 j (by omega); omega
      obtain ⟨z, hz⟩ : ∃ z, z = zs.getD (at' + j) 0 := ⟨_, rfl⟩
      have hck : w.cell? ⟨b, off + (at' + j), none⟩ = some (.int .u8 z) := by
        obtain ⟨b1, off1, e1, _, hcc⟩ := HA.out.2.2 (by omega)
        injection e1 with e1; injection e1 with e1 e2; subst e1; subst e2
        rw [hz]; exact hcc (at' + j) (by omega)
      have hzr : 0 ≤ z ∧ z ≤ 255 := by rw [hz]; exact HA.out.2.1 (at' + j) (by omega)
      obtain ⟨hz0, hz255⟩ := hzr
      have HN := hid (kyS_next hs.out hlt)
      rw [← hz] at HN
      clear hz hx1
      go_wp2
      go_round
      case rel => exact ⟨j + 1, _, by omega, HN, rfl, by go_num⟩
      case measure => simp [intOf]; omega
    · have h8 : j = 8 := by omega
      subst h8
      have hx64 : x < 18446744073709551616 := hx1
      have HF := hid ((ky_fin hs.out).symm.trans HR.out)
      rw [← top_m x hx0 hx64] at HF
      clear hx1
      go_wp2
      go_ret3
      exact ⟨ret3k HF.out, rfl⟩

theorem key_both (f : Nat) (hf : f = 28 ∨ f = 29) (A : Option Addr) (n c : Nat) (zs : List Int) (at' : Int) (w : World) (v n' e' : Int) (hA : Byt w A n zs) (hc : n ≤ c) (hb : n ≤ 9223372036854775807) (hr : kyOut zs at' = (v, n', e')) :
    Calls Try.prog f #[.slice A n c, .int .i64 at'] w fun e w' => e = .returned (.tuple #[.int .i64 v, .int .i64 n', .int .i64 e']) ∧ w = w' := by
  have hl := hA.1
  by_cases h1 : at' < 0
  · unfold kyOut at hr
    rw [if_pos (.inl h1)] at hr
    refine (ky_neg f hf A n c at' w h1).mono fun e w' ⟨he, hw⟩ => ⟨?_, hw⟩
    rw [he]; exact ret3k hr
  · by_cases h2 : (n : Int) < at'
    · unfold kyOut at hr
      rw [if_pos (.inr (by omega))] at hr
      refine (ky_far f hf A n c at' w h2).mono fun e w' ⟨he, hw⟩ => ⟨?_, hw⟩
      rw [he]; exact ret3k hr
    · obtain ⟨k, rfl⟩ := Int.eq_ofNat_of_zero_le (show 0 ≤ at' by omega)
      by_cases h3 : n < k + 8
      · unfold kyOut at hr
        rw [if_neg (by omega), if_pos (by omega)] at hr
        refine (ky_few f hf A n c k w (by omega) (by omega) h3).mono fun e w' ⟨he, hw⟩ => ⟨?_, hw⟩
        rw [he]; exact ret3k hr
      · obtain ⟨b, off, rfl, _⟩ := hA.2.2 (by omega)
        rcases hf with rfl | rfl
        · exact ky_in b off n c k zs w v n' e' hc hb (by omega) hA hr
        · exact rky_in b off n c k zs w v n' e' hb (by omega) hA hr

/-! ### the eight bytes of a key -/
def kb (x : Nat) : List Int := [((x / 72057594037927936 : Nat) : Int), ((x / 281474976710656 % 256 : Nat) : Int), ((x / 1099511627776 % 256 : Nat) : Int), ((x / 4294967296 % 256 : Nat) : Int), ((x / 16777216 % 256 : Nat) : Int), ((x / 65536 % 256 : Nat) : Int), ((x / 256 % 256 : Nat) : Int), ((x % 256 : Nat) : Int)]
theorem kb_all (x : Nat) (h : x < 18446744073709551616) : allB (kb x) := by intro z hz; simp [kb] at hz; omega
theorem kb_val (x : Nat) (_h : x < 18446744073709551616) : bval (kb x) = x := by simp [kb, bval]; omega
/-- The number of a key: its sign bit inverted. -/
def kn (k : Int) : Nat := (k + 9223372036854775808).toNat
theorem kn_lt (k : Int) (h1 : -9223372036854775808 ≤ k) (h2 : k ≤ 9223372036854775807) : kn k < 18446744073709551616 := by unfold kn; omega
theorem kn_xor (k : Int) (h1 : -9223372036854775808 ≤ k) (h2 : k ≤ 9223372036854775807) : bits .xor .u64 (IntKind.u64.wrap k) 9223372036854775808 = (kn k : Int) := by
  rw [IntKind.wrap_u64, u64_xor_top _ (by omega) (by omega)]; unfold kn; omega
theorem kn_add (k : Int) (h1 : -9223372036854775808 ≤ k) (h2 : k ≤ 9223372036854775807) : IntKind.u64.wrap (IntKind.u64.wrap k + 9223372036854775808) = (kn k : Int) := by
  rw [IntKind.wrap_u64, IntKind.wrap_u64]; unfold kn; omega

set_option maxRecDepth 100000 in
set_option maxHeartbeats 4000000 in
theorem appKey_any (A : Option Addr) (n c : Nat) (zs : List Int) (k : Int) (w : World) (hA : Byt w A n zs) (hA0 : A = none → c = 0) (hn : n ≤ 140737488355328) (h1 : -9223372036854775808 ≤ k) (h2 : k ≤ 9223372036854775807) :
    Calls Try.prog 17 #[.slice A n c, .int .i64 k] w (RB w (zs ++ kb (kn k))) := by
  obtain ⟨i0, hi, hz0, hz1, hz2⟩ := info_parts info5
  have hlen := hA.1
  have HL := hid hlen
  have hone := bnum_oneCell zs
  have HZ := hid hA
  have hbl : (bnum zs).length = n * 1 := by simp [bnum, hlen]
  have HBL := hid hbl
  have hnn : A = none → n = 0 ∧ c = 0 := fun h => ⟨hA.none_zero h, hA0 h⟩
  have HNN := hid hnn
  have HX := hid (kn_xor k h1 h2)
  have hkn := kn_lt k h1 h2
  obtain ⟨x, hx⟩ : ∃ x, x = kn k := ⟨_, rfl⟩
  rw [← hx] at HX hkn ⊢
  clear hlen hA0 hA hbl hnn hx h1 h2
  go_enter Try.func17, Try.ntmps17
  go_wp2_with (at_make; refine wpList_make_own _ rfl _ _ 26 rfl w.heap.size 5 i0 (.int .u8 0) 1 Try.underlying26 hi hz0 hz1 _ _ _ (n + 8) rfl rfl (by omega) ?b2 ?b3 (Nat.le_refl _) ?_)
  case b2 => rw [hz2]; omega
  case b3 => unfold maxLen; omega
  intro w0 hown0 hgrow0
  have hb0 : Below w.heap.size w w0 := (Below.refl _ _).grown hgrow0 (Nat.le_refl _) (fun k h => by cases h)
  go_wp2_with (at_builtin; refine wpList_append_fits_any _ rfl (.tmp 11) (.tmp 12) 26 rfl w.heap.size 5 i0 1 Try.underlying26 hi hz1 w.heap.size 0 (n + 8) _ rfl hown0 A n c (bnum zs) rfl HBL.out HNN.out (HZ.out.below hb0 (Nat.le_refl _)).src hone (by omega) ?_)
  intro w1 hown1 hgrow1
  have hb1 : Below w.heap.size w w1 := hb0.grown hgrow1 hb0.size (fun k h => by cases h; exact Nat.le_refl _)
  clear hb0 hown0 hgrow0 hgrow1
  go_wp2
  rw [HX.out]
  go_loopw [5, 7] (fun out s wr => ∃ j : Nat, j ≤ 8 ∧ s = .int .i64 (56 - 8 * (j : Int)) ∧ out = .slice (some ⟨w.heap.size, 0, none⟩) (n + j) (n + 8) ∧
      wr.ownsRow w.heap.size 5 1 (.slice (some ⟨w.heap.size, 0, none⟩) (n + j) (n + 8)) (n + j) (bnum (zs ++ (kb x).take j)) ∧ Below w.heap.size w wr) (fun _ s _ => (intOf s + 8).toNat)
  case atStart => exact ⟨0, by omega, rfl, rfl, by simpa using hown1, hb1⟩
  case round =>
    obtain ⟨j, hj, rfl, rfl, hown, hb⟩ := hrel
    clear hown1 hb1
    by_cases hlt : j < 8
    · rcases (by omega : j = 0 ∨ j = 1 ∨ j = 2 ∨ j = 3 ∨ j = 4 ∨ j = 5 ∨ j = 6 ∨ j = 7) with rfl | rfl | rfl | rfl | rfl | rfl | rfl | rfl
      all_goals
        go_wp2_with (at_builtin; refine wpList_append_fits _ rfl (.tmp 21) (.tmp 27) 26 rfl w.heap.size 5 i0 1 Try.underlying26 hi hz1 w.heap.size _ (n + 8) _ rfl (hown.alloc _) ⟨wr.heap.size, 0, none⟩ 1 1 [_] rfl rfl (cell_one_new _ _ _) (by intro u hu; simp at hu; subst hu; rfl) (by omega) ?_)
        intro w2 hown2 hgrow2
        have hb2 : Below w.heap.size w w2 := (hb.alloc hb.size _).grown hgrow2 (by have := hb.size; simp; omega) (fun k h => by cases h; exact Nat.le_refl _)
        clear hown hb hgrow2
        go_wp2
        go_roundw
        case rel => first | exact ⟨1, by omega, rfl, rfl, by simpa [kb, bnum, Nat.add_assoc] using hown2, hb2⟩ | exact ⟨2, by omega, rfl, rfl, by simpa [kb, bnum, Nat.add_assoc] using hown2, hb2⟩ | exact ⟨3, by omega, rfl, rfl, by simpa [kb, bnum, Nat.add_assoc] using hown2, hb2⟩ | exact ⟨4, by omega, rfl, rfl, by simpa [kb, bnum, Nat.add_assoc] using hown2, hb2⟩ | exact ⟨5, by omega, rfl, rfl, by simpa [kb, bnum, Nat.add_assoc] using hown2, hb2⟩ | exact ⟨6, by omega, rfl, rfl, by simpa [kb, bnum, Nat.add_assoc] using hown2, hb2⟩ | exact ⟨7, by omega, rfl, rfl, by simpa [kb, bnum, Nat.add_assoc] using hown2, hb2⟩ | exact ⟨8, by omega, rfl, rfl, by simpa [kb, bnum, Nat.add_assoc] using hown2, hb2⟩
        case measure => simp [intOf]
    · have hj8 : j = 8 := by omega
      subst hj8
      go_wp2
      go_ret
      have hown' := hown
      rw [List.take_of_length_le (by simp [kb])] at hown'
      exact RB.mk_own (by simp [HL.out, kb]) hown' (HZ.out.all.append (kb_all x hkn)) (by omega) hb
end Go.Proofs.Ytkdggpjlafecgaa
