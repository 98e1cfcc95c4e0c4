/-
  PLAIN LAWS OF THE VARINT AND OF THE KEY: what is written is read back; what is read is what would be written; a proper prefix is cut short; the order of the bytes is the order of the numbers. No program in sight.
-/
import Derived.Test.YtkdggpjlafecgaaWord
namespace Go.Proofs.Ytkdggpjlafecgaa
open Go.RowKit

theorem grp (v a b x P : Int) (h : a + 128 * b = x) : v + a * P + b * (P * 128) = v + x * P := by
  subst h
  rw [Int.add_mul, show b * (P * 128) = 128 * b * P by rw [Int.mul_comm P 128, ← Int.mul_assoc, Int.mul_comm b 128], Int.add_assoc]
theorem two64 (i : Nat) (h : i < 9) : 2 ^ (64 - 7 * i) = 2 ^ (64 - 7 * (i + 1)) * 128 := by
  rw [show 64 - 7 * i = (64 - 7 * (i + 1)) + 7 by omega, Nat.pow_add (m := 64 - 7 * (i + 1))]

theorem uvr_back (at' : Int) (ys : List Int) (f : Nat) : ∀ (i : Nat) (v : Int) (x : Nat), i + f = 9 → x < 2 ^ (64 - 7 * i) → (i = 0 ∨ 0 < x) →
    uvr at' i v (vbf f x ++ ys) = (v + x * 128 ^ i, at' + i + (vbf f x).length, 0) := by
  induction f with
  | zero =>
    intro i v x hi hx h0
    have : i = 9 := by omega
    subst this
    simp at hx
    have hx1 : x = 1 := by omega
    subst hx1
    simp [vbf, uvr]
  | succ f ih =>
    intro i v x hi hx h0
    by_cases hs : x < 128
    · rw [vbf_small _ _ hs]
      simp only [List.cons_append, List.nil_append, uvr, List.length_cons, List.length_nil]
      rw [if_neg (by omega), if_pos (by omega)]
      simp
    · rw [vbf_big _ _ (by omega)]
      simp only [List.cons_append, uvr, List.length_cons]
      rw [if_neg (by omega), if_neg (by omega), ih (i + 1) _ (x / 128) (by omega) (by rw [Nat.div_lt_iff_lt_mul (by omega), ← two64 i (by omega)]; exact hx) (.inr (by omega))]
      have e : v + (((x % 128 + 128 : Nat) : Int) - 128) * 128 ^ i + ((x / 128 : Nat) : Int) * 128 ^ (i + 1) = v + x * 128 ^ i := by
        rw [Int.pow_succ]
        exact grp _ _ _ _ _ (by omega)
      rw [e]
      simp only [Prod.mk.injEq, true_and, and_true]
      omega

theorem uv_back (zs ys : List Int) (u : Nat) (hu : u < 18446744073709551616) : uvOut (zs ++ vb u ++ ys) zs.length = ((u : Int), ((zs.length + (vb u).length : Nat) : Int), 0) := by
  rw [uvOut_at _ _ (by simp), List.append_assoc, List.drop_left, vb, uvr_back _ ys 9 0 0 u (by omega) (by simpa using hu) (.inl rfl)]
  simp

theorem uvr_cut (at' : Int) (f : Nat) : ∀ (i : Nat) (v : Int) (x cut : Nat), i + f = 9 → cut < (vbf f x).length → uvr at' i v ((vbf f x).take cut) = (0, 0, 12) := by
  induction f with
  | zero =>
    intro i v x cut hi hc
    have : cut = 0 := by simp [vbf] at hc; omega
    subst this
    simp [uvr]
  | succ f ih =>
    intro i v x cut hi hc
    match cut with
    | 0 => simp [uvr]
    | cut + 1 =>
      by_cases hs : x < 128
      · rw [vbf_small _ _ hs] at hc; simp at hc
      · rw [vbf_big _ _ (by omega)] at hc ⊢
        simp only [List.take_succ_cons, uvr]
        rw [if_neg (by omega), if_neg (by omega)]
        exact ih (i + 1) _ (x / 128) cut (by omega) (by simpa using hc)
theorem uv_cut (u cut : Nat) (hc : cut < (vb u).length) : uvOut ((vb u).take cut) 0 = (0, 0, 12) := by
  have := uvOut_at ((vb u).take cut) 0 (by omega)
  simp only [Int.natCast_zero, List.drop_zero] at this
  rw [this]
  exact uvr_cut 0 9 0 0 u cut (by omega) hc

theorem uvr_canon (at' : Int) (f : Nat) : ∀ (i : Nat) (x v n : Int) (l : List Int), i + f = 9 → allB l → uvr at' i x l = (v, n, 0) →
    ∃ y : Nat, v = x + y * 128 ^ i ∧ n = at' + i + (vbf f y).length ∧ l.take (vbf f y).length = vbf f y ∧ (vbf f y).length ≤ l.length ∧ y < 2 ^ (64 - 7 * i) ∧ (i = 0 ∨ 0 < y) := by
  induction f with
  | zero =>
    intro i x v n l hi hl hr
    have : i = 9 := by omega
    subst this
    match l with
    | [] => simp [uvr] at hr
    | c :: l =>
      have hc := hl c (by simp)
      rw [uvr] at hr
      by_cases hbad : ((9 : Nat) = 9 ∧ 1 < c) ∨ ((0 : Nat) < 9 ∧ c = 0)
      · rw [if_pos hbad] at hr; simp at hr
      · rw [if_neg hbad] at hr
        have hc1 : c = 1 := by omega
        subst hc1
        rw [if_pos (by omega)] at hr
        simp only [Prod.mk.injEq] at hr
        exact ⟨1, by rw [← hr.1]; rfl, by rw [← hr.2.1]; simp [vbf], by simp [vbf], by simp [vbf], by decide, .inr (by omega)⟩
  | succ f ih =>
    intro i x v n l hi hl hr
    match l with
    | [] => simp [uvr] at hr
    | c :: l =>
      have hc := hl c (by simp)
      simp only [uvr] at hr
      by_cases hbad : (i = 9 ∧ 1 < c) ∨ (0 < i ∧ c = 0)
      · rw [if_pos hbad] at hr; simp at hr
      · rw [if_neg hbad] at hr
        by_cases hs : c < 128
        · rw [if_pos hs] at hr
          simp only [Prod.mk.injEq] at hr
          obtain ⟨y, rfl⟩ := Int.eq_ofNat_of_zero_le hc.1
          have hb : 128 ≤ 2 ^ (64 - 7 * i) := by
            have : (2 : Nat) ^ 7 ≤ 2 ^ (64 - 7 * i) := Nat.pow_le_pow_right (by omega) (by omega)
            simpa using this
          refine ⟨y, hr.1.symm, ?_, ?_, ?_, by omega, by omega⟩
          · rw [vbf_small _ _ (by omega), ← hr.2.1]; simp
          · rw [vbf_small _ _ (by omega)]; simp
          · rw [vbf_small _ _ (by omega)]; simp
        · rw [if_neg hs] at hr
          obtain ⟨y, hv, hn, ht, hle, hlt, h0⟩ := ih (i + 1) _ v n l (by omega) (fun z hz => hl z (by simp [hz])) hr
          obtain ⟨d, hd⟩ : ∃ d : Nat, c = (d : Int) + 128 := ⟨(c - 128).toNat, by omega⟩
          have hd128 : d < 128 := by omega
          have hy0 : 0 < y := by omega
          have e1 : (128 * y + d) % 128 = d := by omega
          have e2 : (128 * y + d) / 128 = y := by omega
          have e3 : vbf (f + 1) (128 * y + d) = c :: vbf f y := by rw [vbf_big _ _ (by omega), e1, e2, hd]; rfl
          refine ⟨128 * y + d, ?_, ?_, ?_, ?_, ?_, .inr (by omega)⟩
          · rw [hv, hd, Int.pow_succ]
            exact grp _ _ _ _ _ (by omega)
          · rw [e3, hn]; simp; omega
          · rw [e3]; simp [ht]
          · rw [e3]; simp; exact hle
          · rw [two64 i (by omega)]; omega

theorem uv_canon (zs : List Int) (k : Nat) (v n : Int) (hk : k ≤ zs.length) (hz : allB zs) (hr : uvOut zs k = (v, n, 0)) :
    ∃ (y m : Nat), v = (y : Int) ∧ y < 18446744073709551616 ∧ n = (m : Int) ∧ k < m ∧ m ≤ zs.length ∧ (zs.drop k).take (m - k) = vb y := by
  rw [uvOut_at _ _ hk] at hr
  obtain ⟨y, hv, hn, ht, hle, hlt, _⟩ := uvr_canon k 9 0 0 v n (zs.drop k) (by omega) (fun z h => hz z (List.mem_of_mem_drop h)) hr
  have hl := vbf_len 9 y
  rw [List.length_drop] at hle
  refine ⟨y, k + (vbf 9 y).length, by rw [hv]; simp, by simpa using hlt, by rw [hn]; simp, by omega, by omega, ?_⟩
  rw [show k + (vbf 9 y).length - k = (vbf 9 y).length by omega]
  exact ht

/-! ### keys -/
theorem bval_cons (x : Int) (l : List Int) : bval (x :: l) = x * 256 ^ l.length + bval l := by
  suffices h : ∀ (l : List Int) (a : Int), l.foldl (fun a d => 256 * a + d) a = a * 256 ^ l.length + l.foldl (fun a d => 256 * a + d) 0 by
    have := h l (256 * 0 + x)
    simpa [bval] using this
  intro l
  induction l with
  | nil => intro a; simp
  | cons d l ih =>
    intro a
    simp only [List.foldl_cons, List.length_cons]
    rw [ih (256 * a + d), ih (256 * 0 + d), Int.pow_succ]
    rw [Int.add_mul, Int.add_mul, show (256 : Int) ^ l.length * 256 = 256 * 256 ^ l.length from Int.mul_comm _ _, ← Int.mul_assoc, Int.mul_comm a 256]
    omega
theorem lx_val : ∀ (xs ys : List Int), xs.length = ys.length → allB xs → allB ys → lx xs ys = decide (bval xs < bval ys)
  | [], [], _, _, _ => by simp [lx, bval]
  | x :: xs, y :: ys, hl, hx, hy => by
    have hl' : xs.length = ys.length := by simpa using hl
    have ax : allB xs := fun z hz => hx z (by simp [hz])
    have ay : allB ys := fun z hz => hy z (by simp [hz])
    have bx := bval_bd xs ax
    have b_y := bval_bd ys ay
    rw [lx, bval_cons, bval_cons, hl']
    rw [hl'] at bx
    generalize hP : (256 : Int) ^ ys.length = P at *
    by_cases h : x = y
    · subst h
      rw [if_pos rfl, lx_val xs ys hl' ax ay]
      have : (bval xs < bval ys) = (x * P + bval xs < x * P + bval ys) := by apply propext; omega
      simp only [this]
    · rw [if_neg h]
      have hiff : x < y ↔ x * P + bval xs < y * P + bval ys := by
        constructor
        · intro hlt
          have : (x + 1) * P ≤ y * P := Int.mul_le_mul_of_nonneg_right (by omega) (by omega)
          rw [Int.add_mul] at this
          omega
        · intro hlt
          rcases Int.lt_or_le x y with h1 | h1
          · exact h1
          · have : (y + 1) * P ≤ x * P := Int.mul_le_mul_of_nonneg_right (by omega) (by omega)
            rw [Int.add_mul] at this
            omega
      exact decide_eq_decide.2 hiff
theorem lx_kb (a b : Nat) (ha : a < 18446744073709551616) (hb : b < 18446744073709551616) : lx (kb a) (kb b) = decide (a < b) := by
  rw [lx_val _ _ (by simp [kb]) (kb_all a ha) (kb_all b hb), kb_val a ha, kb_val b hb]
  exact decide_eq_decide.2 (by omega)
theorem ky_back (zs ys : List Int) (k : Int) (h1 : -9223372036854775808 ≤ k) (h2 : k ≤ 9223372036854775807) : kyOut (zs ++ kb (kn k) ++ ys) zs.length = (k, ((zs.length + 8 : Nat) : Int), 0) := by
  have hl : (kb (kn k)).length = 8 := rfl
  unfold kyOut
  rw [if_neg (by simp; omega), if_neg (by simp [hl]; omega)]
  rw [show ((zs.length : Int)).toNat = zs.length from rfl, List.append_assoc, List.drop_left, List.take_append_of_le_length (by omega), List.take_of_length_le (by omega), kb_val _ (kn_lt k h1 h2)]
  simp [kn]; omega
end Go.Proofs.Ytkdggpjlafecgaa
