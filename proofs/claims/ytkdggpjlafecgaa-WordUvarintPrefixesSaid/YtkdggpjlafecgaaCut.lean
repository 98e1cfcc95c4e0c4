/-
  PARTS OF A SLICE OF BYTES; the callees' contracts at the bounds of the arguments. No conditions of its own.
-/
import Derived.Test.YtkdggpjlafecgaaVp
namespace Go.Proofs.Ytkdggpjlafecgaa
open Go.RowKit

theorem Byt.take {w : World} {A : Option Addr} {n m : Nat} {zs : List Int} (h : Byt w A n zs) (hm : m ≤ n) : Byt w A m (zs.take m) := by
  have hl := h.1
  have e : ∀ j, j < m → (zs.take m).getD j 0 = zs.getD j 0 := fun j hj => by simp [List.getD, hj]
  refine ⟨by simp; omega, fun j hj => by rw [e j hj]; exact h.2.1 j (by omega), fun hp => ?_⟩
  obtain ⟨b, off, hA, hb, hc⟩ := h.2.2 (by omega)
  exact ⟨b, off, hA, hb, fun j hj => by rw [e j hj]; exact hc j (by omega)⟩
theorem Byt.cut {w : World} {b off n k m : Nat} {zs : List Int} (h : Byt w (some ⟨b, off, none⟩) n zs) (hk : k ≤ m) (hm : m ≤ n) : Byt w (some ⟨b, off + k, none⟩) (m - k) ((zs.drop k).take (m - k)) := by
  have hl := h.1
  have e : ∀ j, j < m - k → ((zs.drop k).take (m - k)).getD j 0 = zs.getD (k + j) 0 := fun j hj => by simp [List.getD, hj]
  refine ⟨by simp; omega, fun j hj => by rw [e j hj]; exact h.2.1 _ (by omega), fun hp => ?_⟩
  obtain ⟨b1, off1, hA, hb, hc⟩ := h.2.2 (by omega)
  injection hA with hA; injection hA with e1 e2; subst e1; subst e2
  exact ⟨b, off + k, rfl, hb, fun j hj => by rw [e j hj, Nat.add_assoc]; exact hc _ (by omega)⟩

/-- Append with the length written out. -/
theorem appUv_len (A : Option Addr) (n c : Nat) (zs : List Int) (u : Nat) (w : World) (hA : Byt w A n zs) (hA0 : A = none → c = 0) (hn : n ≤ 140737488355328) (hu : u < 18446744073709551616) :
    Calls Try.prog 31 #[.slice A n c, .int .u64 u] w fun e w' => ∃ (B : Option Addr) (m d : Nat), e = .returned (.slice B m d) ∧ m = (zs ++ vb u).length ∧ n < m ∧ m ≤ n + 10 ∧ m ≤ d ∧ Byt w' B m (zs ++ vb u) ∧ Below w.heap.size w w' :=
  (appUv_any A n c zs u w hA hA0 hn hu).mono fun e w' ⟨B, d, he, hd, hB, hb⟩ => by
    have h1 := vbf_len 9 u
    have h2 : (zs ++ vb u).length = n + (vbf 9 u).length := by rw [List.length_append, hA.1]; rfl
    exact ⟨B, _, d, he, rfl, by omega, by omega, hd, hB, hb⟩
theorem varint_len (u : Nat) (w : World) (hu : u < 18446744073709551616) :
    Calls Try.prog 32 #[.int .u64 u] w fun e w' => ∃ (B : Option Addr) (m d : Nat), e = .returned (.slice B m d) ∧ m = (vb u).length ∧ 0 < m ∧ m ≤ 10 ∧ m ≤ d ∧ Byt w' B m (vb u) ∧ Below w.heap.size w w' :=
  (varint_any u w hu).mono fun e w' ⟨B, d, he, hd, hB, hb⟩ => by
    have h1 := vbf_len 9 u
    exact ⟨B, _, d, he, rfl, h1.1, h1.2, hd, hB, hb⟩
theorem join_len (A : Option Addr) (n c : Nat) (zs : List Int) (B : Option Addr) (m d : Nat) (ys : List Int) (w : World) (hA : Byt w A n zs) (hB : Byt w B m ys) (hn : n + m ≤ 281474976710656) :
    Calls Try.prog 26 #[.slice A n c, .slice B m d] w fun e w' => ∃ (C : Option Addr) (l f : Nat), e = .returned (.slice C l f) ∧ l = n + m ∧ l ≤ f ∧ Byt w' C l (zs ++ ys) ∧ Below w.heap.size w w' :=
  (join_any A n c zs B m d ys w hA hB hn).mono fun e w' ⟨C, f, he, hf, hC, hb⟩ => by
    have h2 : (zs ++ ys).length = n + m := by rw [List.length_append, hA.1, hB.1]
    exact ⟨C, _, f, he, h2, hf, hC, hb⟩
theorem appKey_len (A : Option Addr) (n c : Nat) (zs : List Int) (k : Int) (w : World) (hA : Byt w A n zs) (hA0 : A = none → c = 0) (hn : n ≤ 140737488355328) (h1 : -9223372036854775808 ≤ k) (h2 : k ≤ 9223372036854775807) :
    Calls Try.prog 17 #[.slice A n c, .int .i64 k] w fun e w' => ∃ (B : Option Addr) (m d : Nat), e = .returned (.slice B m d) ∧ m = n + 8 ∧ m ≤ d ∧ Byt w' B m (zs ++ kb (kn k)) ∧ Below w.heap.size w w' :=
  (appKey_any A n c zs k w hA hA0 hn h1 h2).mono fun e w' ⟨B, d, he, hd, hB, hb⟩ => by
    have h2 : (zs ++ kb (kn k)).length = n + 8 := by rw [List.length_append, hA.1]; rfl
    exact ⟨B, _, d, he, h2, hd, hB, hb⟩
theorem keyBytes_len (k : Int) (w : World) (h1 : -9223372036854775808 ≤ k) (h2 : k ≤ 9223372036854775807) :
    Calls Try.prog 27 #[.int .i64 k] w fun e w' => ∃ (B : Option Addr) (d : Nat), e = .returned (.slice B 8 d) ∧ Byt w' B 8 (kb (kn k)) ∧ Below w.heap.size w w' :=
  (keyBytes_any k w h1 h2).mono fun _ _ ⟨B, d, he, _, hB, hb⟩ => ⟨B, d, he, hB, hb⟩
end Go.Proofs.Ytkdggpjlafecgaa
