/-
  A SLICE OF BYTES THAT READS AS A LIST OF NUMBERS ('Byt'), kept while the call writes to blocks of its own ('Below'). No program in sight.
-/
import Derived.Below
import Derived.Laws.OwnMore
import Derived.OwnWalk
namespace Go.Proofs.Ytkdggpjlafecgaa
open Go.RowKit

def bnum (zs : List Int) : List Value := zs.map (Value.int .u8)

/-- The slice at address A of n elements reads as the bytes zs, in a block that is there. -/
def Byt (w : World) (A : Option Addr) (n : Nat) (zs : List Int) : Prop :=
  zs.length = n ∧ (∀ j, j < n → 0 ≤ zs.getD j 0 ∧ zs.getD j 0 ≤ 255) ∧
  (0 < n → ∃ b off, A = some ⟨b, off, none⟩ ∧ b < w.heap.size ∧ ∀ j, j < n → w.cell? ⟨b, off + j, none⟩ = some (.int .u8 (zs.getD j 0)))

theorem Byt.nil (w : World) (A : Option Addr) : Byt w A 0 [] := ⟨rfl, fun _ h => absurd h (by omega), fun h => absurd h (by omega)⟩

theorem Byt.below {w w' : World} {A : Option Addr} {n : Nat} {zs : List Int} {B : Nat} (h : Byt w A n zs) (hb : Below B w w') (hB : w.heap.size ≤ B) : Byt w' A n zs := by
  refine ⟨h.1, h.2.1, fun hn => ?_⟩
  obtain ⟨b, off, hA, hlt, hc⟩ := h.2.2 hn
  exact ⟨b, off, hA, Nat.lt_of_lt_of_le hlt hb.size, fun j hj => (hb.cell (p := ⟨b, off + j, none⟩) (Nat.lt_of_lt_of_le hlt hB)).trans (hc j hj)⟩

/-- Below an elder world: what was there when the call began is there still. -/
theorem Byt.since {w w1 w' : World} {A : Option Addr} {n : Nat} {zs : List Int} (h : Byt w A n zs) (hb : Below w.heap.size w w') (_ : w1 = w') : Byt w' A n zs := h.below hb (Nat.le_refl _)

theorem Byt.own {w : World} {base n cap g : Nat} {zs : List Int} (h : w.ownsRow base 5 1 (.slice (some ⟨g, 0, none⟩) n cap) n (bnum zs)) (hr : ∀ j, j < n → 0 ≤ zs.getD j 0 ∧ zs.getD j 0 ≤ 255) : Byt w (some ⟨g, 0, none⟩) n zs := by
  have hl : zs.length = n := by simpa [bnum] using h.1
  refine ⟨hl, hr, fun _ => ⟨g, 0, rfl, (h.lt g rfl).2, fun j hj => ?_⟩⟩
  have hc := h.cellAt j (by omega)
  rw [Nat.zero_add, hc]
  simp [bnum, List.getD, show j < zs.length by omega]

theorem Byt.none_zero {w : World} {A : Option Addr} {n : Nat} {zs : List Int} (hA : Byt w A n zs) (h : A = none) : n = 0 := by
  rcases Nat.eq_zero_or_pos n with h0 | h0
  · exact h0
  · obtain ⟨b, off, hA', _⟩ := hA.2.2 h0
    rw [h] at hA'
    cases hA'

/-- All numbers of a list are bytes. -/
def allB (zs : List Int) : Prop := ∀ z ∈ zs, 0 ≤ z ∧ z ≤ 255
theorem allB.at_ {zs : List Int} (h : allB zs) {n : Nat} (hn : n = zs.length) : ∀ j, j < n → 0 ≤ zs.getD j 0 ∧ zs.getD j 0 ≤ 255 := by
  intro j hj
  subst hn
  have : zs.getD j 0 = zs[j] := by simp [List.getD, hj]
  rw [this]
  exact h _ (List.getElem_mem hj)
theorem Byt.all {w : World} {A : Option Addr} {n : Nat} {zs : List Int} (h : Byt w A n zs) : allB zs := by
  intro z hz
  obtain ⟨j, hj, rfl⟩ := List.getElem_of_mem hz
  have := h.2.1 j (by rw [← h.1]; exact hj)
  simpa [List.getD, hj] using this
theorem allB.append {a b : List Int} (ha : allB a) (hb : allB b) : allB (a ++ b) := fun z hz => (List.mem_append.1 hz).elim (ha z) (hb z)

/-- The end of a call that returns a slice of bytes. -/
def RB (w : World) (zs : List Int) (e : Ending) (w' : World) : Prop := ∃ A cap, e = .returned (.slice A zs.length cap) ∧ zs.length ≤ cap ∧ Byt w' A zs.length zs ∧ Below w.heap.size w w'

theorem RB.mk_own {w w' : World} {n cap g : Nat} {zs : List Int} (hn : n = zs.length) (h : w'.ownsRow w.heap.size 5 1 (.slice (some ⟨g, 0, none⟩) n cap) n (bnum zs)) (hz : allB zs) (hc : n ≤ cap) (hb : Below w.heap.size w w') :
    RB w zs (.returned (.slice (some ⟨g, 0, none⟩) n cap)) w' := by
  subst hn
  exact ⟨_, _, rfl, hc, Byt.own h (hz.at_ rfl), hb⟩

theorem RB.mk_any {w w' : World} {n : Nat} {v : Value} {zs : List Int} (hn : n = zs.length) (h : w'.ownsRow w.heap.size 5 1 v n (bnum zs)) (hz : allB zs) (hb : Below w.heap.size w w') :
    RB w zs (.returned v) w' := by
  subst hn
  rcases h.2 with ⟨rfl, h0⟩ | ⟨g, cap, cur, rfl, _, _, hnc, _⟩
  · have hnil : zs = [] := List.eq_nil_of_length_eq_zero h0
    subst hnil
    exact ⟨none, 0, rfl, by simp, Byt.nil _ _, hb⟩
  · exact ⟨_, _, rfl, hnc, Byt.own h (hz.at_ rfl), hb⟩

theorem bnum_append (a b : List Int) : bnum (a ++ b) = bnum a ++ bnum b := by simp [bnum]
theorem bnum_one (x : Int) : bnum [x] = [Value.int .u8 x] := rfl
theorem bnum_oneCell (zs : List Int) : ∀ u ∈ bnum zs, u.oneCell' = true := ints_oneCell _ _

/-- The source of an append: its cells lie where the law looks. -/
theorem Byt.src {w : World} {A : Option Addr} {n : Nat} {zs : List Int} (h : Byt w A n zs) : ∀ ad, A = some ad → ∀ j u, (bnum zs)[j]? = some u → w.cell? (ad.add j) = some u := by
  intro ad hA j u hu
  have hj : j < n := by have := (List.getElem?_eq_some_iff.1 hu).1; simpa [bnum, h.1] using this
  obtain ⟨b, off, hA', _, hc⟩ := h.2.2 (by omega)
  rw [hA] at hA'
  obtain rfl := Option.some.inj hA'
  rw [Addr.add_lit, hc j hj]
  have hjl : j < zs.length := by rw [h.1]; exact hj
  simp only [bnum, List.getElem?_map] at hu
  rw [List.getElem?_eq_getElem hjl] at hu
  simp only [Option.map_some] at hu
  rw [← hu]
  simp [List.getD, hjl]
end Go.Proofs.Ytkdggpjlafecgaa
