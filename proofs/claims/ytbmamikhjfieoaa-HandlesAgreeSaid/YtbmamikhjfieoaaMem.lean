/-
  AN ALLOCATOR IN MEMORY ('SAt'): where its blocks lie ('Loc'), what they hold; what a call may change ('Chg'). No program in sight.
-/
import Derived.Test.YtbmamikhjfieoaaPlain
import Derived.Below
import Derived.Laws.OwnMore
import Derived.OwnWalk
import Derived.WalkSmall
import Derived.Deep.OwnRows
import Derived.Deep.Draws
namespace Go.Proofs.Ytbmamikhjfieoaa
open Go.RowKit

/-- Only the blocks of F, and new ones, may differ. -/
structure Chg (F : Nat → Prop) (w w' : World) : Prop where
  os : w'.os = w.os
  tape : w'.tape = w.tape
  output : w'.output = w.output
  size : w.heap.size ≤ w'.heap.size
  block : ∀ k, k < w.heap.size → ¬ F k → w'.heap[k]? = w.heap[k]?

theorem Chg.refl (F : Nat → Prop) (w : World) : Chg F w w := ⟨rfl, rfl, rfl, Nat.le_refl _, fun _ _ _ => rfl⟩
theorem Chg.trans {F G : Nat → Prop} {a b c : World} (h : Chg F a b) (k : Chg G b c) (hG : ∀ i, G i → F i ∨ a.heap.size ≤ i) : Chg F a c :=
  ⟨k.os.trans h.os, k.tape.trans h.tape, k.output.trans h.output, Nat.le_trans h.size k.size, fun i hi hF => (k.block i (Nat.lt_of_lt_of_le hi h.size) (fun hg => (hG i hg).elim hF (fun hge => by omega))).trans (h.block i hi hF)⟩
theorem Chg.mono {F G : Nat → Prop} {w w' : World} (h : Chg F w w') (hFG : ∀ i, F i → G i) : Chg G w w' := ⟨h.os, h.tape, h.output, h.size, fun i hi hG => h.block i hi (fun hf => hG (hFG i hf))⟩
theorem Chg.alloc {F : Nat → Prop} {a w : World} (h : Chg F a w) (o : Obj) : Chg F a (w.alloc o) :=
  ⟨h.os, h.tape, h.output, by have := h.size; simp; omega, fun i hi hF => (Below.heap_alloc w o i (Nat.lt_of_lt_of_le hi h.size)).trans (h.block i hi hF)⟩
theorem Chg.drew {F : Nat → Prop} {a w : World} (h : Chg F a w) : Chg F a w.drew := ⟨h.os, h.tape, h.output, h.size, h.block⟩
theorem Chg.drewN {F : Nat → Prop} {a w : World} (h : Chg F a w) (n : Nat) : Chg F a (w.drewN n) := ⟨h.os, h.tape, h.output, h.size, h.block⟩
theorem Chg.setCell {F : Nat → Prop} {a w : World} (h : Chg F a w) {p : Addr} (hp : F p.block ∨ a.heap.size ≤ p.block) (u : Value) : Chg F a (w.setCell p u) :=
  ⟨h.os, h.tape, h.output, by simpa [World.setCell] using h.size, fun i hi hF => (Below.heap_setCell w p u i (fun e => by subst e; rcases hp with hp | hp; exact hF hp; omega)).trans (h.block i hi hF)⟩
theorem Chg.grown {F : Nat → Prop} {a w w' : World} {row : Option Nat} (h : Chg F a w) (hg : w.grownBy w' row) (hr : ∀ k, row = some k → F k ∨ a.heap.size ≤ k) : Chg F a w' :=
  ⟨hg.os.trans h.os, hg.tape.trans h.tape, hg.output.trans h.output, Nat.le_trans h.size hg.size, fun i hi hF => (hg.block i (Nat.lt_of_lt_of_le hi h.size) (fun e => by rcases hr i e.symm with h1 | h1; exact hF h1; omega)).trans (h.block i hi hF)⟩
theorem Chg.below {F : Nat → Prop} {B : Nat} {a w : World} (h : Chg F a w) (hB : B ≤ a.heap.size) (hF : ∀ k, F k → B ≤ k) : Below B a w :=
  ⟨h.os, h.tape, h.output, h.size, fun k hk => h.block k (by omega) (fun hf => by have := hF k hf; omega)⟩
theorem Chg.of_below {F : Nat → Prop} {a w : World} (h : Below a.heap.size a w) : Chg F a w := ⟨h.os, h.tape, h.output, h.size, fun k hk _ => h.block k hk⟩
/-- Nothing that was there has changed. -/
abbrev Nil : Nat → Prop := fun _ => False

/-- The world is as it was, but for draws. -/
def Qt (w w' : World) : Prop := ∃ q, w' = w.drewN q
theorem Qt.chg {w w' : World} (h : Qt w w') (F : Nat → Prop) : Chg F w w' := by obtain ⟨q, rfl⟩ := h; exact (Chg.refl F w).drewN q

structure Loc where
  g : Nat
  gu : Nat
  gg : Nat
  ra : Option Addr
  rc : Nat

def u32s (l : List Nat) : List Value := l.map fun i : Nat => Value.int .u32 (i : Int)
/-- The slice of the released slots. -/
def Loc.rv (L : Loc) (S : SS) : Value := .slice L.ra S.rl.length L.rc
def Loc.foot (L : Loc) (k : Nat) : Prop := k = L.g ∨ k = L.gu ∨ k = L.gg ∨ L.ra.map (·.block) = some k
def fldS (L : Loc) (S : SS) : Nat → Value
  | 0 => .slice (some ⟨L.gu, 0, none⟩) (S.n + 1) (S.n + 1)
  | 1 => .slice (some ⟨L.gg, 0, none⟩) (S.n + 1) (S.n + 1)
  | 2 => L.rv S
  | _ => .int .u32 (S.fresh : Int)

structure SAt (B : Nat) (w : World) (L : Loc) (S : SS) : Prop where
  hd : w.rowIs L.g 85 4 (fldS L S)
  us : w.rowIs L.gu 4 (S.n + 1) (fun i => .bool (S.on i))
  gs : w.rowIs L.gg 30 (S.n + 1) (fun i => .int .u32 (S.gen i))
  rs : w.ownsRow B 30 1 (L.rv S) S.rl.length (u32s S.rl.reverse)
  sep : L.ra.map (·.block) ≠ some L.gg
  b1 : B ≤ L.g
  b2 : B ≤ L.gu
  b3 : B ≤ L.gg

theorem rowIs_ne {w : World} {b b' : Nat} {t t' : TypeId} {n n' : Nat} {f f' : Nat → Value} (h : w.rowIs b t n f) (h' : w.rowIs b' t' n' f') (hne : t ≠ t') : b ≠ b' := by
  rintro rfl
  obtain ⟨c, hc, _⟩ := h
  obtain ⟨c', hc', _⟩ := h'
  rw [hc] at hc'
  injection hc' with hc'
  injection hc' with _ ht
  exact hne ht
theorem own_ne {w : World} {B e size n b t m : Nat} {A : Option Addr} {c : Nat} {xs : List Value} {f : Nat → Value} (h : w.ownsRow B e size (.slice A n c) n xs) (h' : w.rowIs b t m f) (hne : e ≠ t) : A.map (·.block) ≠ some b := by
  rcases h.2 with ⟨hv, _⟩ | ⟨g, cap, cur, hv, _, hg, _⟩
  · injection hv with hA; subst hA; simp
  · injection hv with hA; subst hA
    simp only [Option.map_some]
    rintro he
    injection he with he
    subst he
    obtain ⟨c', hc', _⟩ := h'
    rw [hg] at hc'
    injection hc' with hc'
    injection hc' with _ ht
    exact hne ht
theorem ownBlock_slice (A : Option Addr) (n c : Nat) : (Value.slice A n c).ownBlock = A.map (·.block) := by cases A <;> rfl
theorem own_of_block {w w' : World} {B e size n : Nat} {v : Value} {xs : List Value} (h : w.ownsRow B e size v n xs) (hk : ∀ k, v.ownBlock = some k → w'.heap[k]? = w.heap[k]?) : w'.ownsRow B e size v n xs := by
  refine ⟨h.1, ?_⟩
  rcases h.2 with hn | ⟨g, cap, cur, rfl, hb, hg, rest⟩
  · exact .inl hn
  · exact .inr ⟨g, cap, cur, rfl, hb, (hk g rfl).trans hg, rest⟩

section
variable {B : Nat} {w w' : World} {L : Loc} {S : SS}
theorem SAt.foot_lt (h : SAt B w L S) {k : Nat} (hk : L.foot k) : k < w.heap.size := by
  rcases hk with rfl | rfl | rfl | hk
  · exact h.hd.lt
  · exact h.us.lt
  · exact h.gs.lt
  · exact (h.rs.lt k (by rw [Loc.rv, ownBlock_slice]; exact hk)).2
theorem SAt.foot_ge (h : SAt B w L S) {k : Nat} (hk : L.foot k) : B ≤ k := by
  rcases hk with rfl | rfl | rfl | hk
  · exact h.b1
  · exact h.b2
  · exact h.b3
  · exact (h.rs.lt k (by rw [Loc.rv, ownBlock_slice]; exact hk)).1
/-- The allocator stays as it is where its own blocks stay. -/
theorem SAt.keep {F : Nat → Prop} (h : SAt B w L S) (hc : Chg F w w') (hF : ∀ k, F k → ¬ L.foot k) : SAt B w' L S := by
  have e : ∀ k, L.foot k → w'.heap[k]? = w.heap[k]? := fun k hk => hc.block k (h.foot_lt hk) (fun hf => hF k hf hk)
  exact ⟨h.hd.of_block (e _ (.inl rfl)), h.us.of_block (e _ (.inr (.inl rfl))), h.gs.of_block (e _ (.inr (.inr (.inl rfl)))),
    own_of_block h.rs (fun k hk => e k (.inr (.inr (.inr (by rw [Loc.rv, ownBlock_slice] at hk; exact hk))))), h.sep, h.b1, h.b2, h.b3⟩
theorem SAt.below (h : SAt B w L S) (hb : Below w.heap.size w w') : SAt B w' L S := h.keep (Chg.of_below (F := Nil) hb) (fun _ h => h.elim)
theorem SAt.qt (h : SAt B w L S) (hq : Qt w w') : SAt B w' L S := h.keep (hq.chg Nil) (fun _ h => h.elim)
theorem SAt.c0 (h : SAt B w L S) : w.cell? ⟨L.g, 0, none⟩ = some (.slice (some ⟨L.gu, 0, none⟩) (S.n + 1) (S.n + 1)) := h.hd.cell (i := 0) (by omega)
theorem SAt.c1 (h : SAt B w L S) : w.cell? ⟨L.g, 1, none⟩ = some (.slice (some ⟨L.gg, 0, none⟩) (S.n + 1) (S.n + 1)) := h.hd.cell (i := 1) (by omega)
theorem SAt.c2 (h : SAt B w L S) : w.cell? ⟨L.g, 2, none⟩ = some (.slice L.ra S.rl.length L.rc) := h.hd.cell (i := 2) (by omega)
theorem SAt.c3 (h : SAt B w L S) : w.cell? ⟨L.g, 3, none⟩ = some (.int .u32 (S.fresh : Int)) := h.hd.cell (i := 3) (by omega)
theorem SAt.cu (h : SAt B w L S) {i : Nat} (hi : i ≤ S.n) : w.cell? ⟨L.gu, i, none⟩ = some (.bool (S.on i)) := h.us.cell (i := i) (by omega)
theorem SAt.cg (h : SAt B w L S) {i : Nat} (hi : i ≤ S.n) : w.cell? ⟨L.gg, i, none⟩ = some (.int .u32 (S.gen i)) := h.gs.cell (i := i) (by omega)
theorem SAt.top (h : SAt B w L S) {i : Nat} {r : List Nat} (hr : S.rl = i :: r) : ∃ gr, L.ra = some ⟨gr, 0, none⟩ ∧ B ≤ gr ∧ r.length < L.rc ∧ L.rc ≤ maxLen ∧ w.cell? ⟨gr, r.length, none⟩ = some (.int .u32 (i : Int)) := by
  have hrs := h.rs
  rcases h.rs.2 with ⟨hv, h0⟩ | ⟨gr, cap, cur, hv, hb, hg, hnc, hcm, hcs, htake⟩
  · rw [hr] at h0; simp at h0
  · injection hv with hA hn hc
    subst hc
    refine ⟨gr, hA, hb, by rw [hr] at hnc; simp at hnc; omega, hcm, ?_⟩
    unfold Loc.rv at hrs
    rw [hA] at hrs
    rw [hrs.cellAt r.length (by rw [hr]; simp)]
    simp [u32s, hr]
end
end Go.Proofs.Ytbmamikhjfieoaa
