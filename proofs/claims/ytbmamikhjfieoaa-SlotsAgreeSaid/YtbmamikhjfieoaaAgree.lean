/-
  THE TWO ALLOCATORS SIDE BY SIDE ('St'): the program's, and the reference's whose state lies in the block V.
-/
import Derived.Test.YtbmamikhjfieoaaRefo
namespace Go.Proofs.Ytbmamikhjfieoaa
open Go.RowKit

def RL.five (R : RL) (S : SS) (W : World) (V : Nat) : Prop := Row5 W V (.int .i64 (S.n : Int)) (.slice R.a S.rl.length R.c) (.int .i64 ((S.fresh : Int) + 1)) (.slice (some ⟨R.gb, 0, none⟩) S.n R.gc) (.slice (some ⟨R.ob, 0, none⟩) S.n R.oc)
def put5 (R : RL) (S : SS) (W : World) (V : Nat) : World := ((((W.setCell ⟨V, 0, none⟩ (.int .i64 (S.n : Int))).setCell ⟨V, 1, none⟩ (.slice R.a S.rl.length R.c)).setCell ⟨V, 2, none⟩ (.int .i64 ((S.fresh : Int) + 1))).setCell ⟨V, 3, none⟩ (.slice (some ⟨R.gb, 0, none⟩) S.n R.gc)).setCell ⟨V, 4, none⟩ (.slice (some ⟨R.ob, 0, none⟩) S.n R.oc)
theorem Row5.set0 {w : World} {b : Nat} {v0 v1 v2 v3 v4 : Value} (h : Row5 w b v0 v1 v2 v3 v4) (u : Value) : Row5 (w.setCell ⟨b, 0, none⟩ u) b u v1 v2 v3 v4 := by
  unfold Row5 at *
  simp [World.setCell, Array.getElem?_modify, h]
theorem put5_row {R : RL} {S : SS} {W : World} {V : Nat} {v0 v1 v2 v3 v4 : Value} (h : Row5 W V v0 v1 v2 v3 v4) : R.five S (put5 R S W V) V := ((((h.set0 _).set1 _).set2 _).set3 _).set4 _
theorem put5_chg (R : RL) (S : SS) (W : World) (V : Nat) : Chg (fun k => k = V) W (put5 R S W V) :=
  (((((Chg.refl (fun k => k = V) W).setCell (p := ⟨V, 0, none⟩) (.inl rfl) _).setCell (p := ⟨V, 1, none⟩) (.inl rfl) _).setCell (p := ⟨V, 2, none⟩) (.inl rfl) _).setCell (p := ⟨V, 3, none⟩) (.inl rfl) _).setCell (p := ⟨V, 4, none⟩) (.inl rfl) _

theorem below_after {a b c : World} (h : Below a.heap.size a b) (k : Below b.heap.size b c) : Below a.heap.size a c := h.trans (k.mono h.size)
structure St (B V g n : Nat) (W : World) (L : Loc) (R : RL) (S : SS) : Prop where
  s : SAt B W L S
  wf : S.wf
  n_ : S.n = n
  g_ : L.g = g
  r : RAt (fun k => L.foot k ∨ k = V) W R S
  v : R.five S W V
  nv : ¬ L.foot V
  bv : B ≤ V
theorem St.lt {B V g n : Nat} {W : World} {L : Loc} {R : RL} {S : SS} (h : St B V g n W L R S) : V < W.heap.size := by
  have := h.v.cells.1
  exact World.block_lt_of_cell? _ _ this
theorem St.below {B V g n : Nat} {W W' : World} {L : Loc} {R : RL} {S : SS} (h : St B V g n W L R S) (hb : Below W.heap.size W W') : St B V g n W' L R S :=
  ⟨h.s.below hb, h.wf, h.n_, h.g_, h.r.below hb, Row5.below h.v hb h.lt, h.nv, h.bv⟩
theorem St.flt {B V g n : Nat} {W : World} {L : Loc} {R : RL} {S : SS} (h : St B V g n W L R S) : ∀ k, (L.foot k ∨ k = V) → k < W.heap.size := by
  intro k hk
  rcases hk with hk | hk
  · exact h.s.foot_lt hk
  · subst hk; exact h.lt
theorem St.put {B V g n : Nat} {W : World} {L : Loc} {R : RL} {S : SS} (hs : SAt B W L S) (hw : S.wf) (hn : S.n = n) (hg : L.g = g) (hr : RAt (fun k => L.foot k ∨ k = V) W R S) {v0 v1 v2 v3 v4 : Value} (hv : Row5 W V v0 v1 v2 v3 v4) (hnv : ¬ L.foot V) (hbv : B ≤ V) :
    St B V g n (put5 R S W V) L R S :=
  ⟨hs.keep (put5_chg R S W V) (fun _ hk hf => hnv (hk ▸ hf)), hw, hn, hg, hr.keep (put5_chg R S W V) (fun _ hk => .inr hk) (fun _ hk => .inl hk), put5_row hv, hnv, hbv⟩
theorem put5_below {R : RL} {S : SS} {w W : World} {V : Nat} (h : Below w.heap.size w W) (hV : w.heap.size ≤ V) : Below w.heap.size w (put5 R S W V) :=
  h.trans (Chg.below (put5_chg R S W V) h.size (fun k hk => by have : k = V := hk; omega))
end Go.Proofs.Ytbmamikhjfieoaa
