/-
  THE STATE OF HandlesAgree, continued: Open, at every state ('oh' the answer, 'oe' the error, 'os', 'ov' the state behind).
-/
import Derived.Test.YtbmamikhjfieoaaHag
namespace Go.Proofs.Ytbmamikhjfieoaa
open Go.RowKit

def oh (S : SS) : Nat := if 0 < S.free then S.alloc.hdl S.next else 0
def oe (S : SS) : Int := if 0 < S.free then 0 else 2
def os (S : SS) : SS := if 0 < S.free then S.alloc else S
def ov (S : SS) (v : Nat → Int) (y : Int) : Nat → Int := if 0 < S.free then upd v S.next y else v
theorem os_wf {S : SS} (hw : S.wf) : (os S).wf := by
  unfold os
  split
  · exact hw.alloc (by assumption)
  · exact hw
section
variable {B V t n : Nat} {w w' : World} {x : Value} {T : TL} {S : SS} {v : Nat → Int} {Q : RTL} {S2 : SS} {v2 : Nat → Int} {zs : List Nat} {k : Nat}
theorem s4_open (y : Int) (h : S4 B V t n w x T S v Q S2 v2 zs k) (hk : k < 4294967295) :
    Calls Try.prog 35 #[.pointer (some ⟨t, 0, none⟩), .int .u32 y] w fun e w' => e = .returned (.tuple #[.int .u64 ((oh S : Nat) : Int), .int .i64 (oe S)]) ∧ S4 B V t n w' x T (os S) (ov S v y) Q S2 v2 zs (k + 1) ∧ Below B w w' := by
  unfold oh oe os ov
  by_cases hf : 0 < S.free
  · rw [if_pos hf, if_pos hf, if_pos hf, if_pos hf]
    exact s4_open_a y h hf hk
  · rw [if_neg hf, if_neg hf, if_neg hf, if_neg hf]
    exact (s4_open_full y h (by omega)).mono fun e w' ⟨he, hs, hb⟩ => ⟨he, hs.more, hb⟩
theorem r4_open {F : Nat → Prop} (y : Int) (h : RTAt F w Q S v) (hw : S.wf) (hF : ∀ k, F k → k < w.heap.size) :
    Calls Try.prog 46 #[Q.val S, .int .u32 y] w fun e w' => ∃ Q' : RTL, e = .returned (.tuple #[Q'.val (os S), .int .u64 ((oh S : Nat) : Int), .int .i64 (oe S)]) ∧ RTAt F w' Q' (os S) (ov S v y) ∧ Below w.heap.size w w' := by
  unfold oh oe os ov
  by_cases hf : 0 < S.free
  · rw [if_pos hf, if_pos hf, if_pos hf, if_pos hf]
    exact ref_open y h hw hF hf
  · rw [if_neg hf, if_neg hf, if_neg hf, if_neg hf]
    exact (ref_open_full y h hw (by omega)).mono fun e w' ⟨he, hb⟩ => ⟨Q, he, h.below hb, hb⟩
/-- The same, told against an earlier world: whatever was made since stays outside the new state. -/
theorem r4_open_from {F : Nat → Prop} (y : Int) (h : RTAt F w Q S v) (hw : S.wf) (hF : ∀ k, F k → k < w.heap.size) {W : World} (hW : Below w.heap.size w W) :
    Calls Try.prog 46 #[Q.val S, .int .u32 y] W fun e w' => ∃ Q' : RTL, e = .returned (.tuple #[Q'.val (os S), .int .u64 ((oh S : Nat) : Int), .int .i64 (oe S)]) ∧ RTAt (fun j => F j ∨ (w.heap.size ≤ j ∧ j < W.heap.size)) w' Q' (os S) (ov S v y) ∧ Below w.heap.size w w' ∧ Below W.heap.size W w' := by
  have h1 : RTAt (fun j => F j ∨ (w.heap.size ≤ j ∧ j < W.heap.size)) W Q S v := h.keep (Chg.of_below (F := Nil) hW) (fun _ h => h.elim) (fun j hj => hj.imp id (fun h => h.1))
  refine (r4_open y h1 hw (fun j hj => ?_)).mono ?_
  · rcases hj with hj | hj
    · exact Nat.lt_of_lt_of_le (hF j hj) hW.size
    · exact hj.2
  · rintro e w' ⟨Q', he, hr, hb⟩
    exact ⟨Q', he, hr, hW.trans (hb.mono hW.size), hb⟩
theorem iss_open {zs : List Nat} {k : Nat} (h : Iss S zs k) (hw : S.wf) (hf : 0 < S.free) (hk : k < 4294967295) : Iss (os S) (zs ++ [oh S]) (k + 1) := by
  unfold os oh
  rw [if_pos hf, if_pos hf]
  exact h.alloc hw hf hk
/-- The state in a variable of its own, as the store lays it. -/
theorem six_stored {Q' : RTL} {S' : SS} {p : Nat} {v0 v1 v2 v3 v4 v5 : Value} (h : Row6 w p v0 v1 v2 v3 v4 v5) :
    Q'.six S' ((((((w.setCell ⟨p, 0, none⟩ (.int .i64 (S'.n : Int))).setCell ⟨p, 1, none⟩ (.slice Q'.R.a S'.rl.length Q'.R.c)).setCell ⟨p, 2, none⟩ (.int .i64 ((S'.fresh : Int) + 1))).setCell ⟨p, 3, none⟩ (.slice (some ⟨Q'.R.gb, 0, none⟩) S'.n Q'.R.gc)).setCell ⟨p, 4, none⟩ (.slice (some ⟨Q'.R.ob, 0, none⟩) S'.n Q'.R.oc)).setCell ⟨p, 5, none⟩ (.slice (some ⟨Q'.vb, 0, none⟩) S'.n Q'.vc)) p := Row6.set05 h _ _ _ _ _ _
theorem put6_chg {p : Nat} {u0 u1 u2 u3 u4 u5 : Value} : Chg (fun j => j = p) w ((((((w.setCell ⟨p, 0, none⟩ u0).setCell ⟨p, 1, none⟩ u1).setCell ⟨p, 2, none⟩ u2).setCell ⟨p, 3, none⟩ u3).setCell ⟨p, 4, none⟩ u4).setCell ⟨p, 5, none⟩ u5) :=
  ((((((Chg.refl (fun j => j = p) w).setCell (p := ⟨p, 0, none⟩) (.inl rfl) _).setCell (p := ⟨p, 1, none⟩) (.inl rfl) _).setCell (p := ⟨p, 2, none⟩) (.inl rfl) _).setCell (p := ⟨p, 3, none⟩) (.inl rfl) _).setCell (p := ⟨p, 4, none⟩) (.inl rfl) _).setCell (p := ⟨p, 5, none⟩) (.inl rfl) _
end
end Go.Proofs.Ytbmamikhjfieoaa
