/-
  THE CONTRACTS OF versionmapref4's Table, which goes by value: Pack, Unpack, entry, Lookup. At every state that stands for a table ('RTAt').
-/
import Derived.Test.YtbmamikhjfieoaaRefo
import Derived.Test.YtbmamikhjfieoaaHap
namespace Go.Proofs.Ytbmamikhjfieoaa
open Go.RowKit

set_option maxHeartbeats 400000 in
theorem rpack_any (i g : Int) (w : World) (h1 : 0 ≤ i) (h2 : i ≤ 4294967295) (h3 : 0 ≤ g) (h4 : g ≤ 4294967295) :
    Calls Try.prog 52 #[.int .u32 i, .int .u32 g] w fun e w' => e = .returned (.int .u64 (g * 4294967296 + i)) ∧ w = w' := by
  go_enter Try.func52, Try.ntmps52
  go_wp2
  go_ret
  exact ⟨rfl, rfl⟩

set_option maxHeartbeats 400000 in
theorem runpack_any (h : Nat) (w : World) (h2 : h ≤ 18446744073709551615) :
    Calls Try.prog 55 #[.int .u64 (h : Int)] w fun e w' => e = .returned (.tuple #[.int .u32 ((h % 4294967296 : Nat) : Int), .int .u32 ((h / 4294967296 : Nat) : Int)]) ∧ w = w' := by
  have E1 := hid (show ((h % 4294967296 : Nat) : Int) = (h : Int) % 4294967296 by omega)
  have E2 := hid (show ((h / 4294967296 : Nat) : Int) = (h : Int) / 4294967296 by omega)
  rw [E1.out, E2.out]
  go_enter Try.func55, Try.ntmps55
  go_wp2
  go_ret2
  exact ⟨rfl, rfl⟩

/-- A struct of six cells in a block of its own. -/
def Row6 (w : World) (b : Nat) (v0 v1 v2 v3 v4 v5 : Value) : Prop := w.heap[b]? = some (.cells #[v0, v1, v2, v3, v4, v5] 74)
section
variable {w w' : World} {b : Nat} {v0 v1 v2 v3 v4 v5 : Value}
theorem Row6.cells (h : Row6 w b v0 v1 v2 v3 v4 v5) : w.cell? ⟨b, 0, none⟩ = some v0 ∧ w.cell? ⟨b, 1, none⟩ = some v1 ∧ w.cell? ⟨b, 2, none⟩ = some v2 ∧ w.cell? ⟨b, 3, none⟩ = some v3 ∧ w.cell? ⟨b, 4, none⟩ = some v4 ∧ w.cell? ⟨b, 5, none⟩ = some v5 :=
  ⟨cell_of_heap h 0 _ rfl, cell_of_heap h 1 _ rfl, cell_of_heap h 2 _ rfl, cell_of_heap h 3 _ rfl, cell_of_heap h 4 _ rfl, cell_of_heap h 5 _ rfl⟩
theorem Row6.frz (h : Row6 w b v0 v1 v2 v3 v4 v5) : w.frozen? ⟨b, 0, none⟩ = false ∧ w.frozen? ⟨b, 1, none⟩ = false ∧ w.frozen? ⟨b, 2, none⟩ = false ∧ w.frozen? ⟨b, 3, none⟩ = false ∧ w.frozen? ⟨b, 4, none⟩ = false ∧ w.frozen? ⟨b, 5, none⟩ = false :=
  ⟨frozen_of_heap h 0, frozen_of_heap h 1, frozen_of_heap h 2, frozen_of_heap h 3, frozen_of_heap h 4, frozen_of_heap h 5⟩
theorem Row6.below {B : Nat} (h : Row6 w b v0 v1 v2 v3 v4 v5) (hb : Below B w w') (hlt : b < B) : Row6 w' b v0 v1 v2 v3 v4 v5 := (hb.block b hlt).trans h
theorem Row6.set5 (h : Row6 w b v0 v1 v2 v3 v4 v5) (u : Value) : Row6 (w.setCell ⟨b, 5, none⟩ u) b v0 v1 v2 v3 v4 u := by
  unfold Row6 at *
  simp [World.setCell, Array.getElem?_modify, h]
/-- The first five cells are stored. -/
theorem Row6.set04 (h : Row6 w b v0 v1 v2 v3 v4 v5) (u0 u1 u2 u3 u4 : Value) : Row6 (((((w.setCell ⟨b, 0, none⟩ u0).setCell ⟨b, 1, none⟩ u1).setCell ⟨b, 2, none⟩ u2).setCell ⟨b, 3, none⟩ u3).setCell ⟨b, 4, none⟩ u4) b u0 u1 u2 u3 u4 v5 := by
  unfold Row6 at *
  simp [World.setCell, Array.getElem?_modify, h]
theorem Row6.set05 (h : Row6 w b v0 v1 v2 v3 v4 v5) (u0 u1 u2 u3 u4 u5 : Value) : Row6 ((((((w.setCell ⟨b, 0, none⟩ u0).setCell ⟨b, 1, none⟩ u1).setCell ⟨b, 2, none⟩ u2).setCell ⟨b, 3, none⟩ u3).setCell ⟨b, 4, none⟩ u4).setCell ⟨b, 5, none⟩ u5) b u0 u1 u2 u3 u4 u5 := by
  unfold Row6 at *
  simp [World.setCell, Array.getElem?_modify, h]
theorem Row6.other (h : Row6 w b v0 v1 v2 v3 v4 v5) (a : Addr) (hne : b ≠ a.block) (u : Value) : Row6 (w.setCell a u) b v0 v1 v2 v3 v4 v5 := (Below.heap_setCell w a u b hne).trans h
end

/-- Where the reference's table lies. -/
structure RTL where
  R : RL
  vb : Nat
  vc : Nat
def RTL.val (Q : RTL) (S : SS) : Value := .agg #[.int .i64 (S.n : Int), .slice Q.R.a S.rl.length Q.R.c, .int .i64 ((S.fresh : Int) + 1), .slice (some ⟨Q.R.gb, 0, none⟩) S.n Q.R.gc, .slice (some ⟨Q.R.ob, 0, none⟩) S.n Q.R.oc, .slice (some ⟨Q.vb, 0, none⟩) S.n Q.vc]
/-- The reference's table in memory, in blocks outside F. -/
structure RTAt (F : Nat → Prop) (w : World) (Q : RTL) (S : SS) (v : Nat → Int) : Prop where
  r : RAt F w Q.R S
  vl : Q.vb < w.heap.size
  vF : ¬ F Q.vb
  vs : ∀ j, j < S.n → w.cell? ⟨Q.vb, j, none⟩ = some (.int .u32 (v (j + 1)))
  vc : S.n ≤ Q.vc ∧ Q.vc ≤ maxLen
theorem RTAt.keep {F F' G : Nat → Prop} {w w' : World} {Q : RTL} {S : SS} {v : Nat → Int} (h : RTAt F w Q S v) (hc : Chg G w w') (hG : ∀ i, G i → F i) (hF : ∀ i, F' i → F i ∨ w.heap.size ≤ i) : RTAt F' w' Q S v :=
  ⟨h.r.keep hc hG hF, Nat.lt_of_lt_of_le h.vl hc.size, fun hf => by rcases hF _ hf with h1 | h1; exact h.vF h1; have := h.vl; omega,
    fun j hj => (World.cell?_of_block (w := w) (a := ⟨Q.vb, j, none⟩) (hc.block _ h.vl (fun hg => h.vF (hG _ hg)))).trans (h.vs j hj), h.vc⟩
theorem RTAt.below {F : Nat → Prop} {w w' : World} {Q : RTL} {S : SS} {v : Nat → Int} (h : RTAt F w Q S v) (hb : Below w.heap.size w w') : RTAt F w' Q S v :=
  h.keep (Chg.of_below (F := Nil) hb) (fun _ h => h.elim) (fun _ h => .inl h)
theorem RTAt.weak {F F' : Nat → Prop} {w : World} {Q : RTL} {S : SS} {v : Nat → Int} (h : RTAt F w Q S v) (hF : ∀ i, F' i → F i) : RTAt F' w Q S v :=
  h.keep (Chg.refl Nil w) (fun _ h => h.elim) (fun i hi => .inl (hF i hi))

section
variable {F : Nat → Prop} {w : World} {Q : RTL} {S : SS} {v : Nat → Int}

set_option maxRecDepth 100000 in
set_option maxHeartbeats 1000000 in
theorem ref_entry (h : Nat) (hR : RTAt F w Q S v) (hw : S.wf) (hh : h ≤ 18446744073709551615) :
    Calls Try.prog 51 #[Q.val S, .int .u64 (h : Int)] w fun e w' => e = .returned (.int .u32 (((if S.op h then ent h else 0 : Nat)) : Int)) ∧ Below w.heap.size w w' := by
  have hi := ent_le h
  have HR := hid hR
  have HW := hid hw
  have HE := hid (show ent h = h % 4294967296 from rfl)
  cases hon : S.on (ent h) with
  | false =>
    have HO := hid hon
    have HX := hid (show (if S.op h then ent h else 0 : Nat) = 0 by unfold SS.op; rw [hon]; rfl)
    rw [HX.out]
    obtain ⟨i, hi'⟩ : ∃ i, i = ent h := ⟨_, rfl⟩
    rw [← hi'] at HO hi HE
    clear hR hw hon hi' HX
    unfold RTL.val
    go_enter Try.func51, Try.ntmps51
    go_wp2_with fail
    refine (runpack_any h _ hh).mono ?_
    rintro e w' ⟨rfl, rfl⟩
    rw [← HE.out]
    go_wp2_with fail
    refine (ref_allocd (R := Q.R) i (HR.out.r.below ((Below.refl _ w).alloc (Nat.le_refl _) _)) HW.out hi).mono ?_
    rintro e w1 ⟨rfl, hb⟩
    rw [HO.out]
    have hbb : Below w.heap.size w w1 := ((Below.refl _ w).alloc (Nat.le_refl _) _).trans (hb.mono (by simp))
    clear hb
    go_wp2
    go_ret
    exact ⟨rfl, hbb⟩
  | true =>
    have HO := hid hon
    have hg0 := hw.g0 (ent h)
    have hq : h / 4294967296 ≤ 4294967295 := by omega
    have hop : S.op h = decide (S.gen (ent h) = ((h / 4294967296 : Nat) : Int)) := by
      unfold SS.op
      rw [hon, Bool.true_and]
      apply decide_eq_decide.2
      unfold SS.hdl ent
      unfold ent at hg0
      omega
    have HOP := hid hop
    obtain ⟨x, hx⟩ : ∃ x, x = S.gen (ent h) := ⟨_, rfl⟩
    obtain ⟨y, hy⟩ : ∃ y, y = h / 4294967296 := ⟨_, rfl⟩
    obtain ⟨i, hi'⟩ : ∃ i, i = ent h := ⟨_, rfl⟩
    rw [← hi'] at HO hi HE hx HOP ⊢
    rw [← hx, ← hy] at HOP
    have HX := hid hx
    have HY := hid hy
    by_cases hxy : x = (y : Int)
    · have HT := hid (show (if S.op h then i else 0 : Nat) = i by rw [HOP.out, hxy]; simp)
      rw [HT.out]
      have e1 : (x == (y : Int)) = true := by simp [hxy]
      have e2 : (x != (y : Int)) = false := by simp [hxy]
      clear hR hw hon hi' hg0 hop hx hy hxy
      unfold RTL.val
      go_enter Try.func51, Try.ntmps51
      go_wp2_with fail
      refine (runpack_any h _ hh).mono ?_
      rintro e w' ⟨rfl, rfl⟩
      rw [← HE.out, ← HY.out]
      go_wp2_with fail
      refine (ref_allocd (R := Q.R) i (HR.out.r.below ((Below.refl _ w).alloc (Nat.le_refl _) _)) HW.out hi).mono ?_
      rintro e w1 ⟨rfl, hb⟩
      rw [HO.out]
      have B1 : Row6 w1 w.heap.size _ _ _ _ _ _ := (hb.block _ (by simp)).trans (heap_alloc_new w _)
      have hbb : Below w.heap.size w w1 := ((Below.refl _ w).alloc (Nat.le_refl _) _).trans (hb.mono (by simp))
      have HB := hid hbb
      obtain ⟨a0, a1, a2, a3, a4, a5⟩ := B1.cells
      clear hb hbb B1
      go_wp2_with fail
      refine (ref_gen (R := Q.R) i (HR.out.r.below HB.out) HW.out hi).mono ?_
      rintro e w2 ⟨rfl, hb⟩
      rw [← HX.out]
      have hbb := HB.out.trans (hb.mono HB.out.size)
      clear hb a0 a1 a2 a3 a4 a5
      go_wp2
      go_ret
      exact ⟨rfl, hbb⟩
    · have HT := hid (show (if S.op h then i else 0 : Nat) = 0 by rw [HOP.out]; simp [hxy])
      rw [HT.out]
      have e1 : (x == (y : Int)) = false := by simp [hxy]
      have e2 : (x != (y : Int)) = true := by simp [hxy]
      clear hR hw hon hi' hg0 hop hx hy hxy
      unfold RTL.val
      go_enter Try.func51, Try.ntmps51
      go_wp2_with fail
      refine (runpack_any h _ hh).mono ?_
      rintro e w' ⟨rfl, rfl⟩
      rw [← HE.out, ← HY.out]
      go_wp2_with fail
      refine (ref_allocd (R := Q.R) i (HR.out.r.below ((Below.refl _ w).alloc (Nat.le_refl _) _)) HW.out hi).mono ?_
      rintro e w1 ⟨rfl, hb⟩
      rw [HO.out]
      have B1 : Row6 w1 w.heap.size _ _ _ _ _ _ := (hb.block _ (by simp)).trans (heap_alloc_new w _)
      have hbb : Below w.heap.size w w1 := ((Below.refl _ w).alloc (Nat.le_refl _) _).trans (hb.mono (by simp))
      have HB := hid hbb
      obtain ⟨a0, a1, a2, a3, a4, a5⟩ := B1.cells
      clear hb hbb B1
      go_wp2_with fail
      refine (ref_gen (R := Q.R) i (HR.out.r.below HB.out) HW.out hi).mono ?_
      rintro e w2 ⟨rfl, hb⟩
      rw [← HX.out]
      have hbb := HB.out.trans (hb.mono HB.out.size)
      clear hb a0 a1 a2 a3 a4 a5
      go_wp2
      go_ret
      exact ⟨rfl, hbb⟩
end
end Go.Proofs.Ytbmamikhjfieoaa
