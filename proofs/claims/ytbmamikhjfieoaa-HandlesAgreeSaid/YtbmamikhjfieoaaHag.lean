/-
  THE STATE OF HandlesAgree: the table, the handles that it issued, and the reference's table in a variable ('S4'); what a call does to it.
-/
import Derived.Test.YtbmamikhjfieoaaRth
namespace Go.Proofs.Ytbmamikhjfieoaa
open Go.RowKit

/-- What Lookup, Replace and Close answer, and what they leave. -/
def tk (S : SS) (v : Nat → Int) (h : Nat) : Int := if S.op h then v (ent h) else 0
def te (S : SS) (h : Nat) : Int := if S.op h then 0 else 5
def rv (S : SS) (v : Nat → Int) (h : Nat) (y : Int) : Nat → Int := if S.op h then upd v (ent h) y else v
def cs (S : SS) (h : Nat) : SS := if S.op h then S.release (ent h) else S
theorem cs_wf {S : SS} (hw : S.wf) (h : Nat) : (cs S h).wf := by
  unfold cs
  cases ho : S.op h with
  | true => exact hw.release (SS.op_on ho).1
  | false => exact hw
theorem cs_n (S : SS) (h : Nat) : (cs S h).n = S.n := by unfold cs; split <;> rfl
theorem cs_iss {S : SS} {zs : List Nat} {k : Nat} (h : Iss S zs k) (x : Nat) : Iss (cs S x) zs k := by
  unfold cs
  split
  · exact h.release _
  · exact h
theorem Iss.alloc0 {S : SS} {zs : List Nat} {k : Nat} (h : Iss S zs k) (hw : S.wf) (hf : 0 < S.free) (hk : k < 4294967295) : Iss S.alloc zs (k + 1) := by
  have h1 := h.alloc hw hf hk
  exact ⟨h.nd, fun x hx => h1.le x (List.mem_append_left _ hx), h1.gk, by have := h.len; omega⟩

/-- The reference's table in the variable at V. -/
def RTL.six (Q : RTL) (S : SS) (w : World) (V : Nat) : Prop := Row6 w V (.int .i64 (S.n : Int)) (.slice Q.R.a S.rl.length Q.R.c) (.int .i64 ((S.fresh : Int) + 1)) (.slice (some ⟨Q.R.gb, 0, none⟩) S.n Q.R.gc) (.slice (some ⟨Q.R.ob, 0, none⟩) S.n Q.R.oc) (.slice (some ⟨Q.vb, 0, none⟩) S.n Q.vc)

structure S4 (B V t n : Nat) (w : World) (x : Value) (T : TL) (S : SS) (v : Nat → Int) (Q : RTL) (S2 : SS) (v2 : Nat → Int) (zs : List Nat) (k : Nat) : Prop where
  pl : Pl B w t n x T S v zs k
  r : RTAt (fun j => T.foot j ∨ x.ownBlock = some j ∨ j = V) w Q S2 v2
  v6 : Q.six S2 w V
  nv : ¬ T.foot V
  bv : B ≤ V

theorem six_lt {Q : RTL} {S : SS} {w : World} {V : Nat} (h : Q.six S w V) : V < w.heap.size := by
  unfold RTL.six Row6 at h
  exact (Array.getElem?_eq_some_iff.1 h).1
theorem six_own {Q : RTL} {S : SS} {w : World} {V : Nat} (h : Q.six S w V) {B n : Nat} {x : Value} {xs : List Value} (ho : w.ownsRow B 58 1 x n xs) : x.ownBlock ≠ some V := by
  rcases ho.2 with ⟨hv, _⟩ | ⟨g, cap, cur, hv, _, hg, _⟩
  · subst hv; simp [Value.ownBlock]
  · subst hv
    intro he
    simp [Value.ownBlock] at he
    subst he
    unfold RTL.six Row6 at h
    rw [hg] at h
    injection h with h
    injection h with _ h
    cases h

section
variable {B V t n : Nat} {w w' : World} {x : Value} {T : TL} {S : SS} {v : Nat → Int} {Q : RTL} {S2 : SS} {v2 : Nat → Int} {zs : List Nat} {k : Nat}
theorem S4.lt (h : S4 B V t n w x T S v Q S2 v2 zs k) : V < w.heap.size := six_lt h.v6
theorem S4.size_le (h : S4 B V t n w x T S v Q S2 v2 zs k) : B ≤ w.heap.size := h.pl.size_le
theorem S4.flt (h : S4 B V t n w x T S v Q S2 v2 zs k) (j : Nat) (hj : T.foot j ∨ x.ownBlock = some j ∨ j = V) : j < w.heap.size := by
  rcases hj with hj | hj | hj
  · exact h.pl.tab.foot_lt hj
  · exact (h.pl.own.lt j hj).2
  · rw [hj]; exact h.lt
theorem S4.below (h : S4 B V t n w x T S v Q S2 v2 zs k) (hb : Below w.heap.size w w') : S4 B V t n w' x T S v Q S2 v2 zs k :=
  ⟨h.pl.below hb, h.r.below hb, Row6.below h.v6 hb h.lt, h.nv, h.bv⟩
theorem S4.more (h : S4 B V t n w x T S v Q S2 v2 zs k) : S4 B V t n w x T S v Q S2 v2 zs (k + 1) := ⟨h.pl.more, h.r, h.v6, h.nv, h.bv⟩
/-- A call of the table. -/
theorem S4.tstep {T' : TL} {S' : SS} {v' : Nat → Int} {k' : Nat} (h : S4 B V t n w x T S v Q S2 v2 zs k) (hT : TAt B w' T' S' v') (hc : Chg T.foot w w') (hf : ∀ j, T'.foot j → T.foot j ∨ w.heap.size ≤ j) (hw : S'.wf) (hn : S'.n = n) (ht : T'.t = t) (hi : Iss S' zs k') :
    S4 B V t n w' x T' S' v' Q S2 v2 zs k' :=
  ⟨h.pl.step hT hc hw hn ht hi, h.r.keep hc (fun _ h => .inl h) (fun j hj => by
    rcases hj with hj | hj | hj
    · exact (hf j hj).imp .inl id
    · exact .inl (.inr (.inl hj))
    · exact .inl (.inr (.inr hj))), (hc.block _ h.lt h.nv).trans h.v6, fun hv => by
      rcases hf V hv with h1 | h1
      · exact h.nv h1
      · have := h.lt; omega, h.bv⟩
/-- A new state of the reference is stored. -/
theorem S4.put {Q' : RTL} {S' : SS} {v' : Nat → Int} (h : S4 B V t n w x T S v Q S2 v2 zs k) (hr : RTAt (fun j => T.foot j ∨ x.ownBlock = some j ∨ j = V) w Q' S' v') :
    S4 B V t n ((((((w.setCell ⟨V, 0, none⟩ (.int .i64 (S'.n : Int))).setCell ⟨V, 1, none⟩ (.slice Q'.R.a S'.rl.length Q'.R.c)).setCell ⟨V, 2, none⟩ (.int .i64 ((S'.fresh : Int) + 1))).setCell ⟨V, 3, none⟩ (.slice (some ⟨Q'.R.gb, 0, none⟩) S'.n Q'.R.gc)).setCell ⟨V, 4, none⟩ (.slice (some ⟨Q'.R.ob, 0, none⟩) S'.n Q'.R.oc)).setCell ⟨V, 5, none⟩ (.slice (some ⟨Q'.vb, 0, none⟩) S'.n Q'.vc)) x T S v Q' S' v' zs k := by
  have hC : Chg (fun j => j = V) w _ := ((((((Chg.refl (fun j => j = V) w).setCell (p := ⟨V, 0, none⟩) (.inl rfl) (.int .i64 (S'.n : Int))).setCell (p := ⟨V, 1, none⟩) (.inl rfl) (.slice Q'.R.a S'.rl.length Q'.R.c)).setCell (p := ⟨V, 2, none⟩) (.inl rfl) (.int .i64 ((S'.fresh : Int) + 1))).setCell (p := ⟨V, 3, none⟩) (.inl rfl) (.slice (some ⟨Q'.R.gb, 0, none⟩) S'.n Q'.R.gc)).setCell (p := ⟨V, 4, none⟩) (.inl rfl) (.slice (some ⟨Q'.R.ob, 0, none⟩) S'.n Q'.R.oc)).setCell (p := ⟨V, 5, none⟩) (.inl rfl) (.slice (some ⟨Q'.vb, 0, none⟩) S'.n Q'.vc)
  exact ⟨⟨h.pl.tab.keep hC (fun j hj hf => h.nv (hj ▸ hf)), h.pl.wf, h.pl.n_, h.pl.t_, own_of_block h.pl.own (fun j hj => hC.block j (h.pl.own.lt j hj).2 (fun e => six_own h.v6 h.pl.own (e ▸ hj))), h.pl.iss⟩,
    hr.keep hC (fun j hj => .inr (.inr hj)) (fun _ h => .inl h), Row6.set05 h.v6 _ _ _ _ _ _, h.nv, h.bv⟩
theorem put6_below {X : World} {Q' : RTL} {S' : SS} (hb : Below B X w) (hV : B ≤ V) :
    Below B X ((((((w.setCell ⟨V, 0, none⟩ (.int .i64 (S'.n : Int))).setCell ⟨V, 1, none⟩ (.slice Q'.R.a S'.rl.length Q'.R.c)).setCell ⟨V, 2, none⟩ (.int .i64 ((S'.fresh : Int) + 1))).setCell ⟨V, 3, none⟩ (.slice (some ⟨Q'.R.gb, 0, none⟩) S'.n Q'.R.gc)).setCell ⟨V, 4, none⟩ (.slice (some ⟨Q'.R.ob, 0, none⟩) S'.n Q'.R.oc)).setCell ⟨V, 5, none⟩ (.slice (some ⟨Q'.vb, 0, none⟩) S'.n Q'.vc)) :=
  (((((hb.setCell (p := ⟨V, 0, none⟩) hV _).setCell (p := ⟨V, 1, none⟩) hV _).setCell (p := ⟨V, 2, none⟩) hV _).setCell (p := ⟨V, 3, none⟩) hV _).setCell (p := ⟨V, 4, none⟩) hV _).setCell (p := ⟨V, 5, none⟩) hV _
/-- A handle is appended to the list. -/
theorem S4.push {x' : Value} {z : Nat} (h : S4 B V t n w x T S v Q S2 v2 zs k) (hi : Iss S (zs ++ [z]) k)
    (ho : w'.ownsRow B 58 1 x' (zs.length + 1) ((natsI zs).map (Value.int .u64) ++ [.int .u64 (z : Int)])) (hg : Chg (fun j => x.ownBlock = some j) w w') (hx : ∀ j, x'.ownBlock = some j → x.ownBlock = some j ∨ w.heap.size ≤ j) :
    S4 B V t n w' x' T S v Q S2 v2 (zs ++ [z]) k :=
  ⟨⟨h.pl.tab.keep hg (fun j hj => h.pl.tab.apart h.pl.own j hj), h.pl.wf, h.pl.n_, h.pl.t_, by
    have e : (natsI (zs ++ [z])).map (Value.int .u64) = (natsI zs).map (Value.int .u64) ++ [.int .u64 (z : Int)] := by simp [natsI]
    rw [e, List.length_append]
    exact ho, hi⟩, h.r.keep hg (fun j hj => .inr (.inl hj)) (fun j hj => by
      rcases hj with hj | hj | hj
      · exact .inl (.inl hj)
      · exact (hx j hj).imp (fun h => .inr (.inl h)) id
      · exact .inl (.inr (.inr hj))), (hg.block _ h.lt (fun hj => six_own h.v6 h.pl.own hj)).trans h.v6, h.nv, h.bv⟩

theorem s4_lookup_a (h0 : Nat) (h : S4 B V t n w x T S v Q S2 v2 zs k) (hh : h0 ≤ 18446744073709551615) :
    Calls Try.prog 39 #[.pointer (some ⟨t, 0, none⟩), .int .u64 (h0 : Int)] w fun e w' => e = .returned (.tuple #[.int .u32 (tk S v h0), .int .i64 (te S h0)]) ∧ w = w' := by
  rw [← h.pl.t_]
  unfold tk te
  cases ho : S.op h0 with
  | false => exact lookup_no h0 h.pl.tab h.pl.wf hh ho
  | true => exact lookup_yes h0 h.pl.tab h.pl.wf hh ho
theorem s4_replace_a (h0 : Nat) (y : Int) (h : S4 B V t n w x T S v Q S2 v2 zs k) (hh : h0 ≤ 18446744073709551615) :
    Calls Try.prog 37 #[.pointer (some ⟨t, 0, none⟩), .int .u64 (h0 : Int), .int .u32 y] w fun e w' => e = .returned (.int .i64 (te S h0)) ∧ S4 B V t n w' x T S (rv S v h0 y) Q S2 v2 zs k ∧ Below B w w' := by
  rw [← h.pl.t_]
  unfold te rv
  cases ho : S.op h0 with
  | false => exact (replace_no h0 y h.pl.tab h.pl.wf hh ho).mono fun e w' ⟨he, hw'⟩ => ⟨he, hw' ▸ (h.pl.t_.symm ▸ h), hw' ▸ Below.refl _ _⟩
  | true =>
    refine (replace_yes h0 y h.pl.tab h.pl.wf hh ho).mono fun e w' ⟨he, hw'⟩ => ?_
    have hc : Chg T.foot w w' := by rw [hw']; exact (Chg.refl _ w).setCell (.inl (.inr (.inl rfl))) _
    exact ⟨he, h.pl.t_.symm ▸ h.tstep (by rw [hw']; exact h.pl.tab.updv _ _) hc (fun _ h => .inl h) h.pl.wf h.pl.n_ h.pl.t_ h.pl.iss, h.pl.tab.chg_below hc⟩
theorem s4_close_a (h0 : Nat) (h : S4 B V t n w x T S v Q S2 v2 zs k) (hh : h0 ≤ 18446744073709551615) :
    Calls Try.prog 38 #[.pointer (some ⟨t, 0, none⟩), .int .u64 (h0 : Int)] w fun e w' => ∃ T', e = .returned (.tuple #[.int .u32 (tk S v h0), .int .i64 (te S h0)]) ∧ S4 B V t n w' x T' (cs S h0) v Q S2 v2 zs k ∧ Below B w w' := by
  rw [← h.pl.t_]
  unfold tk te cs
  cases ho : S.op h0 with
  | false => exact (close_no h0 h.pl.tab h.pl.wf hh ho).mono fun e w' ⟨he, hw'⟩ => ⟨T, he, hw' ▸ (h.pl.t_.symm ▸ h), hw' ▸ Below.refl _ _⟩
  | true =>
    refine (close_yes h0 h.pl.tab h.pl.wf hh ho).mono fun e w' ⟨T', he, ht, hT, hc, hf⟩ => ?_
    exact ⟨T', he, h.pl.t_.symm ▸ h.tstep hT hc hf (h.pl.wf.release (SS.op_on ho).1) h.pl.n_ (ht.trans h.pl.t_) (h.pl.iss.release _), h.pl.tab.chg_below hc⟩
theorem s4_open_full (y : Int) (h : S4 B V t n w x T S v Q S2 v2 zs k) (hf : S.free = 0) :
    Calls Try.prog 35 #[.pointer (some ⟨t, 0, none⟩), .int .u32 y] w fun e w' => e = .returned (.tuple #[.int .u64 0, .int .i64 2]) ∧ S4 B V t n w' x T S v Q S2 v2 zs k ∧ Below B w w' := by
  rw [← h.pl.t_]
  refine (open_full y h.pl.tab h.pl.wf hf).mono fun e w' ⟨he, hq⟩ => ?_
  have hb : Below w.heap.size w w' := (hq.chg Nil).below (Nat.le_refl _) (fun _ h => h.elim)
  exact ⟨he, h.pl.t_.symm ▸ h.below hb, hb.mono h.size_le⟩
theorem s4_open_a (y : Int) (h : S4 B V t n w x T S v Q S2 v2 zs k) (hf : 0 < S.free) (hk : k < 4294967295) :
    Calls Try.prog 35 #[.pointer (some ⟨t, 0, none⟩), .int .u32 y] w fun e w' => e = .returned (.tuple #[.int .u64 ((S.alloc.hdl S.next : Nat) : Int), .int .i64 0]) ∧ S4 B V t n w' x T S.alloc (upd v S.next y) Q S2 v2 zs (k + 1) ∧ Below B w w' := by
  rw [← h.pl.t_]
  exact (open_any y h.pl.tab h.pl.wf hf).mono fun e w' ⟨he, hT, hc⟩ => ⟨he, h.pl.t_.symm ▸ h.tstep hT hc (fun _ h => .inl h) (h.pl.wf.alloc hf) (by rw [S.alloc_n]; exact h.pl.n_) h.pl.t_ (h.pl.iss.alloc0 h.pl.wf hf hk), h.pl.tab.chg_below hc⟩

theorem r4_lookup {F : Nat → Prop} (h0 : Nat) (h : RTAt F w Q S v) (hw : S.wf) (hh : h0 ≤ 18446744073709551615) :
    Calls Try.prog 43 #[Q.val S, .int .u64 (h0 : Int)] w fun e w' => e = .returned (.tuple #[.int .u32 (tk S v h0), .int .i64 (te S h0)]) ∧ Below w.heap.size w w' := by
  unfold tk te
  cases ho : S.op h0 with
  | false => exact ref_lookup_no h0 h hw hh ho
  | true => exact ref_lookup_yes h0 h hw hh ho
theorem r4_replace {F : Nat → Prop} (h0 : Nat) (y : Int) (h : RTAt F w Q S v) (hw : S.wf) (hF : ∀ k, F k → k < w.heap.size) (hh : h0 ≤ 18446744073709551615) :
    Calls Try.prog 44 #[Q.val S, .int .u64 (h0 : Int), .int .u32 y] w fun e w' => ∃ Q' : RTL, e = .returned (.tuple #[Q'.val S, .int .i64 (te S h0)]) ∧ RTAt F w' Q' S (rv S v h0 y) ∧ Below w.heap.size w w' := by
  unfold te rv
  cases ho : S.op h0 with
  | false => exact (ref_replace_no h0 y h hw hh ho).mono fun e w' ⟨he, hb⟩ => ⟨Q, he, h.below hb, hb⟩
  | true => exact ref_replace h0 y h hw hF hh ho
theorem r4_close {F : Nat → Prop} (h0 : Nat) (h : RTAt F w Q S v) (hw : S.wf) (hF : ∀ k, F k → k < w.heap.size) (hh : h0 ≤ 18446744073709551615) :
    Calls Try.prog 45 #[Q.val S, .int .u64 (h0 : Int)] w fun e w' => ∃ Q' : RTL, e = .returned (.tuple #[Q'.val (cs S h0), .int .u32 (tk S v h0), .int .i64 (te S h0)]) ∧ RTAt F w' Q' (cs S h0) v ∧ Below w.heap.size w w' := by
  unfold tk te cs
  cases ho : S.op h0 with
  | false => exact (ref_close_no h0 h hw hh ho).mono fun e w' ⟨he, hb⟩ => ⟨Q, he, h.below hb, hb⟩
  | true => exact ref_close h0 h hw hF hh ho
end
theorem SS.wf.len_opens {S : SS} (h : S.wf) : (S.n : Int) - (S.free : Int) = ((opens S).length : Int) := by
  have hc := h.cnt
  have hf := h.fr
  have e : ((List.range (S.n + 1)).filter S.on).length = (opens S).length := by
    unfold opens
    rw [List.length_map, List.range_eq_range', show S.n + 1 = 1 + S.n by omega, ← List.range'_append_1, List.filter_append]
    have h0 : S.on 0 = false := by
      cases ho : S.on 0 with
      | false => rfl
      | true => have := (h.on 0 ho).1; omega
    simp [h0]
  unfold SS.free
  omega
end Go.Proofs.Ytbmamikhjfieoaa
