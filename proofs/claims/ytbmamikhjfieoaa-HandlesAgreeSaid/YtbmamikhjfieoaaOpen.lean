/-
  WHAT A SLICE OF CALLS AMONG THE ARGUMENTS GIVES THE WALK ('CArg3', 'CArg4'); the two closed facts on the program. No conditions. 'open_slice_fields' is the kit's own lemma (extra-structs).
-/
import Derived.Test.YtbmamikhjfieoaaRows
import Derived.Test.YtbmamikhjfieoaaPlay
import Derived.WalkKit
import Derived.ProofKit
import Derived.OpenShut
import Derived.ChangeOld
import Derived.SizedLaws
import Derived.Deep.Slices
import Derived.Deep.Fields
import Derived.ChangeSame
namespace Go.Proofs.Ytbmamikhjfieoaa
open Go.ChangeShapes Go.WideShapes Go.ChangeAt Go.RowKit Go.Deep

theorem own : ownKnob Try.prog.godebug = none := by kernel_rfl
theorem laidOut : laidOutB Try.prog = true := by kernel_rfl
theorem bytes45 : Try.prog.bytesOf 45 = 8 := by kernel_rfl
theorem bytes68 : Try.prog.bytesOf 68 = 24 := by kernel_rfl

section
variable {H : Type} {enc : TypeId × Value → H} {P : Program} {w : World} {base : Nat} {spare : Nat → Bool} {held : Bool}
theorem open_slice_fields {t e : TypeId} {fs : Array Field} {fuel : Nat} {cs : List Value} {x : DataW H × List MemPlace} (ht : P.underlying t = some (.slice e)) (he : P.underlying e = some (.struct fs))
    (hone : oneCellFields P fs = true) (hC : P.cellsOf e = fs.size) (h : DataW.trod enc P w base spare held fuel t cs = some x) :
    (cs = [.slice none 0 0] ∧ x = (.nil, [])) ∨
    ∃ (a : Addr) (len cap m : Nat) (D : Nat → DataW H) (Pl : Nat → List MemPlace), cs = [.slice (some a) len cap] ∧ base ≤ a.block ∧ len ≤ cap ∧ cap ≤ maxLen ∧ m = (if spare a.block then cap else len) ∧
      x = (.slice ((List.range len).map D) ((List.range (m - len)).map fun j => D (len + j)), MemPlace.row a (m * fs.size) ++ (List.range m).flatMap Pl) ∧
      ∀ i, i < m → ∃ (ys : List (DataW H × List MemPlace)) (n : Nat), D i = .agg (ys.map (·.1)) ∧ Pl i = ys.flatMap (·.2) ∧ ys.length = fs.size ∧
        ∀ (j : Nat) (f : Field), fs[j]? = some f → ∃ (v : Value) (y : DataW H × List MemPlace), w.cell? (a.add (i * fs.size + j)) = some v ∧ ys[j]? = some y ∧ DataW.trod enc P w base spare held n f.type [v] = some y := by
  rcases open_slice ht h with h0 | ⟨a, len, cap, m, n, D, Pl, hcs, hb, hl, hm, hmm, hx, hi⟩
  · exact .inl h0
  · refine .inr ⟨a, len, cap, m, D, Pl, hcs, hb, hl, hm, hmm, by rw [hC] at hx; exact hx, fun i him => ?_⟩
    obtain ⟨cs', hc, ht'⟩ := hi i him
    rw [hC] at hc
    obtain ⟨ys, n', hn', hy, hlen, hyl, hf⟩ := DataW.trod_struct he ht'
    obtain ⟨_, hcl, hat⟩ := World.cells?_some hc
    simp only [Prod.mk.injEq] at hy
    refine ⟨ys, n', hy.1, hy.2, hyl, fun j f hj => ?_⟩
    obtain ⟨ho, hk⟩ := hone_of hone j f hj
    have hjl : j < fs.size := (Array.getElem?_eq_some_iff.1 hj).1
    have hcell := hat j hjl
    have hv : cs'[j]? = some (cs'[j]'(by omega)) := List.getElem?_eq_getElem (by omega)
    have h1 := hf j f hj
    rw [ho, hk] at h1
    have hone' : (cs'.drop j).take 1 = [cs'[j]'(by omega)] := by
      rw [List.drop_eq_getElem_cons (by omega)]
      rfl
    rw [hone'] at h1
    have hys : ys[j]? = some (ys[j]'(by omega)) := List.getElem?_eq_getElem (by omega)
    refine ⟨_, _, ?_, hys, h1.trans hys⟩
    rw [← Go.Deep.add_add, hcell, hv]
end

/-- The calls of layer 3. -/
def CArg3 (w : World) (A : Option Addr) (n cap : Nat) (f : Nat → Bool × Nat) : Prop := CArg w A n f ∧ n ≤ cap ∧ n ≤ 140737488351232
theorem bool_of {H : Type} {enc : TypeId × Value → H} {w : World} {fuel : Nat} {v : Value} {y : DataW H × List MemPlace} (h : DataW.trod enc Try.prog w 0 (fun _ => true) true fuel 4 [v] = some y) : ∃ b, v = .bool b := by
  obtain ⟨b, hb, _⟩ := DataW.trod_bool Try.underlying4 h
  simp at hb
  exact ⟨b, hb⟩
theorem u32_of {H : Type} {enc : TypeId × Value → H} {w : World} {fuel : Nat} {v : Value} {y : DataW H × List MemPlace} (h : DataW.trod enc Try.prog w 0 (fun _ => true) true fuel 30 [v] = some y) : ∃ s : Nat, v = .int .u32 (s : Int) ∧ s ≤ 4294967295 := by
  obtain ⟨n, hn, _, hw⟩ := DataW.trod_int Try.underlying30 h
  simp at hn
  obtain ⟨h0, h1⟩ := bounds_u32 hw
  exact ⟨n.toNat, by rw [hn]; congr 1; omega, by omega⟩

theorem CArg3.open_ {H : Type} {enc : TypeId × Value → H} {w : World} {a : Option Addr} {len cap : Nat} {d : DataW H} {p : List MemPlace} {ts : List TypeId} {ds : List (DataW H)} {j : Nat}
    (h : DataW.Trod enc Try.prog w 0 (fun _ => true) true 22 (.slice a len cap) d p) (hsz : (DataW.weightsEach Try.prog ts ds).all (· ≤ reachBytes) = true) (ht : ts[j]? = some 22) (hd : ds[j]? = some d) : ∃ f, CArg3 w a len cap f := by
  obtain ⟨fuel, hf⟩ := h
  rcases open_slice_fields Try.underlying22 Try.underlying45 (by kernel_rfl) (by kernel_rfl) hf with ⟨hcs, _⟩ | ⟨x, l, c, m, D, Pl, hcs, _, hl, hm, hmm, hx, hi⟩
  · simp [Value.cells] at hcs
    obtain ⟨rfl, rfl, rfl⟩ := hcs
    exact ⟨fun _ => (false, 0), fun h => absurd h (by omega), Nat.le_refl _, by omega⟩
  · simp [Value.cells] at hcs
    obtain ⟨rfl, rfl, rfl⟩ := hcs
    simp only [if_true] at hmm
    subst hmm
    have hdd : d = _ := congrArg Prod.fst hx
    have hb := sized_slice hsz (j := j) (t := 22) (e := 45) ht (by rw [hd, hdd]) Try.underlying22
    rw [bytes45] at hb
    simp only [List.length_map, List.length_range, reachBytes] at hb
    have key : ∀ i, i < m → ∃ r s, w.cell? (x.add (i * 2)) = some (.bool r) ∧ w.cell? (x.add (i * 2 + 1)) = some (.int .u32 ((s : Nat) : Int)) ∧ s ≤ 4294967295 := by
      intro i him
      obtain ⟨ys, n, _, _, _, hfld⟩ := hi i him
      obtain ⟨v0, y0, hc0, _, ht0⟩ := hfld 0 _ rfl
      obtain ⟨v1, y1, hc1, _, ht1⟩ := hfld 1 _ rfl
      obtain ⟨r, rfl⟩ := bool_of ht0
      obtain ⟨s, rfl, hs⟩ := u32_of ht1
      exact ⟨r, s, hc0, hc1, hs⟩
    have hch : ∀ i, ∃ rs : Bool × Nat, i < m → w.cell? (x.add (i * 2)) = some (.bool rs.1) ∧ w.cell? (x.add (i * 2 + 1)) = some (.int .u32 (rs.2 : Int)) ∧ rs.2 ≤ 4294967295 := by
      intro i
      by_cases him : i < m
      · obtain ⟨r, s, h1, h2, h3⟩ := key i him
        exact ⟨(r, s), fun _ => ⟨h1, h2, h3⟩⟩
      · exact ⟨(false, 0), fun h => absurd h him⟩
    obtain ⟨f, hfs⟩ : ∃ f : Nat → Bool × Nat, ∀ i, i < m → w.cell? (x.add (i * 2)) = some (.bool (f i).1) ∧ w.cell? (x.add (i * 2 + 1)) = some (.int .u32 ((f i).2 : Int)) ∧ (f i).2 ≤ 4294967295 :=
      ⟨fun i => Classical.choose (hch i), fun i => Classical.choose_spec (hch i)⟩
    refine ⟨f, fun hn => ?_, hl, by omega⟩
    have h0 := (hfs 0 (by omega)).1
    obtain ⟨b, off, spot⟩ := x
    have hspot : spot = none := by simpa [Addr.add] using World.cell?_spot h0
    subst hspot
    have hbl : b < w.heap.size := by have := World.block_lt_of_cell? w _ h0; simpa [Addr.add_lit] using this
    refine ⟨b, off, rfl, hbl, fun i hi' => ?_⟩
    have := hfs i (by omega)
    rw [Addr.add_lit, Addr.add_lit] at this
    exact ⟨this.1, by rw [Nat.add_assoc]; exact this.2.1, this.2.2⟩
end Go.Proofs.Ytbmamikhjfieoaa

namespace Go.Proofs.Ytbmamikhjfieoaa
open Go.RowKit
/-! ### small contracts and laws that the statements of layer 3 share -/
theorem Nums.weak {k : IntKind} {F F' : Nat → Prop} {w : World} {A : Option Addr} {n : Nat} {zs : List Int} (h : Nums k F w A n zs) (hF : ∀ i, F' i → F i) : Nums k F' w A n zs :=
  ⟨h.1, fun hn => by
    obtain ⟨b, off, hA, hb, hf, hc⟩ := h.2 hn
    exact ⟨b, off, hA, hb, fun hf' => hf (hF b hf'), hc⟩⟩
theorem below_drewN {B : Nat} {a w : World} (h : Below B a w) (n : Nat) : Below B a (w.drewN n) := ⟨h.os, h.tape, h.output, h.size, h.block⟩
theorem allocd_q {B : Nat} {w : World} {L : Loc} {S : SS} (i q : Nat) (h : SAt B w L S) (hw : S.wf) (hi : i ≤ 4294967295) :
    Calls Try.prog 16 #[.pointer (some ⟨L.g, 0, none⟩), .int .u32 (i : Int)] (w.drewN q) fun e w' => e = .returned (.bool (S.on i)) ∧ w' = w.drewN q :=
  (allocd_any i (h.qt ⟨q, rfl⟩) hw hi).mono fun _ _ ⟨he, hw⟩ => ⟨he, hw.symm⟩
theorem gen_q {B : Nat} {w : World} {L : Loc} {S : SS} (i q : Nat) (h : SAt B w L S) (hw : S.wf) (hi : i ≤ 4294967295) :
    Calls Try.prog 17 #[.pointer (some ⟨L.g, 0, none⟩), .int .u32 (i : Int)] (w.drewN q) fun e w' => e = .returned (.int .u32 (S.gen i)) ∧ w' = w.drewN q :=
  (gen_any i (h.qt ⟨q, rfl⟩) hw hi).mono fun _ _ ⟨he, hw⟩ => ⟨he, hw.symm⟩
theorem SS.wf.ord_le {S : SS} (h : S.wf) (k : Nat) (hk : k < S.ord.length) : 1 ≤ S.ord.getD k 0 ∧ S.ord.getD k 0 ≤ S.n := by
  have e : S.ord.getD k 0 = S.ord[k] := by simp [List.getD, hk]
  rw [e]
  have := (h.ord_mem S.ord[k]).1 (List.getElem_mem hk)
  exact ⟨this.1, this.2.1⟩
theorem SS.wf.ord_count {S : SS} (h : S.wf) (i : Nat) (h1 : 1 ≤ i) (h2 : i ≤ S.n) : S.ord.count i = if S.on i then 0 else 1 := by
  cases ho : S.on i with
  | true =>
    have : i ∉ S.ord := fun hm => by have := ((h.ord_mem i).1 hm).2.2; rw [ho] at this; cases this
    simp [List.count_eq_zero.2 this]
  | false =>
    have hm : i ∈ S.ord := (h.ord_mem i).2 ⟨h1, h2, ho⟩
    have h3 := List.count_pos_iff.2 hm
    have h4 := (List.nodup_iff_count.1 h.ord_nodup) i
    simp; omega
theorem count_more (l : List Nat) (k i : Nat) (hk : k < l.length) : (l.take (k + 1)).count i = (l.take k).count i + if l.getD k 0 = i then 1 else 0 := by
  rw [List.take_succ_eq_append_getElem hk, List.count_append]
  have e : l.getD k 0 = l[k] := by simp [List.getD, hk]
  rw [e]
  by_cases h : l[k] = i <;> simp [h]
theorem info3 : (Try.prog.info? 3).map (fun i => (i.zero, i.size, i.bytes)) = some (some (.int .i64 0), 1, 8) := by kernel_rfl
end Go.Proofs.Ytbmamikhjfieoaa
