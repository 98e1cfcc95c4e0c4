/-
  WHAT A SLICE OF THE CALLS OF LAYER 4 AMONG THE ARGUMENTS GIVES THE WALK ('CArg4'). No conditions.
-/
import Derived.Test.YtbmamikhjfieoaaHp
namespace Go.Proofs.Ytbmamikhjfieoaa
open Go.ChangeShapes Go.WideShapes Go.ChangeAt Go.RowKit Go.Deep

theorem i64_of {H : Type} {enc : TypeId × Value → H} {w : World} {fuel : Nat} {v : Value} {y : DataW H × List MemPlace} (h : DataW.trod enc Try.prog w 0 (fun _ => true) true fuel 3 [v] = some y) : ∃ k : Int, v = .int .i64 k ∧ (Lit.int .i64 k).wf = true := by
  obtain ⟨n, hn, _, hw⟩ := DataW.trod_int Try.underlying3 h
  simp at hn
  exact ⟨n, hn, hw⟩
theorem u64_of {H : Type} {enc : TypeId × Value → H} {w : World} {fuel : Nat} {v : Value} {y : DataW H × List MemPlace} (h : DataW.trod enc Try.prog w 0 (fun _ => true) true fuel 58 [v] = some y) : ∃ s : Nat, v = .int .u64 (s : Int) ∧ s ≤ 18446744073709551615 := by
  obtain ⟨n, hn, _, hw⟩ := DataW.trod_int Try.underlying58 h
  simp at hn
  obtain ⟨h0, h1⟩ := bounds_u64 hw
  exact ⟨n.toNat, by rw [hn]; congr 1; omega, by omega⟩

theorem CArg4.open_ {H : Type} {enc : TypeId × Value → H} {w : World} {a : Option Addr} {len cap : Nat} {d : DataW H} {p : List MemPlace} {ts : List TypeId} {ds : List (DataW H)} {j : Nat}
    (h : DataW.Trod enc Try.prog w 0 (fun _ => true) true 61 (.slice a len cap) d p) (hsz : (DataW.weightsEach Try.prog ts ds).all (· ≤ reachBytes) = true) (ht : ts[j]? = some 61) (hd : ds[j]? = some d) : ∃ f, CArg4 w a len cap f := by
  obtain ⟨fuel, hf⟩ := h
  rcases open_slice_fields Try.underlying61 Try.underlying68 (by kernel_rfl) (by kernel_rfl) hf with ⟨hcs, _⟩ | ⟨x, l, c, m, D, Pl, hcs, _, hl, hm, hmm, hx, hi⟩
  · simp [Value.cells] at hcs
    obtain ⟨rfl, rfl, rfl⟩ := hcs
    exact ⟨fun _ => ⟨0, 0, 0, false⟩, Nat.le_refl _, by omega, fun h => absurd h (by omega)⟩
  · simp [Value.cells] at hcs
    obtain ⟨rfl, rfl, rfl⟩ := hcs
    simp only [if_true] at hmm
    subst hmm
    have hdd : d = _ := congrArg Prod.fst hx
    have hb := sized_slice hsz (j := j) (t := 61) (e := 68) ht (by rw [hd, hdd]) Try.underlying61
    rw [bytes68] at hb
    simp only [List.length_map, List.length_range, reachBytes] at hb
    have key : ∀ i, ∃ y : C4, i < m → w.cell? (x.add (i * 4)) = some (.int .i64 y.kd) ∧ w.cell? (x.add (i * 4 + 1)) = some (.int .u64 (y.h : Int)) ∧ w.cell? (x.add (i * 4 + 2)) = some (.int .u32 (y.v : Int)) ∧ w.cell? (x.add (i * 4 + 3)) = some (.bool y.r) ∧
        (Lit.int .i64 y.kd).wf = true ∧ y.h ≤ 18446744073709551615 ∧ y.v ≤ 4294967295 := by
      intro i
      by_cases him : i < m
      · obtain ⟨ys, n, _, _, _, hfld⟩ := hi i him
        obtain ⟨v0, y0, hc0, _, ht0⟩ := hfld 0 _ rfl
        obtain ⟨v1, y1, hc1, _, ht1⟩ := hfld 1 _ rfl
        obtain ⟨v2, y2, hc2, _, ht2⟩ := hfld 2 _ rfl
        obtain ⟨v3, y3, hc3, _, ht3⟩ := hfld 3 _ rfl
        obtain ⟨k, rfl, hk⟩ := i64_of ht0
        obtain ⟨s, rfl, hs⟩ := u64_of ht1
        obtain ⟨u, rfl, hu⟩ := u32_of ht2
        obtain ⟨r, rfl⟩ := bool_of ht3
        exact ⟨⟨k, s, u, r⟩, fun _ => ⟨hc0, hc1, hc2, hc3, hk, hs, hu⟩⟩
      · exact ⟨⟨0, 0, 0, false⟩, fun h => absurd h him⟩
    obtain ⟨f, hfs⟩ : ∃ f : Nat → C4, ∀ i, i < m → w.cell? (x.add (i * 4)) = some (.int .i64 (f i).kd) ∧ w.cell? (x.add (i * 4 + 1)) = some (.int .u64 ((f i).h : Int)) ∧ w.cell? (x.add (i * 4 + 2)) = some (.int .u32 ((f i).v : Int)) ∧ w.cell? (x.add (i * 4 + 3)) = some (.bool (f i).r) ∧
        (Lit.int .i64 (f i).kd).wf = true ∧ (f i).h ≤ 18446744073709551615 ∧ (f i).v ≤ 4294967295 :=
      ⟨fun i => Classical.choose (key i), fun i => Classical.choose_spec (key i)⟩
    refine ⟨f, hl, by omega, fun hn => ?_⟩
    have h0 := (hfs 0 (by omega)).1
    obtain ⟨b, off, spot⟩ := x
    have hspot : spot = none := by simpa [Addr.add] using World.cell?_spot h0
    subst hspot
    have hbl : b < w.heap.size := by have := World.block_lt_of_cell? w _ h0; simpa [Addr.add_lit] using this
    refine ⟨b, off, rfl, hbl, fun i hi' => ?_⟩
    have := hfs i (by omega)
    rw [Addr.add_lit, Addr.add_lit, Addr.add_lit, Addr.add_lit] at this
    exact ⟨this.1, by rw [Nat.add_assoc]; exact this.2.1, by rw [Nat.add_assoc]; exact this.2.2.1, by rw [Nat.add_assoc]; exact this.2.2.2.1, this.2.2.2.2⟩
end Go.Proofs.Ytbmamikhjfieoaa
