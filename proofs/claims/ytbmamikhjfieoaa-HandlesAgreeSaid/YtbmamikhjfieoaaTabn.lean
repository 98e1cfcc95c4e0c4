/-
  THE CONTRACTS OF handles.New and of versionmaplaw4's awake. New at every capacity.
-/
import Derived.Test.YtbmamikhjfieoaaTab
namespace Go.Proofs.Ytbmamikhjfieoaa
open Go.RowKit

set_option maxRecDepth 100000 in
set_option maxHeartbeats 1000000 in
theorem tnew_bad (c : Int) (w : World) (h : c < 1 ∨ 4096 < c) :
    Calls Try.prog 32 #[.int .i64 c] w fun e w' => e = .returned (.tuple #[.pointer none, .int .i64 1]) ∧ w = w' := by
  rcases h with h | h
  · go_enter Try.func32, Try.ntmps32
    go_wp2
    go_ret2
    exact ⟨rfl, rfl⟩
  · have h1 : 1 ≤ c := by omega
    go_enter Try.func32, Try.ntmps32
    go_wp2
    go_ret2
    exact ⟨rfl, rfl⟩

set_option maxRecDepth 100000 in
set_option maxHeartbeats 2000000 in
theorem tnew_any (n : Nat) (w : World) (B : Nat) (hB : B ≤ w.heap.size) (h1 : 1 ≤ n) (h2 : n ≤ 4096) :
    Calls Try.prog 32 #[.int .i64 (n : Int)] w fun e w' => ∃ T : TL, e = .returned (.tuple #[.pointer (some ⟨T.t, 0, none⟩), .int .i64 0]) ∧ TAt B w' T (SS.new n) (fun _ => 0) ∧ Below w.heap.size w w' ∧ (∀ k, T.foot k → w.heap.size ≤ k) := by
  have hm2 := fun W => make_at (z := .int .u32 0) 28 30 4 Try.underlying28 info30 rfl n (by omega) (by omega) W
  go_enter Try.func32, Try.ntmps32
  go_wp2_with fail
  refine (new_any n _ B hB h1 (by omega)).mono ?_
  rintro e w1 ⟨L, rfl, hS, hb, hf⟩
  have HS := hid hS
  have HB := hid hb
  have HF := hid hf
  clear hS hb hf
  go_wp2
  go_ret2
  have hS := HS.out
  have h2 : Below w1.heap.size w1 ((w1.alloc (.cells (madeCells #[.int .u32 0] (n + 1)) 30)).alloc (.cells #[.pointer (some ⟨L.g, 0, none⟩), .slice (some ⟨w1.heap.size, 0, none⟩) (n + 1) (n + 1)] 87)) := ((Below.refl _ w1).alloc (Nat.le_refl _) _).alloc (by simp) _
  refine ⟨⟨w1.heap.size + 1, w1.heap.size, L⟩, rfl, ⟨hS.below h2, ?_, ?_, fun hf => ?_, fun hf => ?_, ?_, ?_⟩, HB.out.trans (h2.mono HB.out.size), fun k hk => ?_⟩
  · have := World.rowIs_alloc (w1.alloc (.cells (madeCells #[.int .u32 0] (n + 1)) 30)) #[.pointer (some ⟨L.g, 0, none⟩), .slice (some ⟨w1.heap.size, 0, none⟩) (n + 1) (n + 1)] 87 (fldT ⟨w1.heap.size + 1, w1.heap.size, L⟩ (SS.new n)) (fun i hi => by
      match i, hi with
      | 0, _ => rfl
      | 1, _ => rfl)
    first | exact this | (simp at this; exact this)
  · exact (World.rowIs_made w1 (.int .u32 0) (n + 1) 30).alloc _
  · have : w1.heap.size + 1 < w1.heap.size := hS.foot_lt hf
    omega
  · have : w1.heap.size < w1.heap.size := hS.foot_lt hf
    omega
  · show B ≤ w1.heap.size + 1
    have := HB.out.size; omega
  · show B ≤ w1.heap.size
    have := HB.out.size; omega
  · rcases hk with hk | hk | hk
    · have : k = w1.heap.size + 1 := hk
      have := HB.out.size; omega
    · have : k = w1.heap.size := hk
      have := HB.out.size; omega
    · exact HF.out k hk

/-! ### awake: the example of the chapter -/
def t2 : SS := SS.new 2
def t2a : SS := t2.alloc
def t2b : SS := t2a.release 1
def t2c : SS := t2b.alloc

set_option maxRecDepth 100000 in
set_option maxHeartbeats 2000000 in
theorem hawake_any (w : World) : Calls Try.prog 33 #[] w fun e w' => e = .returned (.bool true) ∧ Below w.heap.size w w' := by
  have w0 : t2.wf := SS.new_wf 2 (by omega) (by omega)
  have f0 : 0 < t2.free := by decide
  have w1 : t2a.wf := w0.alloc f0
  have o1 : t2a.op 4294967297 = true := by decide
  have e1 : ent 4294967297 = 1 := by decide
  have w2 : t2b.wf := w1.release (SS.op_on o1).1
  have f2 : 0 < t2b.free := by decide
  have w3 : t2c.wf := w2.alloc f2
  have o3 : t2c.op 4294967297 = false := by decide
  have n1 : t2.next = 1 := by decide
  have n2 : t2b.next = 1 := by decide
  have h1 : t2a.hdl 1 = 4294967297 := by decide
  have h2 : t2c.hdl 1 = 8589934593 := by decide
  have W0 := hid w0
  have W1 := hid w1
  have W2 := hid w2
  have W3 := hid w3
  have F0 := hid f0
  have O1 := hid o1
  have E1 := hid e1
  have F2 := hid f2
  have O3 := hid o3
  have N1 := hid n1
  have N2 := hid n2
  have HD1 := hid h1
  have HD2 := hid h2
  clear w0 w1 w2 w3 f0 o1 e1 f2 o3 n1 n2 h1 h2
  go_enter Try.func33, Try.ntmps33
  go_wp2_with fail
  refine (tnew_any 2 _ _ (Nat.le_refl _) (by omega) (by omega)).mono ?_
  rintro e x1 ⟨T, rfl, hT, hb1, _⟩
  have H1 : Hid (TAt w.heap.size x1 T t2 (fun _ => 0)) := hid hT
  clear hT
  go_wp2_with fail
  refine (open_any 7 H1.out W0.out F0.out).mono ?_
  rintro e x2 ⟨rfl, hT, hc⟩
  have H2 : Hid (TAt w.heap.size x2 T t2a (upd (fun _ => 0) 1 7)) := hid (by rw [N1.out] at hT; exact hT)
  have hb2 := hb1.trans (H1.out.chg_below hc)
  rw [N1.out, show t2.alloc.hdl 1 = 4294967297 from HD1.out]
  clear hT hc hb1
  go_wp2_with fail
  refine (close_yes 4294967297 H2.out W1.out (by omega) O1.out).mono ?_
  rintro e x3 ⟨T', rfl, ht, hT, hc, _⟩
  rw [E1.out] at hT ⊢
  have H3 : Hid (TAt w.heap.size x3 T' t2b (upd (fun _ => 0) 1 7)) := hid hT
  have hb3 := hb2.trans (H2.out.chg_below hc)
  rw [← ht]
  rw [show upd (fun _ => 0) 1 7 1 = 7 from rfl]
  clear hT hc hb2 ht
  go_wp2_with fail
  refine (open_any 8 H3.out W2.out F2.out).mono ?_
  rintro e x4 ⟨rfl, hT, hc⟩
  have H4 : Hid (TAt w.heap.size x4 T' t2c _) := hid hT
  have hb4 := hb3.trans (H3.out.chg_below hc)
  rw [N2.out, show t2b.alloc.hdl 1 = 8589934593 from HD2.out]
  clear hT hc hb3
  go_wp2_with fail
  refine (lookup_no 4294967297 H4.out W3.out (by omega) O3.out).mono ?_
  rintro e x5 ⟨rfl, rfl⟩
  go_wp2
  go_ret
  exact ⟨rfl, hb4⟩
end Go.Proofs.Ytbmamikhjfieoaa
