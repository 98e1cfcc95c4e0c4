/-
  THE CONTRACTS OF versionmaplaw3's helpers: (Call).at, play, awake. For every list of calls.
-/
import Derived.Test.YtbmamikhjfieoaaNew
namespace Go.Proofs.Ytbmamikhjfieoaa
open Go.RowKit

/-- The slice of calls among the arguments: call j is f j. -/
def CArg (w : World) (A : Option Addr) (n : Nat) (f : Nat → Bool × Nat) : Prop :=
  0 < n → ∃ b off, A = some ⟨b, off, none⟩ ∧ b < w.heap.size ∧ ∀ j, j < n → w.cell? ⟨b, off + j * 2, none⟩ = some (.bool (f j).1) ∧ w.cell? ⟨b, off + j * 2 + 1, none⟩ = some (.int .u32 ((f j).2 : Int)) ∧ (f j).2 ≤ 4294967295
theorem CArg.below {w w' : World} {A : Option Addr} {n : Nat} {f : Nat → Bool × Nat} {B : Nat} (h : CArg w A n f) (hb : Below B w w') (hB : w.heap.size ≤ B) : CArg w' A n f := fun hn => by
  obtain ⟨b, off, hA, hlt, hc⟩ := h hn
  exact ⟨b, off, hA, Nat.lt_of_lt_of_le hlt hb.size, fun j hj => ⟨(hb.cell (p := ⟨b, off + j * 2, none⟩) (Nat.lt_of_lt_of_le hlt hB)).trans (hc j hj).1, (hb.cell (p := ⟨b, off + j * 2 + 1, none⟩) (Nat.lt_of_lt_of_le hlt hB)).trans (hc j hj).2.1, (hc j hj).2.2⟩⟩

def atN (s n : Nat) : Nat := if s % 17 = 16 then s else s % (n + 2)
theorem atN_le (s n : Nat) (h : s ≤ 4294967295) : atN s n ≤ 4294967295 := by
  unfold atN
  split
  · exact h
  · have := Nat.mod_le s (n + 2); omega

set_option maxRecDepth 100000 in
set_option maxHeartbeats 1000000 in
theorem at_any (r : Bool) (s n : Nat) (w : World) (hs : s ≤ 4294967295) (hn : n ≤ 65536) :
    Calls Try.prog 24 #[.agg #[.bool r, .int .u32 (s : Int)], .int .i64 (n : Int)] w fun e w' => e = .returned (.int .u32 (atN s n : Int)) ∧ Below w.heap.size w w' := by
  by_cases h : s % 17 = 16
  · have h' : (((s : Int) % 17) == 16) = true := by simp; omega
    have HA := hid (show atN s n = s by unfold atN; rw [if_pos h])
    rw [HA.out]
    clear h
    go_enter Try.func24, Try.ntmps24
    go_wp2
    go_ret
    exact ⟨rfl, (Below.refl _ _).alloc (Nat.le_refl _) _⟩
  · have h' : (((s : Int) % 17) == 16) = false := by simp; omega
    have HA := hid (show ((atN s n : Nat) : Int) = (s : Int) % ((n : Int) + 2) by unfold atN; rw [if_neg h]; exact Int.natCast_emod s (n + 2))
    rw [HA.out]
    clear h
    go_enter Try.func24, Try.ntmps24
    go_wp2
    go_ret
    exact ⟨rfl, (Below.refl _ _).alloc (Nat.le_refl _) _⟩

/-- An allocator of n slots is at g. -/
def Has (B : Nat) (w : World) (g n : Nat) : Prop := ∃ L S, SAt B w L S ∧ S.wf ∧ S.n = n ∧ L.g = g

theorem SAt.size_le {B : Nat} {w : World} {L : Loc} {S : SS} (h : SAt B w L S) : B ≤ w.heap.size := by have := h.b1; have := h.hd.lt; omega
theorem SAt.chg_below {B : Nat} {w w' : World} {L : Loc} {S : SS} (h : SAt B w L S) (hc : Chg L.foot w w') : Below B w w' := hc.below h.size_le (fun _ hk => h.foot_ge hk)

theorem has_release {B : Nat} {w : World} {g n : Nat} (i : Nat) (h : Has B w g n) (hi : i ≤ 4294967295) :
    Calls Try.prog 26 #[.pointer (some ⟨g, 0, none⟩), .int .u32 (i : Int)] w fun e w' => (∃ r, e = .returned (.int .i64 r)) ∧ Has B w' g n ∧ Below B w w' := by
  obtain ⟨L, S, hS, hw, hn, rfl⟩ := h
  cases ho : S.on i with
  | false => exact (release_no i hS hw hi ho).mono fun e w' ⟨he, hw'⟩ => ⟨⟨_, he⟩, hw' ▸ ⟨L, S, hS, hw, hn, rfl⟩, hw' ▸ Below.refl _ _⟩
  | true => exact (release_any i hS hw hS.size_le ho).mono fun e w' ⟨L', he, hg, hS', hc, _⟩ => ⟨⟨_, he⟩, ⟨L', _, hS', hw.release ho, hn, hg⟩, hS.chg_below hc⟩
theorem has_alloc {B : Nat} {w : World} {g n : Nat} (h : Has B w g n) :
    Calls Try.prog 18 #[.pointer (some ⟨g, 0, none⟩)] w fun e w' => (∃ a r, e = .returned (.tuple #[.int .u32 a, .int .i64 r])) ∧ Has B w' g n ∧ Below B w w' := by
  obtain ⟨L, S, hS, hw, hn, rfl⟩ := h
  rcases Nat.eq_zero_or_pos S.free with h0 | h0
  · exact (alloc_full hS hw h0).mono fun e w' ⟨he, hq⟩ => ⟨⟨_, _, he⟩, ⟨L, S, hS.qt hq, hw, hn, rfl⟩, (hq.chg Nil).below hS.size_le (fun _ h => h.elim)⟩
  · exact (alloc_any hS hw h0).mono fun e w' ⟨he, hS', hc⟩ => ⟨⟨_, _, he⟩, ⟨L, _, hS', hw.alloc h0, by rw [S.alloc_n]; exact hn, rfl⟩, hS.chg_below hc⟩
theorem Has.below {B : Nat} {w w' : World} {g n : Nat} (h : Has B w g n) (hb : Below w.heap.size w w') : Has B w' g n := by
  obtain ⟨L, S, hS, hw, hn, hg⟩ := h
  exact ⟨L, S, hS.below hb, hw, hn, hg⟩
theorem Has.size_le {B : Nat} {w : World} {g n : Nat} (h : Has B w g n) : B ≤ w.heap.size := by
  obtain ⟨L, S, hS, hw, hn, hg⟩ := h
  exact hS.size_le

set_option maxRecDepth 100000 in
set_option maxHeartbeats 4000000 in
theorem play_any (n : Nat) (A : Option Addr) (m c : Nat) (f : Nat → Bool × Nat) (w : World) (h1 : 1 ≤ n) (h2 : n ≤ 65536) (hC : CArg w A m f) (hm : m ≤ 140737488351232) :
    Calls Try.prog 14 #[.int .i64 (n : Int), .slice A m c] w fun e w' => ∃ g, e = .returned (.pointer (some ⟨g, 0, none⟩)) ∧ Has w.heap.size w' g n ∧ Below w.heap.size w w' := by
  have HC := hid hC
  clear hC
  go_enter Try.func14, Try.ntmps14
  go_wp2_with fail
  refine (new_any n _ _ (Nat.le_refl _) h1 h2).mono ?_
  rintro e w1 ⟨L0, rfl, hS0, hb0, _⟩
  obtain ⟨g, hg⟩ : ∃ g, g = L0.g := ⟨_, rfl⟩
  rw [← hg]
  have H0 : Hid (Has w.heap.size w1 g n) := hid ⟨L0, _, hS0, SS.new_wf n h1 h2, rfl, hg.symm⟩
  clear hS0 hg
  go_wp2
  go_loopw [7] (fun i wr => ∃ k : Nat, k ≤ m ∧ i = .int .i64 k ∧ Hid (Has w.heap.size wr g n) ∧ Below w.heap.size w wr) (fun i _ => m - (intOf i).toNat)
  case atStart => exact ⟨0, Nat.zero_le _, rfl, H0, hb0⟩
  case round =>
    obtain ⟨k, hk, rfl, HH, hb⟩ := hrel
    clear H0 hb0
    by_cases hlt : k < m ∧ k < 200
    · obtain ⟨hlt, hlt2⟩ := hlt
      obtain ⟨b, off, hA, hbl, hc⟩ := HC.out (by omega)
      subst hA
      have hck := hc k hlt
      obtain ⟨r, s, hrs⟩ : ∃ r s, f k = (r, s) := ⟨_, _, rfl⟩
      rw [hrs] at hck
      have ca : wr.cell? ⟨b, off + k * 2, none⟩ = some (.bool r) := (hb.cell (by exact hbl)).trans hck.1
      have cb : wr.cell? ⟨b, off + k * 2 + 1, none⟩ = some (.int .u32 (s : Int)) := (hb.cell (by exact hbl)).trans hck.2.1
      have hs := hck.2.2
      clear hck hc hrs
      cases r with
      | true =>
        go_wp2_with fail
        refine (at_any true s n _ hs h2).mono ?_
        rintro e w2 ⟨rfl, hb2⟩
        have H2 := hid (HH.out.below hb2)
        have hB2 : Below w.heap.size w w2 := hb.trans (hb2.mono hb.size)
        clear hb2 ca cb
        go_wp2_with fail
        refine (has_release (atN s n) H2.out (atN_le s n hs)).mono ?_
        rintro e w3 ⟨⟨r, rfl⟩, hH3, hb3⟩
        have H3 := hid hH3
        have hB3 : Below w.heap.size w w3 := hB2.trans hb3
        clear hH3 hb3 hB2
        go_wp2
        go_roundw
        case rel => exact ⟨k + 1, by omega, by go_num, H3, hB3⟩
        case measure => simp [intOf]; omega
      | false =>
        go_wp2_with fail
        refine (has_alloc HH.out).mono ?_
        rintro e w3 ⟨⟨a, r, rfl⟩, hH3, hb3⟩
        have H3 := hid hH3
        have hB3 : Below w.heap.size w w3 := hb.trans hb3
        clear hH3 hb3 ca cb
        go_wp2
        go_roundw
        case rel => exact ⟨k + 1, by omega, by go_num, H3, hB3⟩
        case measure => simp [intOf]; omega
    · by_cases hkm : k < m
      · have h200 : 200 ≤ k := by omega
        clear hlt
        go_wp2
        go_ret
        exact ⟨g, rfl, HH.out, hb⟩
      · clear hlt
        go_wp2
        go_ret
        exact ⟨g, rfl, HH.out, hb⟩

/-! ### awake: the example of the chapter -/
theorem s3_a : (SS.new 3).wf := SS.new_wf 3 (by omega) (by omega)
def s3 : SS := SS.new 3
def s3a : SS := s3.alloc
def s3b : SS := s3a.alloc
def s3c : SS := s3b.release 1
def s3d : SS := s3c.alloc

set_option maxRecDepth 100000 in
set_option maxHeartbeats 2000000 in
theorem awake_any (w : World) : Calls Try.prog 15 #[] w fun e w' => e = .returned (.bool true) ∧ Below w.heap.size w w' := by
  have w0 : s3.wf := s3_a
  have f0 : 0 < s3.free := by decide
  have w1 : s3a.wf := w0.alloc f0
  have f1 : 0 < s3a.free := by decide
  have w2 : s3b.wf := w1.alloc f1
  have o2 : s3b.on 1 = true := by decide
  have w3 : s3c.wf := w2.release o2
  have f3 : 0 < s3c.free := by decide
  have w4 : s3d.wf := w3.alloc f3
  have W0 := hid w0
  have W1 := hid w1
  have W2 := hid w2
  have W3 := hid w3
  have W4 := hid w4
  have F0 := hid f0
  have F1 := hid f1
  have F3 := hid f3
  have O2 := hid o2
  have G4 : Hid (s3d.gen 1 = 2) := hid (by decide)
  clear w0 w1 w2 w3 w4 f0 f1 f3 o2
  go_enter Try.func15, Try.ntmps15
  go_wp2_with fail
  refine (new_any 3 _ _ (Nat.le_refl _) (by omega) (by omega)).mono ?_
  rintro e x1 ⟨L, rfl, hS, hb, _⟩
  have H1 : Hid (SAt w.heap.size x1 L s3) := hid hS
  clear hS
  go_wp2_with fail
  refine (alloc_any H1.out W0.out F0.out).mono ?_
  rintro e x2 ⟨rfl, hS, hc⟩
  have H2 : Hid (SAt w.heap.size x2 L s3a) := hid hS
  have hb2 := hb.trans (H1.out.chg_below hc)
  rw [show s3.next = 1 by decide]
  clear hS hc hb
  go_wp2_with fail
  refine (alloc_any H2.out W1.out F1.out).mono ?_
  rintro e x3 ⟨rfl, hS, hc⟩
  have H3 : Hid (SAt w.heap.size x3 L s3b) := hid hS
  have hb3 := hb2.trans (H2.out.chg_below hc)
  rw [show s3a.next = 2 by decide]
  clear hS hc hb2
  go_wp2_with fail
  refine (release_any 1 H3.out W2.out H3.out.size_le O2.out).mono ?_
  rintro e x4 ⟨L', rfl, hg, hS, hc, _⟩
  have H4 : Hid (SAt w.heap.size x4 L' s3c) := hid hS
  have hb4 := hb3.trans (H3.out.chg_below hc)
  rw [← hg]
  clear hS hc hb3 hg
  go_wp2_with fail
  refine (alloc_any H4.out W3.out F3.out).mono ?_
  rintro e x5 ⟨rfl, hS, hc⟩
  have H5 : Hid (SAt w.heap.size x5 L' s3d) := hid hS
  have hb5 := hb4.trans (H4.out.chg_below hc)
  rw [show s3c.next = 1 by decide]
  clear hS hc hb4
  go_wp2_with fail
  refine (gen_any 1 H5.out W4.out (by omega)).mono ?_
  rintro e x6 ⟨rfl, rfl⟩
  rw [G4.out]
  go_wp2
  go_ret
  exact ⟨rfl, hb5⟩
end Go.Proofs.Ytbmamikhjfieoaa
