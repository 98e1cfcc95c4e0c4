/-
  THE CONTRACTS OF versionmaplaw4's (Call).pick and play, and of handles.Table's Handles. For every list of calls.
-/
import Derived.Test.YtbmamikhjfieoaaHnd
import Derived.Test.YtbmamikhjfieoaaTabn
import Derived.Deep.RegionHeld3
namespace Go.Proofs.Ytbmamikhjfieoaa
open Go.RowKit

theorem info58 : (Try.prog.info? 58).map (fun i => (i.zero, i.size, i.bytes)) = some (some (.int .u64 0), 1, 8) := by kernel_rfl

/-- A call of layer 4. -/
structure C4 where
  kd : Int
  h : Nat
  v : Nat
  r : Bool
def C4.val (x : C4) : Value := .agg #[.int .i64 x.kd, .int .u64 (x.h : Int), .int .u32 (x.v : Int), .bool x.r]

set_option maxRecDepth 100000 in
set_option maxHeartbeats 1000000 in
theorem pick_any (kd : Int) (h vl : Nat) (raw : Bool) (A : Option Addr) (m c : Nat) (zs : List Nat) (w : World) {F : Nat → Prop} (hN : Nums .u64 F w A m (natsI zs)) (hm : m ≤ 140737488351232) (hh : h ≤ 18446744073709551615) :
    Calls Try.prog 42 #[.agg #[.int .i64 kd, .int .u64 (h : Int), .int .u32 (vl : Int), .bool raw], .slice A m c] w fun e w' => e = .returned (.int .u64 ((pk raw h zs : Nat) : Int)) ∧ Below w.heap.size w w' := by
  have hl : zs.length = m := by have := hN.1; rw [natsI_len] at this; exact this
  cases raw with
  | true =>
    have HP := hid (show pk true h zs = h by simp [pk])
    rw [HP.out]
    have HN := hid hN
    clear hN hl
    go_enter Try.func42, Try.ntmps42
    go_wp2
    go_ret
    exact ⟨rfl, (Below.refl _ _).alloc (Nat.le_refl _) _⟩
  | false =>
    by_cases h0 : m = 0
    · subst h0
      have HP := hid (show pk false h zs = h by simp [pk, hl])
      rw [HP.out]
      clear hN hl
      go_enter Try.func42, Try.ntmps42
      go_wp2
      go_ret
      exact ⟨rfl, (Below.refl _ _).alloc (Nat.le_refl _) _⟩
    · have hm0 : 0 < m := by omega
      obtain ⟨b, off, rfl, hb, _, hc⟩ := hN.2 hm0
      have hlt : h % m < m := Nat.mod_lt _ hm0
      have hc1 := hc (h % m) hlt
      rw [natsI_getD] at hc1
      have HP := hid (show pk false h zs = zs.getD (h % m) 0 by unfold pk; rw [if_neg (by rw [hl]; simp; omega), hl])
      rw [HP.out]
      obtain ⟨y, hy⟩ : ∃ y, y = zs.getD (h % m) 0 := ⟨_, rfl⟩
      rw [← hy] at hc1 ⊢
      have em : ((h : Int) % (m : Int)) = ((h % m : Nat) : Int) := by omega
      have hmz : ((m : Int) == 0) = false := by simp; omega
      have hmz2 : ¬ (m : Int) = 0 := by omega
      obtain ⟨j, hj⟩ : ∃ j, j = h % m := ⟨_, rfl⟩
      rw [← hj] at hc1 em hlt
      clear hN hl hy hc HP hj h0
      go_enter Try.func42, Try.ntmps42
      go_wp2
      go_ret
      exact ⟨rfl, (Below.refl _ _).alloc (Nat.le_refl _) _⟩

theorem own_nums {k : IntKind} {F : Nat → Prop} {w : World} {base e n : Nat} {v : Value} {zs : List Int} (h : w.ownsRow base e 1 v n (zs.map (Value.int k))) (hF : ∀ i, F i → i < base) : ∃ A c, v = .slice A n c ∧ Nums k F w A n zs := by
  rcases h.2 with ⟨hv, h0⟩ | ⟨g, cap, cur, hv, hb, _⟩
  · have hn : n = 0 := by simpa using h0
    subst hn hv
    have hl : zs = [] := List.length_eq_zero_iff.1 (by simpa using h.1)
    subst hl
    exact ⟨none, 0, rfl, Nums.nil _ _ _ _⟩
  · subst hv
    exact ⟨_, _, rfl, Nums.own h (fun hf => by have := hF _ hf; omega)⟩

/-- The open handles among the first k entries. -/
def pre (S : SS) (k : Nat) : List Nat := ((List.range' 1 k).filter S.on).map S.hdl
theorem pre_on {S : SS} {k : Nat} (h : S.on (k + 1) = true) : (natsI (pre S (k + 1))).map (Value.int .u64) = (natsI (pre S k)).map (Value.int .u64) ++ [.int .u64 ((S.hdl (k + 1) : Nat) : Int)] := by
  unfold pre
  rw [opens_snoc, h]; simp [natsI]
theorem pre_off {S : SS} {k : Nat} (h : S.on (k + 1) = false) : pre S (k + 1) = pre S k := by
  unfold pre
  rw [opens_snoc, h]; simp

section
variable {B : Nat} {w : World} {T : TL} {S : SS} {v : Nat → Int}
set_option maxRecDepth 100000 in
set_option maxHeartbeats 2000000 in
theorem handles_any (h : TAt B w T S v) (hw : S.wf) :
    Calls Try.prog 40 #[.pointer (some ⟨T.t, 0, none⟩)] w fun e w' => ∃ A c, e = .returned (.slice A (opens S).length c) ∧ Nums .u64 (fun k => k < w.heap.size) w' A (opens S).length (natsI (opens S)) ∧ Below w.heap.size w w' := by
  obtain ⟨i0, hi0, hz0, hz1, hz2⟩ := info_parts info58
  have hn2 := hw.n2
  have HH := hid h
  have HW := hid hw
  clear h hw
  go_enter Try.func40, Try.ntmps40
  go_wp2
  go_loopw [3, 4] (fun out i wr => ∃ k : Nat, k ≤ S.n ∧ i = .int .i64 ((k : Int) + 1) ∧ wr.ownsRow w.heap.size 58 1 out (pre S k).length ((natsI (pre S k)).map (Value.int .u64)) ∧ Below w.heap.size w wr) (fun _ i _ => (S.n + 1 - intOf i).toNat)
  case atStart => exact ⟨0, by omega, by simp, World.ownsRow_nil _ _ _ _, Below.refl _ _⟩
  case round =>
    obtain ⟨k, hk, rfl, hown, hb⟩ := hrel
    have HB := hid hb
    have HT := hid (HH.out.below hb)
    have HOWN := hid hown
    have c0 := HT.out.c0
    have hpl : (pre S k).length ≤ k := opens_len S k
    clear hb hown
    go_wp2_with fail
    refine (cap_any HT.out.s hn2).mono ?_
    rintro e w1 ⟨rfl, rfl⟩
    by_cases hlt : k < S.n
    · cases ho : S.on (k + 1) with
      | true =>
        have HO := hid ho
        have HP := hid (pre_on ho)
        have hlen := hid (show (pre S (k + 1)).length = (pre S k).length + 1 by unfold pre; rw [opens_snoc, ho]; simp)
        clear ho
        go_wp2_with fail
        rw [show (k : Int) + 1 = ((k + 1 : Nat) : Int) by omega]
        refine (allocd_any (k + 1) HT.out.s HW.out (by omega)).mono ?_
        rintro e w1 ⟨rfl, rfl⟩
        rw [HO.out]
        go_wp2_with fail
        refine (handle_any (k + 1) HT.out HW.out (by omega)).mono ?_
        rintro e w1 ⟨rfl, rfl⟩
        obtain ⟨y, hy⟩ : ∃ y, y = S.hdl (k + 1) := ⟨_, rfl⟩
        rw [← hy] at HP ⊢
        obtain ⟨l, hl⟩ : ∃ l, l = (pre S k).length := ⟨_, rfl⟩
        rw [← hl] at hpl HOWN hlen
        clear hy hl
        go_wp2_with (at_builtin; refine wpList_append_own_at _ rfl (.tmp 21) (.tmp 26) 62 rfl w.heap.size 58 i0 (.int .u64 0) 1 8 Try.underlying62 hi0 hz0 hz1 hz2 rfl (by decide) _ l _ rfl (HOWN.out.alloc _) ⟨wr.heap.size, 0, none⟩ 1 1 [.int .u64 (y : Int)] rfl (by simp) (cell_one_new _ _ _) (by intro u hu; simp at hu; subst hu; rfl) (by unfold maxLen; omega) (by omega) (by have := HB.out.size; simp; omega) ?_)
        intro v' w1 hown1 hg1 _ hat1
        have hb1 : Below w.heap.size w w1 := (HB.out.alloc HB.out.size _).grown hg1 (by have := HB.out.size; simp; omega) (fun k hk => (HOWN.out.lt k hk).1)
        have HOWN1 : Hid (w1.ownsRow w.heap.size 58 1 v' (pre S (k + 1)).length ((natsI (pre S (k + 1))).map (Value.int .u64))) := hid (by rw [hlen.out, HP.out]; exact hown1)
        clear hown1 hg1 hat1 c0
        go_wp2
        go_roundw
        case rel => exact ⟨k + 1, by omega, by go_num, HOWN1.out, hb1⟩
        case measure => simp [intOf]; omega
      | false =>
        have HO := hid ho
        have HP := hid (pre_off ho)
        clear ho
        go_wp2_with fail
        rw [show (k : Int) + 1 = ((k + 1 : Nat) : Int) by omega]
        refine (allocd_any (k + 1) HT.out.s HW.out (by omega)).mono ?_
        rintro e w1 ⟨rfl, rfl⟩
        rw [HO.out]
        go_wp2
        go_roundw
        case rel => exact ⟨k + 1, by omega, by go_num, by rw [HP.out]; exact HOWN.out, HB.out⟩
        case measure => simp [intOf]; omega
    · have hkn : k = S.n := by omega
      have HE := hid (show pre S k = opens S by rw [hkn]; rfl)
      clear hkn hpl c0
      rw [HE.out] at HOWN
      obtain ⟨A, c, rfl, hN⟩ := own_nums HOWN.out (F := fun k => k < w.heap.size) (fun _ h => h)
      have HN := hid hN
      clear hN HOWN HE
      go_wp2
      go_ret
      exact ⟨A, c, rfl, HN.out, HB.out⟩
end
end Go.Proofs.Ytbmamikhjfieoaa
