/-
  THE CONTRACTS OF slots.Slots: Capacity, Free, Allocated, Generation, Alloc, Release, New, Order, and of Mod. Each method: at every state of an allocator ('SAt', 'SS.wf').
-/
import Derived.Test.YtbmamikhjfieoaaProg
import Derived.Test.YtbmamikhjfieoaaMem
import Derived.WalkKit
import Derived.WalkSpells
import Derived.WalkLawsBesides
import Derived.Deep.QuietTactic
import Derived.BigQuiet
namespace Go.Proofs.Ytbmamikhjfieoaa
open Go.RowKit

theorem info30 : (Try.prog.info? 30).map (fun i => (i.zero, i.size, i.bytes)) = some (some (.int .u32 0), 1, 4) := by kernel_rfl
theorem info4 : (Try.prog.info? 4).map (fun i => (i.zero, i.size, i.bytes)) = some (some (.bool false), 1, 1) := by kernel_rfl
theorem ret_int {k : IntKind} {a b : Int} (h : a = b) : Ending.returned (.int k a) = .returned (.int k b) := by rw [h]

theorem tmod_neg (k n : Int) (h : 1 ≤ n) (hk : k.tmod n < 0) : k.tmod n + n = k % n := by
  have h0 : ¬ 0 ≤ k := fun h0 => by have := Int.tmod_nonneg n h0; omega
  have h1 := Int.emod_add_mul_ediv k n
  have h2 := Int.tmod_add_mul_tdiv k n
  have h3 := Int.emod_nonneg k (show n ≠ 0 by omega)
  have h4 := Int.emod_lt_of_pos k (show 0 < n by omega)
  have h5 := Int.lt_tmod_of_pos k (show 0 < n by omega)
  have e : n * (k.tdiv n - k / n) = k % n - k.tmod n := by rw [Int.mul_sub]; omega
  have h6 : k.tdiv n - k / n = 1 := by
    rcases Int.lt_trichotomy (k.tdiv n - k / n) 1 with hlt | heq | hgt
    · have : n * (k.tdiv n - k / n) ≤ n * 0 := Int.mul_le_mul_of_nonneg_left (by omega) (by omega)
      simp at this; omega
    · exact heq
    · have : n * 2 ≤ n * (k.tdiv n - k / n) := Int.mul_le_mul_of_nonneg_left (by omega) (by omega)
      omega
  rw [h6] at e
  omega
theorem tmod_pos (k n : Int) (h : 1 ≤ n) (hk : 0 ≤ k.tmod n) : k.tmod n = k % n := by
  have h1 := Int.emod_add_mul_ediv k n
  have h2 := Int.tmod_add_mul_tdiv k n
  have h3 := Int.emod_nonneg k (show n ≠ 0 by omega)
  have h4 := Int.emod_lt_of_pos k (show 0 < n by omega)
  have h5 := Int.tmod_lt_of_pos k (show 0 < n by omega)
  have e : n * (k.tdiv n - k / n) = k % n - k.tmod n := by rw [Int.mul_sub]; omega
  have h6 : k.tdiv n - k / n = 0 := by
    rcases Int.lt_trichotomy (k.tdiv n - k / n) 0 with hlt | heq | hgt
    · have : n * (k.tdiv n - k / n) ≤ n * (-1) := Int.mul_le_mul_of_nonneg_left (by omega) (by omega)
      omega
    · exact heq
    · have : n * 1 ≤ n * (k.tdiv n - k / n) := Int.mul_le_mul_of_nonneg_left (by omega) (by omega)
      omega
  rw [h6] at e
  omega
set_option maxHeartbeats 400000 in
theorem mod_any (k n : Int) (w : World) (h1 : 1 ≤ n) (h2 : n ≤ 9223372036854775807) :
    Calls Try.prog 13 #[.int .i64 k, .int .i64 n] w fun e w' => e = .returned (.int .i64 (k % n)) ∧ w = w' := by
  have h3 := Int.emod_nonneg k (show n ≠ 0 by omega)
  have h4 := Int.emod_lt_of_pos k (show 0 < n by omega)
  have H1 := hid (tmod_neg k n h1)
  have H2 := hid (tmod_pos k n h1)
  go_enter Try.func13, Try.ntmps13
  go_wp2
  · go_ret
    have e := H1.out (by assumption)
    exact ⟨ret_int (by rw [e]; exact IntWalk.wrap64_in _ ⟨by omega, by omega⟩), rfl⟩
  · go_ret
    exact ⟨ret_int (H2.out (by assumption)), rfl⟩

section
variable {B : Nat} {w : World} {L : Loc} {S : SS}

set_option maxHeartbeats 400000 in
theorem cap_raw (w : World) (g n c : Nat) (A : Option Addr) (hc : w.cell? ⟨g, 0, none⟩ = some (.slice A (n + 1) c)) (hn : n ≤ 65536) :
    Calls Try.prog 21 #[.pointer (some ⟨g, 0, none⟩)] w fun e w' => e = .returned (.int .i64 (n : Int)) ∧ w' = w := by
  go_enter Try.func21, Try.ntmps21
  go_wp2
  go_ret
  exact ⟨ret_int (by omega), rfl⟩
theorem cap_any (h : SAt B w L S) (hn : S.n ≤ 65536) : Calls Try.prog 21 #[.pointer (some ⟨L.g, 0, none⟩)] w fun e w' => e = .returned (.int .i64 (S.n : Int)) ∧ w = w' :=
  (cap_raw w L.g S.n _ _ h.c0 hn).mono fun _ _ ⟨he, hw⟩ => ⟨he, hw.symm⟩

set_option maxRecDepth 100000 in
set_option maxHeartbeats 1000000 in
theorem free_raw (w : World) (g n c m d f : Nat) (A C : Option Addr) (h0 : w.cell? ⟨g, 0, none⟩ = some (.slice A (n + 1) c)) (h2 : w.cell? ⟨g, 2, none⟩ = some (.slice C m d)) (h3 : w.cell? ⟨g, 3, none⟩ = some (.int .u32 (f : Int)))
    (hn : n ≤ 65536) (hm : m ≤ f) (hf : f ≤ n) :
    Calls Try.prog 19 #[.pointer (some ⟨g, 0, none⟩)] w fun e w' => e = .returned (.int .i64 ((m + (n - f) : Nat) : Int)) ∧ Qt w w' := by
  have E := hid (show ((m : Int) + (n : Int) - (f : Int)) = ((m + (n - f) : Nat) : Int) by omega)
  go_enter Try.func19, Try.ntmps19
  go_wp2_with fail
  go_quiet ((go_at_call 21; refine Calls.quiet_of_same (cap_raw _ g n c A (by first | assumption | exact h0) hn)))
  go_wp2
  go_ret
  exact ⟨ret_int E.out, _, rfl⟩
theorem free_any (h : SAt B w L S) (hw : S.wf) : Calls Try.prog 19 #[.pointer (some ⟨L.g, 0, none⟩)] w fun e w' => e = .returned (.int .i64 (S.free : Int)) ∧ Qt w w' :=
  free_raw w L.g S.n _ _ _ S.fresh _ _ h.c0 h.c2 h.c3 hw.n2 hw.len hw.fr

set_option maxRecDepth 100000 in
set_option maxHeartbeats 1000000 in
theorem allocd_any (i : Nat) (h : SAt B w L S) (hw : S.wf) (hi : i ≤ 4294967295) :
    Calls Try.prog 16 #[.pointer (some ⟨L.g, 0, none⟩), .int .u32 (i : Int)] w fun e w' => e = .returned (.bool (S.on i)) ∧ w = w' := by
  have c0 := h.c0
  have hn := hw.n2
  by_cases hin : i ≤ S.n
  · have cu := h.cu hin
    have HH := hid h
    have HW := hid hw
    clear h hw
    obtain ⟨b, hb⟩ : ∃ b, b = S.on i := ⟨_, rfl⟩
    rw [← hb] at cu ⊢
    clear hb
    go_enter Try.func16, Try.ntmps16
    go_wp2
    go_ret
    exact ⟨rfl, rfl⟩
  · have ho : S.on i = false := by
      cases e : S.on i with
      | false => rfl
      | true => have := hw.on i e; have := hw.fr; omega
    have HO := hid ho
    have HH := hid h
    have HW := hid hw
    rw [HO.out]
    clear h hw ho
    go_enter Try.func16, Try.ntmps16
    go_wp2
    go_ret
    exact ⟨rfl, rfl⟩

set_option maxRecDepth 100000 in
set_option maxHeartbeats 1000000 in
theorem gen_any (i : Nat) (h : SAt B w L S) (hw : S.wf) (hi : i ≤ 4294967295) :
    Calls Try.prog 17 #[.pointer (some ⟨L.g, 0, none⟩), .int .u32 (i : Int)] w fun e w' => e = .returned (.int .u32 (S.gen i)) ∧ w = w' := by
  have c1 := h.c1
  have hn := hw.n2
  by_cases hin : i ≤ S.n
  · have cg := h.cg hin
    have HH := hid h
    have HW := hid hw
    clear h hw
    obtain ⟨x, hx⟩ : ∃ x, x = S.gen i := ⟨_, rfl⟩
    rw [← hx] at cg ⊢
    clear hx
    go_enter Try.func17, Try.ntmps17
    go_wp2
    go_ret
    exact ⟨rfl, rfl⟩
  · have ho : S.gen i = 0 := hw.gz i (.inl (by have := hw.fr; omega))
    have HO := hid ho
    have HH := hid h
    have HW := hid hw
    rw [HO.out]
    clear h hw ho
    go_enter Try.func17, Try.ntmps17
    go_wp2
    go_ret
    exact ⟨rfl, rfl⟩

set_option maxRecDepth 100000 in
set_option maxHeartbeats 1000000 in
theorem alloc_full (h : SAt B w L S) (hw : S.wf) (hf : S.free = 0) :
    Calls Try.prog 18 #[.pointer (some ⟨L.g, 0, none⟩)] w fun e w' => e = .returned (.tuple #[.int .u32 0, .int .i64 2]) ∧ Qt w w' := by
  have HH := hid h
  have HW := hid hw
  have HF := hid hf
  clear h hw hf
  go_enter Try.func18, Try.ntmps18
  go_wp2_with fail
  refine (free_any HH.out HW.out).mono ?_
  rintro e w1 ⟨rfl, hq⟩
  rw [HF.out]
  go_wp2
  go_ret2
  exact ⟨rfl, hq⟩

set_option maxRecDepth 100000 in
set_option maxHeartbeats 1000000 in
theorem alloc_top (i : Nat) (r : List Nat) (h : SAt B w L S) (hw : S.wf) (hr : S.rl = i :: r) :
    Calls Try.prog 18 #[.pointer (some ⟨L.g, 0, none⟩)] w fun e w' => ∃ q gr, L.ra = some ⟨gr, 0, none⟩ ∧ e = .returned (.tuple #[.int .u32 (i : Int), .int .i64 0]) ∧
      w' = (((w.drewN q).setCell ⟨L.g, 2, none⟩ (.slice (some ⟨gr, 0, none⟩) r.length L.rc)).setCell ⟨L.gu, i, none⟩ (.bool true)).setCell ⟨L.gg, i, none⟩ (.int .u32 (IntKind.u32.wrap (S.gen i + 1))) := by
  have hi := hw.rl i (by simp [hr])
  have hfr := hw.fr
  have hn2 := hw.n2
  have hfree : 0 < S.free := by simp [SS.free, hr]; omega
  have HH := hid h
  have HW := hid hw
  have hl := hw.len
  have hl1 : S.rl.length = r.length + 1 := by rw [hr]; rfl
  have hfle := hw.free_le
  have n1 : L.g ≠ L.gu := rowIs_ne h.hd h.us (by decide)
  have n2 : L.g ≠ L.gg := rowIs_ne h.hd h.gs (by decide)
  have n3 : L.gu ≠ L.gg := rowIs_ne h.us h.gs (by decide)
  obtain ⟨gr, hra, hgr, hlc, hcm, hct⟩ := h.top hr
  have n4 : gr ≠ L.gg := by have := h.sep; rw [hra] at this; simpa using this
  have n5 : gr ≠ L.g := by have := own_ne (A := L.ra) h.rs h.hd (by decide); rw [hra] at this; simpa using this
  have n6 : gr ≠ L.gu := by have := own_ne (A := L.ra) h.rs h.us (by decide); rw [hra] at this; simpa using this
  have hlen : r.length ≤ 65536 := by omega
  have hlen2 : r.length + 1 ≤ S.fresh := by omega
  have HL1 := hid hl1
  have HRA := hid hra
  obtain ⟨fv, hfv⟩ : ∃ fv, fv = S.free := ⟨_, rfl⟩
  rw [← hfv] at hfree hfle
  have HFV := hid hfv
  have m1 := n1.symm
  have m2 := n2.symm
  have m3 := n3.symm
  have m4 := n4.symm
  have m5 := n5.symm
  have m6 := n6.symm
  have c0 := h.c0
  have c1 := h.c1
  have c2 := h.c2
  rw [hra, hl1] at c2
  have cu := h.cu (i := i) (by omega)
  have cg := h.cg (i := i) (by omega)
  have f2 := h.hd.frozen 2
  have fu := h.us.frozen i
  have fg := h.gs.frozen i
  have fne : ((fv : Int) == 0) = false := by simp; omega
  obtain ⟨b0, hb0⟩ : ∃ b, b = S.on i := ⟨_, rfl⟩
  rw [← hb0] at cu
  obtain ⟨x, hx⟩ : ∃ x, x = S.gen i := ⟨_, rfl⟩
  rw [← hx] at cg ⊢
  have hx0 : 0 ≤ x ∧ x ≤ 4294967295 := by rw [hx]; exact hw.g0 i
  clear h hw hl hl1 hra hfv hr hb0 hx
  go_enter Try.func18, Try.ntmps18
  go_wp2_with fail
  refine (free_any HH.out HW.out).mono ?_
  rintro e w1 ⟨rfl, q, rfl⟩
  rw [← HFV.out]
  go_wp2
  go_ret2
  exact ⟨q, gr, HRA.out, rfl, rfl⟩

set_option maxRecDepth 100000 in
set_option maxHeartbeats 1000000 in
theorem alloc_fresh (h : SAt B w L S) (hw : S.wf) (hr : S.rl = []) (hf : S.fresh < S.n) :
    Calls Try.prog 18 #[.pointer (some ⟨L.g, 0, none⟩)] w fun e w' => ∃ q, e = .returned (.tuple #[.int .u32 ((S.fresh + 1 : Nat) : Int), .int .i64 0]) ∧
      w' = (((w.drewN q).setCell ⟨L.g, 3, none⟩ (.int .u32 ((S.fresh + 1 : Nat) : Int))).setCell ⟨L.gu, S.fresh + 1, none⟩ (.bool true)).setCell ⟨L.gg, S.fresh + 1, none⟩ (.int .u32 (IntKind.u32.wrap (S.gen (S.fresh + 1) + 1))) := by
  have hn2 := hw.n2
  have hfree : 0 < S.free := by simp [SS.free, hr]; omega
  have HH := hid h
  have HW := hid hw
  have hl1 : S.rl.length = 0 := by rw [hr]; rfl
  have hfle := hw.free_le
  have n1 : L.g ≠ L.gu := rowIs_ne h.hd h.us (by decide)
  have n2 : L.g ≠ L.gg := rowIs_ne h.hd h.gs (by decide)
  have n3 : L.gu ≠ L.gg := rowIs_ne h.us h.gs (by decide)
  obtain ⟨fv, hfv⟩ : ∃ fv, fv = S.free := ⟨_, rfl⟩
  rw [← hfv] at hfree hfle
  have HFV := hid hfv
  have m1 := n1.symm
  have m2 := n2.symm
  have m3 := n3.symm
  have c0 := h.c0
  have c1 := h.c1
  have c2 := h.c2
  rw [hl1] at c2
  have c3 := h.c3
  have cu := h.cu (i := S.fresh + 1) (by omega)
  have cg := h.cg (i := S.fresh + 1) (by omega)
  have f3 := h.hd.frozen 3
  have fu := h.us.frozen (S.fresh + 1)
  have fg := h.gs.frozen (S.fresh + 1)
  have fne : ((fv : Int) == 0) = false := by simp; omega
  obtain ⟨b0, hb0⟩ : ∃ b, b = S.on (S.fresh + 1) := ⟨_, rfl⟩
  rw [← hb0] at cu
  obtain ⟨x, hx⟩ : ∃ x, x = S.gen (S.fresh + 1) := ⟨_, rfl⟩
  rw [← hx] at cg ⊢
  have hx0 : 0 ≤ x ∧ x ≤ 4294967295 := by rw [hx]; exact hw.g0 _
  obtain ⟨f, hff⟩ : ∃ f, f = S.fresh := ⟨_, rfl⟩
  rw [← hff] at hf c3 cu cg fu fg ⊢
  clear h hw hl1 hfv hr hb0 hx hff
  go_enter Try.func18, Try.ntmps18
  go_wp2_with fail
  refine (free_any HH.out HW.out).mono ?_
  rintro e w1 ⟨rfl, q, rfl⟩
  rw [← HFV.out]
  go_wp2
  go_ret2
  exact ⟨q, rfl, rfl⟩

/-! ### what the stores make of the state -/
theorem u32_wrap (x : Int) : IntKind.u32.wrap x = x % 4294967296 := by simp [IntKind.wrap, IntKind.bits, IntKind.signed]

theorem SAt.stored (h : SAt B w L S) {S' : SS} (q j i : Nat) (v : Value) (_hj : j = 2 ∨ j = 3) (hn : S'.n = S.n) (hon : ∀ k, S'.on k = if k = i then true else S.on k) (hg : ∀ k, S'.gen k = if k = i then (S.gen i + 1) % 4294967296 else S.gen k)
    (hfl : ∀ k, k < 4 → fldS L S' k = if k = j then v else fldS L S k) (hrs : w.ownsRow B 30 1 (L.rv S') S'.rl.length (u32s S'.rl.reverse)) :
    SAt B ((((w.drewN q).setCell ⟨L.g, j, none⟩ v).setCell ⟨L.gu, i, none⟩ (.bool true)).setCell ⟨L.gg, i, none⟩ (.int .u32 (IntKind.u32.wrap (S.gen i + 1)))) L S' := by
  have n1 : L.g ≠ L.gu := rowIs_ne h.hd h.us (by decide)
  have n2 : L.g ≠ L.gg := rowIs_ne h.hd h.gs (by decide)
  have n3 : L.gu ≠ L.gg := rowIs_ne h.us h.gs (by decide)
  have n5 : L.ra.map (·.block) ≠ some L.g := own_ne (A := L.ra) h.rs h.hd (by decide)
  have n6 : L.ra.map (·.block) ≠ some L.gu := own_ne (A := L.ra) h.rs h.us (by decide)
  have d1 : (w.drewN q).rowIs L.g 85 4 (fldS L S) := h.hd
  have d2 : (w.drewN q).rowIs L.gu 4 (S.n + 1) (fun i => .bool (S.on i)) := h.us
  have d3 : (w.drewN q).rowIs L.gg 30 (S.n + 1) (fun i => .int .u32 (S.gen i)) := h.gs
  refine ⟨?_, ?_, ?_, ?_, h.sep, h.b1, h.b2, h.b3⟩
  · exact (((d1.set j v).setOther (a := ⟨L.gu, i, none⟩) n1 _).setOther (a := ⟨L.gg, i, none⟩) n2 _).congr fun k hk => (hfl k hk).symm
  · rw [hn]
    exact (((d2.setOther (a := ⟨L.g, j, none⟩) n1.symm _).set i _).setOther (a := ⟨L.gg, i, none⟩) n3 _).congr fun k hk => by
      rw [hon k]; split <;> rfl
  · rw [hn]
    exact (((d3.setOther (a := ⟨L.g, j, none⟩) n2.symm _).setOther (a := ⟨L.gu, i, none⟩) n3.symm _).set i _).congr fun k hk => by
      rw [hg k, u32_wrap]; split <;> rfl
  · refine own_of_block hrs fun k hk => ?_
    rw [Loc.rv, ownBlock_slice] at hk
    have k1 : k ≠ L.g := fun e => n5 (by rw [hk, e])
    have k2 : k ≠ L.gu := fun e => n6 (by rw [hk, e])
    have k3 : k ≠ L.gg := fun e => h.sep (by rw [hk, e])
    rw [Below.heap_setCell _ ⟨L.gg, i, none⟩ _ k k3, Below.heap_setCell _ ⟨L.gu, i, none⟩ _ k k2, Below.heap_setCell _ ⟨L.g, j, none⟩ _ k k1]
    rfl

theorem alloc_any (h : SAt B w L S) (hw : S.wf) (hf : 0 < S.free) :
    Calls Try.prog 18 #[.pointer (some ⟨L.g, 0, none⟩)] w fun e w' => e = .returned (.tuple #[.int .u32 (S.next : Int), .int .i64 0]) ∧ SAt B w' L S.alloc ∧ Chg L.foot w w' := by
  cases hr : S.rl with
  | nil =>
    have hfr : S.fresh < S.n := by simp [SS.free, hr] at hf; omega
    have hnext : S.next = S.fresh + 1 := by simp [SS.next, hr]
    refine (alloc_fresh h hw hr hfr).mono ?_
    rintro e w' ⟨q, rfl, rfl⟩
    refine ⟨by rw [hnext], ?_, ?_⟩
    · refine h.stored (S' := S.alloc) q 3 (S.fresh + 1) _ (.inr rfl) S.alloc_n (fun k => by rw [S.alloc_on, hnext]) (fun k => by rw [S.alloc_gen, hnext]) (fun k hk => ?_) ?_
      · have e1 : S.alloc.rl = [] := by simp [SS.alloc, hr, SS.take]
        have e2 : S.alloc.fresh = S.fresh + 1 := by simp [SS.alloc, hr, SS.take]
        match k, hk with
        | 0, _ => simp [fldS, S.alloc_n]
        | 1, _ => simp [fldS, S.alloc_n]
        | 2, _ => simp [fldS, Loc.rv, e1, hr]
        | 3, _ => simp [fldS, e2]
      · have e1 : S.alloc.rl = [] := by simp [SS.alloc, hr, SS.take]
        have := h.rs
        rw [Loc.rv, hr] at this
        rw [Loc.rv, e1]
        exact this
    · exact ((((Chg.refl L.foot w).drewN q).setCell (.inl (.inl rfl)) _).setCell (.inl (.inr (.inl rfl))) _).setCell (.inl (.inr (.inr (.inl rfl)))) _
  | cons i r =>
    have hnext : S.next = i := by simp [SS.next, hr]
    have hi := hw.rl i (by simp [hr])
    refine (alloc_top i r h hw hr).mono ?_
    rintro e w' ⟨q, gr, hra, rfl, rfl⟩
    have e1 : S.alloc.rl = r := by simp [SS.alloc, hr, SS.take]
    have e2 : S.alloc.fresh = S.fresh := by simp [SS.alloc, hr, SS.take]
    refine ⟨by rw [hnext], ?_, ?_⟩
    · refine h.stored (S' := S.alloc) q 2 i _ (.inl rfl) S.alloc_n (fun k => by rw [S.alloc_on, hnext]) (fun k => by rw [S.alloc_gen, hnext]) (fun k hk => ?_) ?_
      · match k, hk with
        | 0, _ => simp [fldS, S.alloc_n]
        | 1, _ => simp [fldS, S.alloc_n]
        | 2, _ => simp [fldS, Loc.rv, e1, hra]
        | 3, _ => simp [fldS, e2]
      · have := h.rs
        rw [Loc.rv, hra, hr] at this
        rw [Loc.rv, hra, e1]
        refine ownsRow_pop (n := r.length) (last := [Value.int .u32 (i : Int)]) (by simp [u32s]) ?_
        simpa [u32s] using this
    · exact ((((Chg.refl L.foot w).drewN q).setCell (.inl (.inl rfl)) _).setCell (.inl (.inr (.inl rfl))) _).setCell (.inl (.inr (.inr (.inl rfl)))) _
end
end Go.Proofs.Ytbmamikhjfieoaa
