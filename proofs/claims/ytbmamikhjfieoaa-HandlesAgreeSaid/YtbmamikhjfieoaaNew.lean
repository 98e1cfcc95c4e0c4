/-
  THE CONTRACTS OF slots.New and Order. New at every capacity; Order at every state of an allocator.
-/
import Derived.Test.YtbmamikhjfieoaaRel
namespace Go.Proofs.Ytbmamikhjfieoaa
open Go.RowKit

set_option maxRecDepth 100000 in
set_option maxHeartbeats 1000000 in
theorem new_bad (c : Int) (w : World) (h : c < 1 ∨ 65536 < c) :
    Calls Try.prog 20 #[.int .i64 c] w fun e w' => e = .returned (.tuple #[.pointer none, .int .i64 1]) ∧ w = w' := by
  rcases h with h | h
  · go_enter Try.func20, Try.ntmps20
    go_wp2
    go_ret2
    exact ⟨rfl, rfl⟩
  · have h1 : 1 ≤ c := by omega
    go_enter Try.func20, Try.ntmps20
    go_wp2
    go_ret2
    exact ⟨rfl, rfl⟩

theorem make_at {z : Value} (t e : TypeId) (sz : Nat) (ht : Try.prog.underlying t = some (.slice e)) (hi : (Try.prog.info? e).map (fun i => (i.zero, i.size, i.bytes)) = some (some z, 1, sz)) (hz1 : z.cells = #[z]) (n : Nat) (hb : sz * (n + 1) ≤ 281474976710656) (hn : n ≤ 65536) (w : World) :
    (Instr.makeSlice t (.int .i64 ((n : Int) + 1)) (.int .i64 ((n : Int) + 1))).run Try.prog w = .ok (.slice (some ⟨w.heap.size, 0, none⟩) (n + 1) (n + 1)) (w.alloc (.cells (madeCells #[z] (n + 1)) e)) := by
  obtain ⟨i0, hi0, hz0, hz1', hz2⟩ := info_parts hi
  have := run_make_row (P := Try.prog) t e i0 z ht hi0 hz0 hz1' hz1 .i64 .i64 (n + 1) (by rw [hz2]; exact hb) (by omega) w
  rw [show ((n + 1 : Nat) : Int) = (n : Int) + 1 by omega] at this
  exact this

theorem SAt.drew {B : Nat} {w : World} {L : Loc} {S : SS} (h : SAt B w L S) : SAt B w.drew L S := ⟨h.hd, h.us, h.gs, h.rs, h.sep, h.b1, h.b2, h.b3⟩

def newFields (gu gg n : Nat) : Array Value := #[.slice (some ⟨gu, 0, none⟩) (n + 1) (n + 1), .slice (some ⟨gg, 0, none⟩) (n + 1) (n + 1), .slice none 0 0, .int .u32 0]

/-- A new allocator: two rows, in either order, then the struct. -/
theorem SAt.made (w : World) (n B : Nat) (hB : B ≤ w.heap.size) (b : Bool) :
    let o1 : Obj := .cells (madeCells #[.bool false] (n + 1)) 4
    let o2 : Obj := .cells (madeCells #[.int .u32 0] (n + 1)) 30
    let gu := if b then w.heap.size else w.heap.size + 1
    let gg := if b then w.heap.size + 1 else w.heap.size
    let w2 := if b then (w.alloc o1).alloc o2 else (w.alloc o2).alloc o1
    SAt B (w2.alloc (.cells (newFields gu gg n) 85)) { g := w.heap.size + 2, gu := gu, gg := gg, ra := none, rc := 0 } (SS.new n) := by
  have fl : ∀ (X : World) (gu gg : Nat), (X.alloc (.cells (newFields gu gg n) 85)).rowIs X.heap.size 85 4 (fldS { g := X.heap.size, gu := gu, gg := gg, ra := none, rc := 0 } (SS.new n)) := fun X gu gg =>
    World.rowIs_alloc X (newFields gu gg n) 85 _ (fun i hi => by
      match i, hi with
      | 0, _ => rfl
      | 1, _ => rfl
      | 2, _ => rfl
      | 3, _ => rfl)
  cases b
  · refine ⟨?_, ?_, ?_, World.ownsRow_nil _ _ _ _, by simp, by simp; omega, by simp; omega, by simp; omega⟩
    · have := fl ((w.alloc (.cells (madeCells #[.int .u32 0] (n + 1)) 30)).alloc (.cells (madeCells #[.bool false] (n + 1)) 4)) (w.heap.size + 1) w.heap.size
      first | exact this | (simp at this; exact this)
    · have := (World.rowIs_made (w.alloc (.cells (madeCells #[.int .u32 0] (n + 1)) 30)) (.bool false) (n + 1) 4).alloc (.cells (newFields (w.heap.size + 1) w.heap.size n) 85)
      first | exact this | (simp at this; exact this)
    · have := ((World.rowIs_made w (.int .u32 0) (n + 1) 30).alloc (.cells (madeCells #[.bool false] (n + 1)) 4)).alloc (.cells (newFields (w.heap.size + 1) w.heap.size n) 85)
      first | exact this | (simp at this; exact this)
  · refine ⟨?_, ?_, ?_, World.ownsRow_nil _ _ _ _, by simp, by simp; omega, by simp; omega, by simp; omega⟩
    · have := fl ((w.alloc (.cells (madeCells #[.bool false] (n + 1)) 4)).alloc (.cells (madeCells #[.int .u32 0] (n + 1)) 30)) w.heap.size (w.heap.size + 1)
      first | exact this | (simp at this; exact this)
    · have := ((World.rowIs_made w (.bool false) (n + 1) 4).alloc (.cells (madeCells #[.int .u32 0] (n + 1)) 30)).alloc (.cells (newFields w.heap.size (w.heap.size + 1) n) 85)
      first | exact this | (simp at this; exact this)
    · have := (World.rowIs_made (w.alloc (.cells (madeCells #[.bool false] (n + 1)) 4)) (.int .u32 0) (n + 1) 30).alloc (.cells (newFields w.heap.size (w.heap.size + 1) n) 85)
      first | exact this | (simp at this; exact this)

set_option maxRecDepth 100000 in
set_option maxHeartbeats 2000000 in
theorem new_any (n : Nat) (w : World) (B : Nat) (hB : B ≤ w.heap.size) (h1 : 1 ≤ n) (h2 : n ≤ 65536) :
    Calls Try.prog 20 #[.int .i64 (n : Int)] w fun e w' => ∃ L, e = .returned (.tuple #[.pointer (some ⟨L.g, 0, none⟩), .int .i64 0]) ∧ SAt B w' L (SS.new n) ∧ Below w.heap.size w w' ∧ (∀ k, L.foot k → w.heap.size ≤ k) := by
  have hm1 := fun W => make_at (z := .bool false) 27 4 1 Try.underlying27 info4 rfl n (by omega) h2 W
  have hm2 := fun W => make_at (z := .int .u32 0) 28 30 4 Try.underlying28 info30 rfl n (by omega) h2 W
  go_enter Try.func20, Try.ntmps20
  go_wp2
  go_region
  all_goals go_wp2
  all_goals go_ret2
  · exact ⟨{ g := w.heap.size + 2, gu := w.heap.size, gg := w.heap.size + 1, ra := none, rc := 0 }, rfl, (SAt.made w n B hB true).drew, ((((Below.refl _ w).alloc (Nat.le_refl _) _).alloc (by simp) _).alloc (by simp; omega) _).drew, fun k hk => by
      rcases hk with hk | hk | hk | hk
      · simp at hk; omega
      · simp at hk; omega
      · simp at hk; omega
      · simp at hk⟩
  · exact ⟨{ g := w.heap.size + 2, gu := w.heap.size + 1, gg := w.heap.size, ra := none, rc := 0 }, rfl, (SAt.made w n B hB false).drew, ((((Below.refl _ w).alloc (Nat.le_refl _) _).alloc (by simp) _).alloc (by simp; omega) _).drew, fun k hk => by
      rcases hk with hk | hk | hk | hk
      · simp at hk; omega
      · simp at hk; omega
      · simp at hk; omega
      · simp at hk⟩

theorem ord_rev (S : SS) (j : Nat) (hj : j < S.rl.length) : S.rl.reverse.getD (S.rl.length - 1 - j) 0 = S.ord.getD j 0 := by
  simp only [SS.ord, List.getD]
  rw [List.getElem?_append_left hj, List.getElem?_reverse (by omega)]
  congr 2
  omega
theorem take_natsI (l : List Nat) (j : Nat) (hj : j < l.length) : u32s (l.take (j + 1)) = u32s (l.take j) ++ [.int .u32 ((l.getD j 0 : Nat) : Int)] := by
  rw [List.take_succ_eq_append_getElem hj]
  unfold u32s
  rw [List.map_append]
  simp [List.getD, hj]
theorem ord_late (S : SS) (j : Nat) (h1 : S.rl.length ≤ j) (h2 : j < S.free) : S.ord.getD j 0 = S.fresh + 1 + (j - S.rl.length) := by
  simp only [SS.ord, List.getD]
  have : j - S.rl.length < S.n - S.fresh := by unfold SS.free at h2; omega
  rw [List.getElem?_append_right h1, List.getElem?_range' (by omega)]
  simp

section
variable {B : Nat} {w : World} {L : Loc} {S : SS}
theorem SAt.stack (h : SAt B w L S) (k : Nat) (hk : k < S.rl.length) : ∃ gr, L.ra = some ⟨gr, 0, none⟩ ∧ gr < w.heap.size ∧ w.cell? ⟨gr, k, none⟩ = some (.int .u32 ((S.rl.reverse.getD k 0 : Nat) : Int)) := by
  have hrs := h.rs
  obtain ⟨gr, cap, hv, hb, hlt⟩ := h.rs.form (by omega)
  injection hv with hA hn hc
  refine ⟨gr, hA, hlt, ?_⟩
  unfold Loc.rv at hrs
  rw [hA] at hrs
  rw [hrs.cellAt k (by omega)]
  simp [u32s, List.getD, hk]

set_option maxRecDepth 100000 in
set_option maxHeartbeats 2000000 in
theorem order_any (h : SAt B w L S) (hw : S.wf) :
    Calls Try.prog 22 #[.pointer (some ⟨L.g, 0, none⟩)] w fun e w' => ∃ A c, e = .returned (.slice A S.free c) ∧ Nums .u32 (fun k => k < w.heap.size) w' A S.free (natsI S.ord) ∧ SAt B w' L S ∧ Below w.heap.size w w' := by
  obtain ⟨i0, hi0, hz0, hz1, hz2⟩ := info_parts info30
  have hn2 := hw.n2
  have hfr := hw.fr
  have hlen := hw.len
  have hfle := hw.free_le
  have HH := hid h
  have HW := hid hw
  obtain ⟨N, hN⟩ : ∃ N, N = S.free := ⟨_, rfl⟩
  obtain ⟨m, hm⟩ : ∃ m, m = S.rl.length := ⟨_, rfl⟩
  have hNm : N = m + (S.n - S.fresh) := by rw [hN, hm]; rfl
  have HN := hid hN
  have HM := hid hm
  have HNM := hid hNm
  have hN1 : m ≤ N := by omega
  have hN2 : N ≤ 65536 := by omega
  have hm2 : m ≤ 65536 := by omega
  clear h hw hN hm hNm hlen hfle
  go_enter Try.func22, Try.ntmps22
  go_wp2_with fail
  refine (free_any HH.out HW.out).mono ?_
  rintro e w1 ⟨rfl, hq⟩
  rw [← HN.out]
  have H1 := hid (HH.out.qt hq)
  have HB1 : Hid (Below w.heap.size w w1) := hid ((hq.chg Nil).below (Nat.le_refl _) (fun _ h => h.elim))
  clear hq
  go_wp2_with (at_make; refine wpList_make_own _ rfl _ _ 28 rfl w1.heap.size 30 i0 (.int .u32 0) 1 Try.underlying28 hi0 hz0 hz1 _ _ _ N rfl rfl (by omega) ?b2 ?b3 (Nat.le_refl _) ?_)
  case b2 => rw [hz2]; omega
  case b3 => unfold maxLen; omega
  intro w2 hown2 hg2
  have hb2 : Below w1.heap.size w1 w2 := (Below.refl _ _).grown hg2 (Nat.le_refl _) (fun k h => by cases h)
  have c2 : w2.cell? ⟨L.g, 2, none⟩ = some (.slice L.ra m L.rc) := by rw [HM.out]; exact (H1.out.below hb2).c2
  have HC2 := hid c2
  clear hg2
  go_wp2
  clear c2
  go_loopw [3, 4] (fun out i wr => ∃ j : Nat, j ≤ m ∧ i = .int .i64 ((m : Int) - 1 - (j : Int)) ∧ out = .slice (some ⟨w1.heap.size, 0, none⟩) j N ∧ wr.ownsRow w1.heap.size 30 1 (.slice (some ⟨w1.heap.size, 0, none⟩) j N) j (u32s (S.ord.take j)) ∧ Below w1.heap.size w1 wr) (fun _ i _ => (intOf i + 1).toNat)
  case atStart => exact ⟨0, by omega, by simp, rfl, by simpa [u32s] using hown2, hb2⟩
  case round =>
    obtain ⟨j, hj, rfl, rfl, hown, hb⟩ := hrel
    clear hown2 hb2
    have hS := H1.out.below hb
    have HS := hid hS
    have c0 := hS.c0
    have c2 := hS.c2
    have c3 := hS.c3
    rw [← HM.out] at c2
    clear hS
    by_cases hlt : j < m
    · obtain ⟨gr, hra, hgl, hct⟩ := HS.out.stack (m - 1 - j) (by rw [← HM.out]; omega)
      have e1 : S.rl.reverse.getD (m - 1 - j) 0 = S.ord.getD j 0 := by rw [HM.out]; exact ord_rev S j (by rw [← HM.out]; exact hlt)
      rw [e1] at hct
      obtain ⟨z, hz⟩ : ∃ z, z = S.ord.getD j 0 := ⟨_, rfl⟩
      rw [← hz] at hct
      have HZ := hid hz
      have ei : (((m : Int) - 1 - (j : Int))) = ((m - 1 - j : Nat) : Int) := by omega
      rw [ei]
      rw [hra] at c2
      clear hz e1 ei hra
      go_wp2_with (at_builtin; refine wpList_append_fits _ rfl (.tmp 19) (.tmp 27) 28 rfl w1.heap.size 30 i0 1 Try.underlying28 hi0 hz1 w1.heap.size j N _ rfl (hown.alloc _) ⟨wr.heap.size, 0, none⟩ 1 1 [.int .u32 (z : Int)] rfl rfl (cell_one_new _ _ _) (by intro u hu; simp at hu; subst hu; rfl) (by omega) ?_)
      intro w3 hown3 hg3
      have hb3 : Below w1.heap.size w1 w3 := (hb.alloc hb.size _).grown hg3 (by have := hb.size; simp; omega) (fun k h => by cases h; exact Nat.le_refl _)
      clear hown hb hg3 c0 c2 c3 hct
      go_wp2
      go_roundw
      case rel => exact ⟨j + 1, by omega, by go_num, rfl, by rw [take_natsI _ _ (by rw [S.ord_len, ← HN.out]; omega), ← HZ.out]; exact hown3, hb3⟩
      case measure => simp [intOf]
    · have hjm : j = m := by omega
      subst hjm
      have hNj : N = j + (S.n - S.fresh) := HNM.out
      have HNJ := hid hNj
      clear hNj
      go_wp2
      clear c0 c2 c3
      go_loopw [3, 5] (fun out i wr => ∃ t : Nat, t ≤ S.n - S.fresh ∧ i = .int .i64 ((S.fresh : Int) + 1 + (t : Int)) ∧ out = .slice (some ⟨w1.heap.size, 0, none⟩) (j + t) N ∧ wr.ownsRow w1.heap.size 30 1 (.slice (some ⟨w1.heap.size, 0, none⟩) (j + t) N) (j + t) (u32s (S.ord.take (j + t))) ∧ Below w1.heap.size w1 wr) (fun _ i _ => (S.n + 1 - intOf i).toNat)
      case atStart => exact ⟨0, by omega, by simp, rfl, hown, hb⟩
      case round =>
        clear hown hb HS
        obtain ⟨t, ht, rfl, rfl, hown, hb⟩ := hrel
        have HS := hid (H1.out.below hb)
        by_cases hlt : t < S.n - S.fresh
        · have hz := ord_late S (j + t) (by rw [← HM.out]; omega) (by rw [← HN.out, HNJ.out]; omega)
          rw [← HM.out] at hz
          have HZ := hid hz
          have HTN := hid (show j + t < S.ord.length by rw [S.ord_len, ← HN.out, HNJ.out]; omega)
          clear hz
          go_wp2_with fail
          refine (cap_any HS.out hn2).mono ?_
          rintro e w' ⟨rfl, rfl⟩
          go_wp2_with (at_builtin; refine wpList_append_fits _ rfl (.tmp 41) (.tmp 44) 28 rfl w1.heap.size 30 i0 1 Try.underlying28 hi0 hz1 w1.heap.size (j + t) N _ rfl (hown.alloc _) ⟨wr.heap.size, 0, none⟩ 1 1 [.int .u32 ((S.fresh : Int) + 1 + (t : Int))] rfl rfl (cell_one_new _ _ _) (by intro u hu; simp at hu; subst hu; rfl) (by have := HNJ.out; omega) ?_)
          intro w3 hown3 hg3
          have hb3 : Below w1.heap.size w1 w3 := (hb.alloc hb.size _).grown hg3 (by have := hb.size; simp; omega) (fun k h => by cases h; exact Nat.le_refl _)
          clear hown hb hg3
          go_wp2
          go_roundw
          case rel => exact ⟨t + 1, by omega, by go_num, rfl, by
            rw [← Nat.add_assoc, take_natsI _ _ HTN.out, HZ.out]
            have e : ((S.fresh + 1 + (j + t - j) : Nat) : Int) = (S.fresh : Int) + 1 + (t : Int) := by omega
            rw [e]; exact hown3, hb3⟩
          case measure => simp [intOf]; omega
        · have htn : t = S.n - S.fresh := by omega
          have hfin : wr.ownsRow w1.heap.size 30 1 (.slice (some ⟨w1.heap.size, 0, none⟩) (j + t) N) (j + t) ((natsI S.ord).map (Value.int .u32)) := by
            rw [List.take_of_length_le (by rw [S.ord_len, ← HN.out, HNJ.out]; omega), u32s_natsI] at hown
            exact hown
          have HFIN := hid hfin
          have HTE := hid (show j + t = N by rw [HNJ.out]; omega)
          clear hown hfin htn
          go_wp2_with fail
          refine (cap_any HS.out hn2).mono ?_
          rintro e w' ⟨rfl, rfl⟩
          go_wp2
          go_ret
          have hF := HFIN.out
          rw [HTE.out, HN.out] at hF ⊢
          exact ⟨_, _, rfl, Nums.own hF (by have := HB1.out.size; omega), HS.out, HB1.out.trans (hb.mono HB1.out.size)⟩
end
end Go.Proofs.Ytbmamikhjfieoaa
