/-
  THE CONTRACTS OF versionmapref3's Slots, continued: Order.
-/
import Derived.Test.YtbmamikhjfieoaaRefa
namespace Go.Proofs.Ytbmamikhjfieoaa
open Go.RowKit

theorem Nums.own' {k : IntKind} {F : Nat → Prop} {w : World} {base e n cap : Nat} {A : Option Addr} {zs : List Int} (h : w.ownsRow base e 1 (.slice A n cap) n (zs.map (Value.int k))) (hF : ∀ i, F i → i < base) : Nums k F w A n zs := by
  rcases h.2 with ⟨hv, h0⟩ | ⟨g, cap', cur, hv, hb, _⟩
  · subst h0
    have hl : zs = [] := by have := h.1; simp at this; exact this
    subst hl
    exact Nums.nil _ _ _ _
  · injection hv with hA hn hc
    subst hA
    exact Nums.own h (fun hf => by have := hF _ hf; omega)

section
variable {F : Nat → Prop} {w : World} {R : RL} {S : SS}
set_option maxRecDepth 100000 in
set_option maxHeartbeats 2000000 in
theorem ref_order (h : RAt F w R S) (hw : S.wf) :
    Calls Try.prog 30 #[R.val S] w fun e w' => ∃ A c, e = .returned (.slice A S.free c) ∧ Nums .u32 (fun k => k < w.heap.size) w' A S.free (natsI S.ord) ∧ Below w.heap.size w w' := by
  obtain ⟨i0, hi0, hz0, hz1, hz2⟩ := info_parts info30
  have hn2 := hw.n2
  have hfr := hw.fr
  have hlen := hw.len
  have hrc := h.sc
  have hgc := h.gc
  have hoc := h.oc
  have HH := hid h
  have HW := hid hw
  obtain ⟨m, hm⟩ : ∃ m, m = S.rl.length := ⟨_, rfl⟩
  have HM := hid hm
  have HN := hid (show S.free = m + (S.n - S.fresh) by rw [hm]; rfl)
  have HOL := hid S.ord_len
  unfold RL.val
  rw [← hm] at hlen hrc ⊢
  have hm2 : m ≤ 65536 := by omega
  clear h hw hm
  go_enter Try.func30, Try.ntmps30
  go_wp2
  obtain ⟨W0, hW0⟩ : ∃ W0, W0 = w.alloc (.cells #[.int .i64 (S.n : Int), .slice R.a m R.c, .int .i64 ((S.fresh : Int) + 1), .slice (some ⟨R.gb, 0, none⟩) S.n R.gc, .slice (some ⟨R.ob, 0, none⟩) S.n R.oc] 42) := ⟨_, rfl⟩
  rw [← hW0]
  have X1 : Row5 W0 w.heap.size (.int .i64 (S.n : Int)) (.slice R.a m R.c) (.int .i64 ((S.fresh : Int) + 1)) (.slice (some ⟨R.gb, 0, none⟩) S.n R.gc) (.slice (some ⟨R.ob, 0, none⟩) S.n R.oc) := by rw [hW0]; exact heap_alloc_new w _
  have hsz : W0.heap.size = w.heap.size + 1 := by rw [hW0]; simp
  have HB0 : Hid (Below w.heap.size w W0) := hid (by rw [hW0]; exact (Below.refl _ w).alloc (Nat.le_refl _) _)
  clear hW0
  obtain ⟨H, hH⟩ : ∃ H, H = w.heap.size := ⟨_, rfl⟩
  rw [← hH] at X1 hsz ⊢
  have HEQ := hid hH
  have HX1 := hid X1
  clear hH X1
  go_loopw [3, 4] (fun out i wr => ∃ (j : Nat) (A : Option Addr) (c : Nat), j ≤ m ∧ i = .int .i64 ((m : Int) - 1 - (j : Int)) ∧ out = .slice A j c ∧ wr.ownsRow (H + 1) 30 1 (.slice A j c) j (u32s (S.ord.take j)) ∧ Below (H + 1) W0 wr) (fun _ i _ => (intOf i + 1).toNat)
  case atStart => exact ⟨0, none, 0, by omega, by simp, rfl, by simpa [u32s] using World.ownsRow_nil _ _ _ _, Below.refl _ _⟩
  case round =>
    obtain ⟨j, A, c, hj, rfl, rfl, hown, hb⟩ := hrel
    obtain ⟨a0, a1, a2, a3, a4⟩ := Row5.cells (HX1.out.below hb (by omega))
    by_cases hlt : j < m
    · obtain ⟨b, off, hA, hbl, _, hct⟩ := HH.out.st.2 (by rw [← HM.out]; omega)
      have ct := hct (m - 1 - j) (by rw [← HM.out]; omega)
      have e1 : S.rl.reverse.getD (m - 1 - j) 0 = S.ord.getD j 0 := by rw [HM.out]; exact ord_rev S j (by rw [← HM.out]; exact hlt)
      rw [natsI_getD, e1] at ct
      have cr : wr.cell? ⟨b, off + (m - 1 - j), none⟩ = some (.int .u32 ((S.ord.getD j 0 : Nat) : Int)) := ((hb.cell (p := ⟨b, off + (m - 1 - j), none⟩) (by have := HEQ.out; show b < _; omega)).trans (HB0.out.cell (p := ⟨b, off + (m - 1 - j), none⟩) hbl)).trans ct
      obtain ⟨z, hz⟩ : ∃ z, z = S.ord.getD j 0 := ⟨_, rfl⟩
      rw [← hz] at cr
      have HZ := hid hz
      have ei : (((m : Int) - 1 - (j : Int))) = ((m - 1 - j : Nat) : Int) := by omega
      rw [ei]
      rw [hA] at a1
      have HOWN := hid hown
      have HB := hid hb
      have hbs : H + 1 ≤ wr.heap.size := by have := hb.size; omega
      clear hz e1 ei hA hct ct hown hb
      go_wp2_with (at_builtin; refine wpList_append_lies _ rfl (.tmp 14) (.tmp 20) 28 rfl (H + 1) 30 i0 (.int .u32 0) 1 4 Try.underlying28 hi0 hz0 hz1 hz2 rfl (by decide) (.slice A j c) j _ rfl (HOWN.out.alloc _) ⟨wr.heap.size, 0, none⟩ 1 1 [.int .u32 (z : Int)] rfl rfl (cell_one_new _ _ _) (by intro u hu; simp at hu; subst hu; rfl) (by omega) (by unfold maxLen; omega) (by omega) (by simp; omega) _ rfl ?_)
      intro g3 cap3 w3 hown3 hg3 _ _
      have hb3 : Below (H + 1) W0 w3 := (HB.out.alloc hbs _).grown hg3 (by simp; omega) (fun k hk => (HOWN.out.lt k hk).1)
      clear hg3 a0 a1 a2 a3 a4 cr
      go_wp2
      go_roundw
      case rel => exact ⟨j + 1, _, _, by omega, by go_num, rfl, by rw [take_natsI _ _ (by rw [HOL.out, HN.out]; omega), ← HZ.out]; exact hown3, hb3⟩
      case measure => simp [intOf]
    · have hjm : j = m := by omega
      subst hjm
      go_wp2
      clear a0 a1 a2 a3 a4
      go_loopw [3, 5] (fun out i wr => ∃ (t : Nat) (A : Option Addr) (c : Nat), t ≤ S.n - S.fresh ∧ i = .int .i64 ((S.fresh : Int) + 1 + (t : Int)) ∧ out = .slice A (j + t) c ∧ wr.ownsRow (H + 1) 30 1 (.slice A (j + t) c) (j + t) (u32s (S.ord.take (j + t))) ∧ Below (H + 1) W0 wr) (fun _ i _ => (S.n + 1 - intOf i).toNat)
      case atStart => exact ⟨0, A, c, by omega, by simp, rfl, hown, hb⟩
      case round =>
        clear hown hb
        obtain ⟨t, A, c, ht, rfl, rfl, hown, hb⟩ := hrel
        obtain ⟨a0, a1, a2, a3, a4⟩ := Row5.cells (HX1.out.below hb (by omega))
        by_cases hlt : t < S.n - S.fresh
        · have hz := ord_late S (j + t) (by rw [← HM.out]; omega) (by rw [HN.out]; omega)
          rw [← HM.out] at hz
          have HZ := hid hz
          have HTN := hid (show j + t < S.ord.length by rw [HOL.out, HN.out]; omega)
          have HOWN := hid hown
          have HB := hid hb
          have hbs : H + 1 ≤ wr.heap.size := by have := hb.size; omega
          clear hz hown hb
          go_wp2_with (at_builtin; refine wpList_append_lies _ rfl (.tmp 30) (.tmp 33) 28 rfl (H + 1) 30 i0 (.int .u32 0) 1 4 Try.underlying28 hi0 hz0 hz1 hz2 rfl (by decide) (.slice A (j + t) c) (j + t) _ rfl (HOWN.out.alloc _) ⟨wr.heap.size, 0, none⟩ 1 1 [.int .u32 ((S.fresh : Int) + 1 + (t : Int))] rfl rfl (cell_one_new _ _ _) (by intro u hu; simp at hu; subst hu; rfl) (by omega) (by unfold maxLen; omega) (by omega) (by simp; omega) _ rfl ?_)
          intro g3 cap3 w3 hown3 hg3 _ _
          have hb3 : Below (H + 1) W0 w3 := (HB.out.alloc hbs _).grown hg3 (by simp; omega) (fun k hk => (HOWN.out.lt k hk).1)
          clear hg3 a0 a1 a2 a3 a4
          go_wp2
          go_roundw
          case rel => exact ⟨t + 1, _, _, by omega, by go_num, rfl, by
            rw [← Nat.add_assoc, take_natsI _ _ HTN.out, HZ.out]
            have e : ((S.fresh + 1 + (j + t - j) : Nat) : Int) = (S.fresh : Int) + 1 + (t : Int) := by omega
            rw [e]; exact hown3, hb3⟩
          case measure => simp [intOf]; omega
        · have htn : t = S.n - S.fresh := by omega
          have HTE := hid (show j + t = S.free by rw [HN.out]; omega)
          have hfin : wr.ownsRow (H + 1) 30 1 (.slice A (j + t) c) (j + t) ((natsI S.ord).map (Value.int .u32)) := by
            rw [List.take_of_length_le (by rw [HOL.out, HTE.out]; exact Nat.le_refl _), u32s_natsI] at hown
            exact hown
          have HFIN := hid hfin
          have HB := hid hb
          clear hown hfin htn hb
          go_wp2
          go_ret
          have hF := HFIN.out
          rw [HTE.out] at hF ⊢
          exact ⟨_, _, rfl, Nums.own' hF (fun i hi => by have h1 : i < w.heap.size := hi; have := HEQ.out; omega), HB0.out.trans (HB.out.mono (by have := HEQ.out; omega))⟩
end
end Go.Proofs.Ytbmamikhjfieoaa
