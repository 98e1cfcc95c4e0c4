/-
  THE CONTRACT OF versionmaplaw4's play: a table and the handles that it issued ('Pl'). For every list of calls.
-/
import Derived.Test.YtbmamikhjfieoaaHpl
import Derived.Deep.RegionLaw
namespace Go.Proofs.Ytbmamikhjfieoaa
open Go.RowKit

/-- The slice of calls among the arguments: call j is f j. -/
def CArg4 (w : World) (A : Option Addr) (n cap : Nat) (f : Nat → C4) : Prop :=
  n ≤ cap ∧ n ≤ 140737488351232 ∧ (0 < n → ∃ b off, A = some ⟨b, off, none⟩ ∧ b < w.heap.size ∧ ∀ j, j < n → w.cell? ⟨b, off + j * 4, none⟩ = some (.int .i64 (f j).kd) ∧ w.cell? ⟨b, off + j * 4 + 1, none⟩ = some (.int .u64 ((f j).h : Int)) ∧
    w.cell? ⟨b, off + j * 4 + 2, none⟩ = some (.int .u32 ((f j).v : Int)) ∧ w.cell? ⟨b, off + j * 4 + 3, none⟩ = some (.bool (f j).r) ∧ (Lit.int .i64 (f j).kd).wf = true ∧ (f j).h ≤ 18446744073709551615 ∧ (f j).v ≤ 4294967295)
theorem CArg4.below {w w' : World} {A : Option Addr} {n cap : Nat} {f : Nat → C4} {B : Nat} (h : CArg4 w A n cap f) (hb : Below B w w') (hB : w.heap.size ≤ B) : CArg4 w' A n cap f := by
  refine ⟨h.1, h.2.1, fun hn => ?_⟩
  obtain ⟨b, off, hA, hlt, hc⟩ := h.2.2 hn
  have hlB : b < B := Nat.lt_of_lt_of_le hlt hB
  refine ⟨b, off, hA, Nat.lt_of_lt_of_le hlt hb.size, fun j hj => ?_⟩
  obtain ⟨h0, h1, h2, h3, h4⟩ := hc j hj
  exact ⟨(hb.cell (p := ⟨b, off + j * 4, none⟩) hlB).trans h0, (hb.cell (p := ⟨b, off + j * 4 + 1, none⟩) hlB).trans h1, (hb.cell (p := ⟨b, off + j * 4 + 2, none⟩) hlB).trans h2, (hb.cell (p := ⟨b, off + j * 4 + 3, none⟩) hlB).trans h3, h4⟩
theorem CArg4.get {w W : World} {A : Option Addr} {n cap : Nat} {f : Nat → C4} (h : CArg4 w A n cap f) {B : Nat} (hb : Below B w W) (hB : w.heap.size ≤ B) (j : Nat) (hj : j < n) : ∃ b off, A = some ⟨b, off, none⟩ ∧ b < w.heap.size ∧
    W.cell? ⟨b, off + j * 4, none⟩ = some (.int .i64 (f j).kd) ∧ W.cell? ⟨b, off + j * 4 + 1, none⟩ = some (.int .u64 ((f j).h : Int)) ∧
    W.cell? ⟨b, off + j * 4 + 2, none⟩ = some (.int .u32 ((f j).v : Int)) ∧ W.cell? ⟨b, off + j * 4 + 3, none⟩ = some (.bool (f j).r) ∧ (Lit.int .i64 (f j).kd).wf = true ∧ (f j).h ≤ 18446744073709551615 ∧ (f j).v ≤ 4294967295 := by
  obtain ⟨b, off, hA, hlt, hc⟩ := h.2.2 (by omega)
  have hlB : b < B := Nat.lt_of_lt_of_le hlt hB
  obtain ⟨h0, h1, h2, h3, h4⟩ := hc j hj
  exact ⟨b, off, hA, hlt, (hb.cell (p := ⟨b, off + j * 4, none⟩) hlB).trans h0, (hb.cell (p := ⟨b, off + j * 4 + 1, none⟩) hlB).trans h1, (hb.cell (p := ⟨b, off + j * 4 + 2, none⟩) hlB).trans h2, (hb.cell (p := ⟨b, off + j * 4 + 3, none⟩) hlB).trans h3, h4⟩

theorem ownBlock_row {w : World} {B e size n : Nat} {v : Value} {xs : List Value} (h : w.ownsRow B e size v n xs) {b t m : Nat} {f : Nat → Value} (h' : w.rowIs b t m f) (hne : e ≠ t) : v.ownBlock ≠ some b := by
  rcases h.2 with ⟨hv, _⟩ | ⟨g, cap, cur, hv, _, hg, _⟩
  · subst hv; simp [Value.ownBlock]
  · subst hv
    intro he
    simp [Value.ownBlock] at he
    subst he
    obtain ⟨c', hc', _⟩ := h'
    rw [hg] at hc'
    injection hc' with hc'
    injection hc' with _ ht
    exact hne ht
theorem ownBlock_own {w : World} {B e size n B' e' size' n' : Nat} {v v' : Value} {xs xs' : List Value} (h : w.ownsRow B e size v n xs) (h' : w.ownsRow B' e' size' v' n' xs') (hne : e ≠ e') (k : Nat) (hk : v.ownBlock = some k) : v'.ownBlock ≠ some k := by
  rcases h.2 with ⟨hv, _⟩ | ⟨g, cap, cur, hv, _, hg, _⟩
  · subst hv; simp [Value.ownBlock] at hk
  · subst hv
    simp [Value.ownBlock] at hk
    subst hk
    rcases h'.2 with ⟨hv, _⟩ | ⟨g', cap', cur', hv, _, hg', _⟩
    · subst hv; simp [Value.ownBlock]
    · subst hv
      intro he
      simp [Value.ownBlock] at he
      subst he
      rw [hg] at hg'
      injection hg' with hg'
      injection hg' with _ ht
      exact hne ht
theorem TAt.apart {B : Nat} {w : World} {T : TL} {S : SS} {v : Nat → Int} (h : TAt B w T S v) {B' n : Nat} {x : Value} {xs : List Value} (ho : w.ownsRow B' 58 1 x n xs) (k : Nat) (hk : x.ownBlock = some k) : ¬ T.foot k := by
  rintro (e | e | e | e | e | e)
  · subst e; exact ownBlock_row ho h.hd (by decide) hk
  · subst e; exact ownBlock_row ho h.vs (by decide) hk
  · subst e; exact ownBlock_row ho h.s.hd (by decide) hk
  · subst e; exact ownBlock_row ho h.s.us (by decide) hk
  · subst e; exact ownBlock_row ho h.s.gs (by decide) hk
  · exact ownBlock_own ho h.s.rs (by decide) k hk (by rw [Loc.rv, ownBlock_slice]; exact e)

/-- A table of n entries at t that has issued the handles zs in k calls; these lie in the slice x. -/
structure Pl (B : Nat) (w : World) (t n : Nat) (x : Value) (T : TL) (S : SS) (v : Nat → Int) (zs : List Nat) (k : Nat) : Prop where
  tab : TAt B w T S v
  wf : S.wf
  n_ : S.n = n
  t_ : T.t = t
  own : w.ownsRow B 58 1 x zs.length ((natsI zs).map (Value.int .u64))
  iss : Iss S zs k
section
variable {B : Nat} {w w' : World} {t n : Nat} {x : Value} {T : TL} {S : SS} {v : Nat → Int} {zs : List Nat} {k : Nat}
theorem Pl.below (h : Pl B w t n x T S v zs k) (hb : Below w.heap.size w w') : Pl B w' t n x T S v zs k :=
  ⟨h.tab.below hb, h.wf, h.n_, h.t_, own_of_block h.own (fun k hk => hb.block k (h.own.lt k hk).2), h.iss⟩
theorem Pl.more (h : Pl B w t n x T S v zs k) : Pl B w t n x T S v zs (k + 1) := ⟨h.tab, h.wf, h.n_, h.t_, h.own, h.iss.more⟩
theorem Pl.upto (h : Pl B w t n x T S v zs k) {k' : Nat} (hk : k ≤ k') : Pl B w t n x T S v zs k' :=
  ⟨h.tab, h.wf, h.n_, h.t_, h.own, ⟨h.iss.nd, h.iss.le, fun i => by have := h.iss.gk i; omega, by have := h.iss.len; omega⟩⟩
/-- A call of the table. -/
theorem Pl.step {T' : TL} {S' : SS} {v' : Nat → Int} {k' : Nat} (h : Pl B w t n x T S v zs k) (hT : TAt B w' T' S' v') (hc : Chg T.foot w w') (hw : S'.wf) (hn : S'.n = n) (ht : T'.t = t) (hi : Iss S' zs k') : Pl B w' t n x T' S' v' zs k' :=
  ⟨hT, hw, hn, ht, own_of_block h.own (fun k hk => hc.block k (h.own.lt k hk).2 (h.tab.apart h.own k hk)), hi⟩
theorem Pl.nums (h : Pl B w t n x T S v zs k) : ∃ A c, x = .slice A zs.length c ∧ Nums .u64 Nil w A zs.length (natsI zs) := own_nums h.own (fun _ h => h.elim)
theorem Pl.size_le (h : Pl B w t n x T S v zs k) : B ≤ w.heap.size := h.tab.size_le
end

section
variable {B : Nat} {w : World} {t n : Nat} {x : Value} {T : TL} {S : SS} {v : Nat → Int} {zs : List Nat} {k : Nat}
theorem pl_replace (h0 : Nat) (y : Int) (h : Pl B w t n x T S v zs k) (hh : h0 ≤ 18446744073709551615) :
    Calls Try.prog 37 #[.pointer (some ⟨t, 0, none⟩), .int .u64 (h0 : Int), .int .u32 y] w fun e w' => ∃ r v', e = .returned (.int .i64 r) ∧ Pl B w' t n x T S v' zs (k + 1) ∧ Below B w w' := by
  rw [← h.t_]
  cases ho : S.op h0 with
  | false => exact (replace_no h0 y h.tab h.wf hh ho).mono fun e w' ⟨he, hw'⟩ => ⟨_, v, he, hw' ▸ (h.t_.symm ▸ h.more), hw' ▸ Below.refl _ _⟩
  | true =>
    refine (replace_yes h0 y h.tab h.wf hh ho).mono fun e w' ⟨he, hw'⟩ => ?_
    have hc : Chg T.foot w w' := by rw [hw']; exact (Chg.refl _ w).setCell (.inl (.inr (.inl rfl))) _
    exact ⟨_, upd v (ent h0) y, he, h.t_.symm ▸ h.step (by rw [hw']; exact h.tab.updv _ _) hc h.wf h.n_ h.t_ h.iss.more, h.tab.chg_below hc⟩
theorem pl_close (h0 : Nat) (h : Pl B w t n x T S v zs k) (hh : h0 ≤ 18446744073709551615) :
    Calls Try.prog 38 #[.pointer (some ⟨t, 0, none⟩), .int .u64 (h0 : Int)] w fun e w' => ∃ a r T' S', e = .returned (.tuple #[.int .u32 a, .int .i64 r]) ∧ Pl B w' t n x T' S' v zs (k + 1) ∧ Below B w w' := by
  rw [← h.t_]
  cases ho : S.op h0 with
  | false => exact (close_no h0 h.tab h.wf hh ho).mono fun e w' ⟨he, hw'⟩ => ⟨_, _, T, S, he, hw' ▸ (h.t_.symm ▸ h.more), hw' ▸ Below.refl _ _⟩
  | true => exact (close_yes h0 h.tab h.wf hh ho).mono fun e w' ⟨T', he, ht, hT, hc, hf⟩ =>
      ⟨_, _, T', S.release (ent h0), he, h.t_.symm ▸ h.step hT hc (h.wf.release (SS.op_on ho).1) h.n_ (ht.trans h.t_) (h.iss.release _).more, h.tab.chg_below hc⟩
theorem pl_open_full (y : Int) (h : Pl B w t n x T S v zs k) (hf : S.free = 0) :
    Calls Try.prog 35 #[.pointer (some ⟨t, 0, none⟩), .int .u32 y] w fun e w' => e = .returned (.tuple #[.int .u64 0, .int .i64 2]) ∧ Pl B w' t n x T S v zs (k + 1) ∧ Below B w w' := by
  rw [← h.t_]
  refine (open_full y h.tab h.wf hf).mono fun e w' ⟨he, hq⟩ => ?_
  have hb : Below w.heap.size w w' := (hq.chg Nil).below (Nat.le_refl _) (fun _ h => h.elim)
  exact ⟨he, h.t_.symm ▸ (h.below hb).more, hb.mono h.size_le⟩
theorem pl_open (y : Int) (h : Pl B w t n x T S v zs k) (hf : 0 < S.free) :
    Calls Try.prog 35 #[.pointer (some ⟨t, 0, none⟩), .int .u32 y] w fun e w' => e = .returned (.tuple #[.int .u64 ((S.alloc.hdl S.next : Nat) : Int), .int .i64 0]) ∧ TAt B w' T S.alloc (upd v S.next y) ∧ Chg T.foot w w' ∧ Below B w w' := by
  rw [← h.t_]
  exact (open_any y h.tab h.wf hf).mono fun e w' ⟨he, hT, hc⟩ => ⟨he, hT, hc, h.tab.chg_below hc⟩
theorem Pl.own1 {w1 : World} (h : Pl B w t n x T S v zs k) (hc : Chg T.foot w w1) : w1.ownsRow B 58 1 x zs.length ((natsI zs).map (Value.int .u64)) := own_of_block h.own (fun k hk => hc.block k (h.own.lt k hk).2 (h.tab.apart h.own k hk))
/-- The new handle is appended to the list. -/
theorem Pl.append {w1 w2 : World} {x' : Value} {v' : Nat → Int} (h : Pl B w t n x T S v zs k) (hf : 0 < S.free) (hk : k < 4294967295) (hc : Chg T.foot w w1) (hT : TAt B w1 T S.alloc v')
    (ho : w2.ownsRow B 58 1 x' (zs.length + 1) ((natsI zs).map (Value.int .u64) ++ [.int .u64 ((S.alloc.hdl S.next : Nat) : Int)])) (hg : Chg (fun k => x.ownBlock = some k) w1 w2) : Pl B w2 t n x' T S.alloc v' (zs ++ [S.alloc.hdl S.next]) (k + 1) :=
  ⟨hT.keep hg (fun k hk => hT.apart (h.own1 hc) k hk), h.wf.alloc hf, by rw [S.alloc_n]; exact h.n_, h.t_, by
    have e : (natsI (zs ++ [S.alloc.hdl S.next])).map (Value.int .u64) = (natsI zs).map (Value.int .u64) ++ [.int .u64 ((S.alloc.hdl S.next : Nat) : Int)] := by simp [natsI]
    rw [e, List.length_append]
    exact ho, h.iss.alloc h.wf hf hk⟩
theorem Pl.own_low {w1 w2 : World} {row : Value} (h : w1.ownsRow B 58 1 row zs.length ((natsI zs).map (Value.int .u64))) (o : Obj) (hg : (w1.alloc o).grownBy w2 row.ownBlock) (hB : B ≤ w1.heap.size) : Below B w1 w2 :=
  ((Below.refl B w1).alloc hB _).grown hg (by simp; omega) (fun k hk => (h.lt k hk).1)
end

set_option maxRecDepth 100000 in
set_option maxHeartbeats 4000000 in
theorem hplay_any (n : Nat) (A : Option Addr) (m c : Nat) (f : Nat → C4) (w : World) (h1 : 1 ≤ n) (h2 : n ≤ 4096) (hC : CArg4 w A m c f) :
    Calls Try.prog 36 #[.int .i64 (n : Int), .slice A m c] w fun e w' => ∃ t x T S v zs, e = .returned (.tuple #[.pointer (some ⟨t, 0, none⟩), x]) ∧ Pl w.heap.size w' t n x T S v zs 150 ∧ Below w.heap.size w w' := by
  obtain ⟨i0, hi0, hz0, hz1, hz2⟩ := info_parts info58
  have hm := hC.2.1
  have HC := hid hC
  clear hC
  go_enter Try.func36, Try.ntmps36
  go_wp2_with fail
  refine (tnew_any n _ _ (Nat.le_refl _) h1 h2).mono ?_
  rintro e w1 ⟨T0, rfl, hT, hb, _⟩
  obtain ⟨t, ht⟩ : ∃ t, t = T0.t := ⟨_, rfl⟩
  rw [← ht]
  have HP : Hid (Pl w.heap.size w1 t n (.slice none 0 0) T0 (SS.new n) (fun _ => 0) [] 0) := hid ⟨hT, SS.new_wf n h1 (by omega), rfl, ht.symm, World.ownsRow_nil _ _ _ _, Iss.new n⟩
  clear hT ht
  go_wp2
  go_loopw [8, 9] (fun x i wr => ∃ (k : Nat) (T : TL) (S : SS) (v : Nat → Int) (zs : List Nat), k ≤ m ∧ k ≤ 150 ∧ i = .int .i64 k ∧ Hid (Pl w.heap.size wr t n x T S v zs k) ∧ Below w.heap.size w wr) (fun _ i _ => m - (intOf i).toNat)
  case atStart => exact ⟨0, T0, _, _, _, Nat.zero_le _, by omega, rfl, HP, hb⟩
  case round =>
    clear HP hb
    obtain ⟨k, T, S, v, zs, hk, hk2, rfl, HP, hb⟩ := hrel
    by_cases hlt : k < m ∧ k < 150
    · obtain ⟨hlt, hlt2⟩ := hlt
      obtain ⟨b, off, hA, hbl, ca, cb, cc, cd, hkd, hh, hv⟩ := HC.out.get hb (Nat.le_refl _) k hlt
      subst hA
      obtain ⟨⟨kd, h, vl, r⟩, hfk⟩ : ∃ x, f k = x := ⟨_, rfl⟩
      rw [hfk] at ca cb cc cd hkd hh hv
      simp only at ca cb cc cd hkd hh hv
      clear hfk
      have hq0 := Int.emod_nonneg kd (show (5 : Int) ≠ 0 by omega)
      have hq1 := Int.emod_lt_of_pos kd (show (0 : Int) < 5 by omega)
      obtain ⟨q, hq⟩ : ∃ q, q = kd % 5 := ⟨_, rfl⟩
      rw [← hq] at hq0 hq1
      have HQ := hid hq
      obtain ⟨Ax, cx, hx, hN⟩ := HP.out.nums
      subst hx
      have HN := hid hN
      have HB := hid hb
      have HLEN := hid HP.out.iss.len
      clear hq hN hb
      go_wp2_with fail
      refine (mod_any kd 5 _ (by omega) (by omega)).mono ?_
      rintro e w2 ⟨rfl, rfl⟩
      rw [← HQ.out]
      have hpk := HP.out.iss.pk_le r h hh
      have PK : Hid (∀ W, Below wr.heap.size wr W → Calls Try.prog 42 #[.agg #[.int .i64 kd, .int .u64 (h : Int), .int .u32 (vl : Int), .bool r], .slice Ax zs.length cx] W fun e w' => e = .returned (.int .u64 ((pk r h zs : Nat) : Int)) ∧ Below wr.heap.size wr w') := hid fun W hW =>
        (pick_any kd h vl r Ax zs.length cx zs W (HN.out.below hW) (by have := HLEN.out; omega) hh).mono fun e w' ⟨he, hb⟩ => ⟨he, hW.trans (hb.mono hW.size)⟩
      obtain ⟨y, hy⟩ : ∃ y, y = pk r h zs := ⟨_, rfl⟩
      rw [← hy] at hpk PK
      clear hy
      rcases (by omega : q = 2 ∨ q = 3 ∨ q = 4 ∨ q = 0 ∨ q = 1) with rfl | rfl | rfl | h01
      · clear ca cb cc cd
        go_wp2
        go_roundw
        case rel => exact ⟨k + 1, T, S, v, zs, by omega, by omega, by go_num, hid HP.out.more, HB.out⟩
        case measure => simp [intOf]; omega
      · have RP : Hid (∀ W, Below wr.heap.size wr W → Calls Try.prog 37 #[.pointer (some ⟨t, 0, none⟩), .int .u64 (y : Int), .int .u32 (vl : Int)] W fun e w' => ∃ r v', e = .returned (.int .i64 r) ∧ Pl w.heap.size w' t n (.slice Ax zs.length cx) T S v' zs (k + 1) ∧ Below w.heap.size w w') := hid fun W hW =>
          (pl_replace y (vl : Int) (HP.out.below hW) hpk).mono fun e w' ⟨r, v', he, hp, hb⟩ => ⟨r, v', he, hp, (HB.out.trans (hW.mono HB.out.size)).trans hb⟩
        clear HP HN hpk
        have hbw : b < wr.heap.size := Nat.lt_of_lt_of_le hbl HB.out.size
        have H0 : Hid (w.cell? ⟨b, off + k * 4, none⟩ = some (.int .i64 kd) ∧ w.cell? ⟨b, off + k * 4 + 1, none⟩ = some (.int .u64 (h : Int)) ∧ w.cell? ⟨b, off + k * 4 + 2, none⟩ = some (.int .u32 (vl : Int)) ∧ w.cell? ⟨b, off + k * 4 + 3, none⟩ = some (.bool r)) :=
          hid ⟨(HB.out.cell (p := ⟨b, off + k * 4, none⟩) hbl).symm.trans ca, (HB.out.cell (p := ⟨b, off + k * 4 + 1, none⟩) hbl).symm.trans cb, (HB.out.cell (p := ⟨b, off + k * 4 + 2, none⟩) hbl).symm.trans cc, (HB.out.cell (p := ⟨b, off + k * 4 + 3, none⟩) hbl).symm.trans cd⟩
        go_wp2_with fail
        go_region_held3 (fun W => W.cell? ⟨b, off + k * 4, none⟩ = some (.int .i64 kd) ∧ W.cell? ⟨b, off + k * 4 + 1, none⟩ = some (.int .u64 (h : Int)) ∧ W.cell? ⟨b, off + k * 4 + 2, none⟩ = some (.int .u32 (vl : Int)) ∧ W.cell? ⟨b, off + k * 4 + 3, none⟩ = some (.bool r)) (first | go_keep | exact ⟨(HB5.out.cell (p := ⟨b, off + k * 4, none⟩) hbw).trans ca, (HB5.out.cell (p := ⟨b, off + k * 4 + 1, none⟩) hbw).trans cb, (HB5.out.cell (p := ⟨b, off + k * 4 + 2, none⟩) hbw).trans cc, (HB5.out.cell (p := ⟨b, off + k * 4 + 3, none⟩) hbw).trans cd⟩ | exact ⟨(hb6.cell (p := ⟨b, off + k * 4, none⟩) hbl).trans H0.out.1, (hb6.cell (p := ⟨b, off + k * 4 + 1, none⟩) hbl).trans H0.out.2.1, (hb6.cell (p := ⟨b, off + k * 4 + 2, none⟩) hbl).trans H0.out.2.2.1, (hb6.cell (p := ⟨b, off + k * 4 + 3, none⟩) hbl).trans H0.out.2.2.2⟩)
          ((first
            | (go_at_call 42; refine (PK.out _ (Below.refl _ _).drew).mono ?_; rintro e w5 ⟨rfl, hb5⟩; have HB5 := hid hb5; clear hb5)
            | (go_at_call 37; refine (RP.out _ (HB5.out)).mono ?_; rintro e w6 ⟨r6, v6, rfl, hp6, hb6⟩)))
        all_goals
          have HP6 := hid hp6
          have HB6 := hid hb6
          clear hp6 hb6
          go_wp2
          go_roundw
          case rel => exact ⟨k + 1, T, S, v6, zs, by omega, by omega, by go_num, HP6, HB6.out⟩
          case measure => simp [intOf]; omega
      · go_wp2_with fail
        refine (PK.out _ (Below.refl _ _)).mono ?_
        rintro e w5 ⟨rfl, hb5⟩
        have HP5 := hid (HP.out.below hb5)
        have HB5 := hid (HB.out.trans (hb5.mono HB.out.size))
        clear hb5 ca cb cc cd HP HN
        go_wp2_with fail
        refine (pl_close y HP5.out hpk).mono ?_
        rintro e w6 ⟨a6, r6, T6, S6, rfl, hp6, hb6⟩
        have HP6 := hid hp6
        have HB6 := hid (HB5.out.trans hb6)
        clear hp6 hb6
        go_wp2
        go_roundw
        case rel => exact ⟨k + 1, T6, S6, v, zs, by omega, by omega, by go_num, HP6, HB6.out⟩
        case measure => simp [intOf]; omega
      · clear PK hpk
        rcases Nat.eq_zero_or_pos S.free with hf0 | hf0
        · have HF := hid hf0
          clear hf0
          rcases h01 with rfl | rfl
          all_goals
            go_wp2_with fail
            refine (pl_open_full (vl : Int) HP.out HF.out).mono ?_
            rintro e w6 ⟨rfl, hp6, hb6⟩
            have HP6 := hid hp6
            have HB6 := hid (HB.out.trans hb6)
            clear hp6 hb6
            go_wp2
            go_roundw
            case rel => exact ⟨k + 1, T, S, v, zs, by omega, by omega, by go_num, HP6, HB6.out⟩
            case measure => simp [intOf]; omega
        · have HF := hid hf0
          clear hf0
          rcases h01 with rfl | rfl
          all_goals
            go_wp2_with fail
            refine (pl_open (vl : Int) HP.out HF.out).mono ?_
            rintro e w6 ⟨rfl, hT6, hc6, hb6⟩
            have HT6 := hid hT6
            have HC6 := hid hc6
            have HB6 := hid (HB.out.trans hb6)
            have HOWN := hid (HP.out.own1 hc6)
            obtain ⟨z, hz⟩ : ∃ z, z = S.alloc.hdl S.next := ⟨_, rfl⟩
            rw [← hz]
            have HZ := hid hz
            obtain ⟨l, hl⟩ : ∃ l, l = zs.length := ⟨_, rfl⟩
            have HL := hid hl
            have hl2 : l ≤ 150 := by have := HLEN.out; omega
            have HX : Hid (w6.ownsRow w.heap.size 58 1 (.slice Ax l cx) l ((natsI zs).map (Value.int .u64))) := hid (by rw [hl]; exact HOWN.out)
            rw [← hl]
            have HS6 := hid (show w.heap.size ≤ w6.heap.size from Nat.le_trans HP.out.size_le HC6.out.size)
            clear hT6 hc6 hb6 hz ca cb cc cd hl
            go_wp2_with (at_builtin; refine wpList_append_own_at _ rfl (.tmp 51) (.tmp 53) 62 rfl w.heap.size 58 i0 (.int .u64 0) 1 8 Try.underlying62 hi0 hz0 hz1 hz2 rfl (by decide) (.slice Ax l cx) l _ rfl (HX.out.alloc _) ⟨w6.heap.size, 0, none⟩ 1 1 [.int .u64 (z : Int)] rfl (by simp) (cell_one_new _ _ _) (by intro u hu; simp at hu; subst hu; rfl) (by unfold maxLen; omega) (by omega) (by have := HS6.out; simp; omega) ?_)
            intro x' w7 hown7 hg7 _ hat7
            have hb7 : Below w.heap.size w6 w7 := ((Below.refl w.heap.size w6).alloc HS6.out _).grown hg7 (by have := HS6.out; simp; omega) (fun k hk => (HX.out.lt k hk).1)
            have hc7 : Chg (fun k => (Value.slice Ax zs.length cx).ownBlock = some k) w6 w7 := ((Chg.refl _ w6).alloc _).grown hg7 (fun k hk => .inl (by rw [ownBlock_slice] at hk ⊢; exact hk))
            have HP7 := hid (HP.out.append HF.out (by omega) HC6.out HT6.out (by rw [← HZ.out, ← HL.out]; exact hown7) hc7)
            have HB7 := hid (HB6.out.trans hb7)
            clear hown7 hg7 hat7 hb7 hc7
            go_wp2
            go_roundw
            case rel => exact ⟨k + 1, T, S.alloc, _, _, by omega, by omega, by go_num, HP7, HB7.out⟩
            case measure => simp [intOf]; omega
    · have hp150 := hid HP
      by_cases hkm : k < m
      · have h150 : 150 ≤ k := by omega
        have hke : k = 150 := by omega
        have HK := hid hke
        clear hlt hke
        go_wp2
        go_ret2
        exact ⟨t, _, T, S, v, zs, rfl, HK.out ▸ HP.out, hb⟩
      · clear hlt
        go_wp2
        go_ret2
        exact ⟨t, _, T, S, v, zs, rfl, HP.out.upto (by omega), hb⟩
end Go.Proofs.Ytbmamikhjfieoaa
