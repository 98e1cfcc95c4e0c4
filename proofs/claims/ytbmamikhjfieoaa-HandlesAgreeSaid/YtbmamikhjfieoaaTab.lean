/-
  THE CONTRACTS OF handles.Table: Pack, Unpack, handle, entry, Lookup, Replace, Open, Close, Len. Each: at every state of a table ('TAt').
-/
import Derived.Test.YtbmamikhjfieoaaClone
import Derived.Deep.RegionHeld3
import Derived.Laws.BitsAllLaws
import Derived.Laws.BitsLemmas
namespace Go.Proofs.Ytbmamikhjfieoaa
open Go.RowKit

theorem pk_form (i g : Int) (h1 : 0 ≤ i) (h2 : i ≤ 4294967295) (h3 : 0 ≤ g) (h4 : g ≤ 4294967295) : bits .or .u64 (g * 4294967296) i = g * 4294967296 + i := by
  rw [u64_or _ _ (by omega) (by omega) (by omega) (by omega), nat_join 32 _ _ (by omega) (by omega)]
  omega

set_option maxHeartbeats 400000 in
theorem pack_any (i g : Int) (w : World) (h1 : 0 ≤ i) (h2 : i ≤ 4294967295) (h3 : 0 ≤ g) (h4 : g ≤ 4294967295) :
    Calls Try.prog 53 #[.int .u32 i, .int .u32 g] w fun e w' => e = .returned (.int .u64 (g * 4294967296 + i)) ∧ w = w' := by
  have H := hid (pk_form i g h1 h2 h3 h4)
  go_enter Try.func53, Try.ntmps53
  go_wp2
  go_ret
  exact ⟨ret_int H.out, rfl⟩

set_option maxHeartbeats 400000 in
theorem unpack_any (h : Nat) (w : World) (h2 : h ≤ 18446744073709551615) :
    Calls Try.prog 54 #[.int .u64 (h : Int)] w fun e w' => e = .returned (.tuple #[.int .u32 ((h % 4294967296 : Nat) : Int), .int .u32 ((h / 4294967296 : Nat) : Int)]) ∧ w = w' := by
  have E1 := hid (show ((h % 4294967296 : Nat) : Int) = (h : Int) % 4294967296 by omega)
  have E2 := hid (show ((h / 4294967296 : Nat) : Int) = (h : Int) / 4294967296 by omega)
  rw [E1.out, E2.out]
  go_enter Try.func54, Try.ntmps54
  go_wp2
  go_ret2
  exact ⟨rfl, rfl⟩

/-- Handle i at state S. -/
def SS.hdl (S : SS) (i : Nat) : Nat := (S.gen i).toNat * 4294967296 + i
/-- The entry of a number. -/
def ent (h : Nat) : Nat := h % 4294967296
/-- Is the number an open handle? -/
def SS.op (S : SS) (h : Nat) : Bool := S.on (ent h) && decide (S.hdl (ent h) = h)
theorem ent_le (h : Nat) : ent h ≤ 4294967295 := by unfold ent; omega

structure TL where
  t : Nat
  gv : Nat
  L : Loc
def TL.foot (T : TL) (k : Nat) : Prop := k = T.t ∨ k = T.gv ∨ T.L.foot k
def fldT (T : TL) (S : SS) : Nat → Value
  | 0 => .pointer (some ⟨T.L.g, 0, none⟩)
  | _ => .slice (some ⟨T.gv, 0, none⟩) (S.n + 1) (S.n + 1)
/-- The table in memory: the allocator, the struct, the values. -/
structure TAt (B : Nat) (w : World) (T : TL) (S : SS) (v : Nat → Int) : Prop where
  s : SAt B w T.L S
  hd : w.rowIs T.t 87 2 (fldT T S)
  vs : w.rowIs T.gv 30 (S.n + 1) (fun i => .int .u32 (v i))
  nt : ¬ T.L.foot T.t
  nv : ¬ T.L.foot T.gv
  bt : B ≤ T.t
  bv : B ≤ T.gv
def upd (v : Nat → Int) (i : Nat) (x : Int) : Nat → Int := fun j => if j = i then x else v j

section
variable {B : Nat} {w w' : World} {T : TL} {S : SS} {v : Nat → Int}
theorem TAt.foot_lt (h : TAt B w T S v) {k : Nat} (hk : T.foot k) : k < w.heap.size := by
  rcases hk with rfl | rfl | hk
  · exact h.hd.lt
  · exact h.vs.lt
  · exact h.s.foot_lt hk
theorem TAt.foot_ge (h : TAt B w T S v) {k : Nat} (hk : T.foot k) : B ≤ k := by
  rcases hk with rfl | rfl | hk
  · exact h.bt
  · exact h.bv
  · exact h.s.foot_ge hk
theorem TAt.keep {F : Nat → Prop} (h : TAt B w T S v) (hc : Chg F w w') (hF : ∀ k, F k → ¬ T.foot k) : TAt B w' T S v :=
  ⟨h.s.keep hc (fun k hk hf => hF k hk (.inr (.inr hf))), h.hd.of_block (hc.block _ h.hd.lt (fun hf => hF _ hf (.inl rfl))), h.vs.of_block (hc.block _ h.vs.lt (fun hf => hF _ hf (.inr (.inl rfl)))), h.nt, h.nv, h.bt, h.bv⟩
theorem TAt.below (h : TAt B w T S v) (hb : Below w.heap.size w w') : TAt B w' T S v := h.keep (Chg.of_below (F := Nil) hb) (fun _ h => h.elim)
theorem TAt.qt (h : TAt B w T S v) (hq : Qt w w') : TAt B w' T S v := h.keep (hq.chg Nil) (fun _ h => h.elim)
theorem TAt.c0 (h : TAt B w T S v) : w.cell? ⟨T.t, 0, none⟩ = some (.pointer (some ⟨T.L.g, 0, none⟩)) := h.hd.cell (i := 0) (by omega)
theorem TAt.c1 (h : TAt B w T S v) : w.cell? ⟨T.t, 1, none⟩ = some (.slice (some ⟨T.gv, 0, none⟩) (S.n + 1) (S.n + 1)) := h.hd.cell (i := 1) (by omega)
theorem TAt.cv (h : TAt B w T S v) {i : Nat} (hi : i ≤ S.n) : w.cell? ⟨T.gv, i, none⟩ = some (.int .u32 (v i)) := h.vs.cell (i := i) (by omega)
theorem TAt.size_le (h : TAt B w T S v) : B ≤ w.heap.size := h.s.size_le
theorem TAt.chg_below {a : World} (h : TAt B w T S v) (hc : Chg T.foot w a) : Below B w a := hc.below h.size_le (fun _ hk => h.foot_ge hk)

set_option maxRecDepth 100000 in
set_option maxHeartbeats 1000000 in
theorem handle_any (i : Nat) (h : TAt B w T S v) (hw : S.wf) (hi : i ≤ 4294967295) :
    Calls Try.prog 49 #[.pointer (some ⟨T.t, 0, none⟩), .int .u32 (i : Int)] w fun e w' => e = .returned (.int .u64 ((S.hdl i : Nat) : Int)) ∧ w = w' := by
  have c0 := h.c0
  have hg := hw.g0 i
  have HH := hid h
  have HW := hid hw
  have HD := hid (show ((S.hdl i : Nat) : Int) = S.gen i * 4294967296 + (i : Int) by unfold SS.hdl; omega)
  rw [HD.out]
  obtain ⟨x, hx⟩ : ∃ x, x = S.gen i := ⟨_, rfl⟩
  rw [← hx] at hg ⊢
  have HX := hid hx
  clear h hw hx
  go_enter Try.func49, Try.ntmps49
  go_wp2_with fail
  refine (gen_any i HH.out.s HW.out hi).mono ?_
  rintro e w' ⟨rfl, rfl⟩
  rw [← HX.out]
  go_wp2_with fail
  refine (pack_any i x _ (by omega) (by omega) hg.1 hg.2).mono ?_
  rintro e w' ⟨rfl, rfl⟩
  go_wp2
  go_ret
  exact ⟨rfl, rfl⟩

set_option maxRecDepth 100000 in
set_option maxHeartbeats 1000000 in
theorem entry_any (h0 : Nat) (h : TAt B w T S v) (hw : S.wf) (hh : h0 ≤ 18446744073709551615) :
    Calls Try.prog 50 #[.pointer (some ⟨T.t, 0, none⟩), .int .u64 (h0 : Int)] w fun e w' => e = .returned (.tuple #[.int .u32 ((ent h0 : Nat) : Int), .bool (S.op h0)]) ∧ w = w' := by
  have c0 := h.c0
  have HH := hid h
  have HW := hid hw
  have hi := ent_le h0
  have HOP := hid (show S.op h0 = (S.on (ent h0) && decide (S.hdl (ent h0) = h0)) from rfl)
  have HE := hid (show ent h0 = h0 % 4294967296 from rfl)
  rw [HOP.out]
  obtain ⟨i, hi'⟩ : ∃ i, i = ent h0 := ⟨_, rfl⟩
  rw [← hi'] at hi HE ⊢
  clear h hw hi' HOP
  cases ho : S.on i with
  | false =>
    have HO := hid ho
    clear ho
    rw [Bool.false_and]
    go_enter Try.func50, Try.ntmps50
    go_wp2_with fail
    refine (unpack_any h0 _ hh).mono ?_
    rintro e w' ⟨rfl, rfl⟩
    rw [← HE.out]
    go_wp2_with fail
    refine (allocd_any i HH.out.s HW.out hi).mono ?_
    rintro e w' ⟨rfl, rfl⟩
    rw [HO.out]
    go_wp2
    go_ret2
    exact ⟨rfl, rfl⟩
  | true =>
    have HO := hid ho
    clear ho
    rw [Bool.true_and]
    have HY := hid (show (((S.hdl i : Nat) : Int) == (h0 : Int)) = decide (S.hdl i = h0) by
      by_cases e : S.hdl i = h0
      · simp [e]
      · have e2 : ¬ ((S.hdl i : Nat) : Int) = (h0 : Int) := by omega
        simp [e, e2])
    go_enter Try.func50, Try.ntmps50
    go_wp2_with fail
    refine (unpack_any h0 _ hh).mono ?_
    rintro e w' ⟨rfl, rfl⟩
    rw [← HE.out]
    go_wp2_with fail
    refine (allocd_any i HH.out.s HW.out hi).mono ?_
    rintro e w' ⟨rfl, rfl⟩
    rw [HO.out]
    go_wp2_with fail
    refine (handle_any i HH.out HW.out hi).mono ?_
    rintro e w' ⟨rfl, rfl⟩
    obtain ⟨y, hy⟩ : ∃ y, y = S.hdl i := ⟨_, rfl⟩
    rw [← hy]
    have HY2 : Hid (((y : Int) == (h0 : Int)) = decide (S.hdl i = h0)) := hid (by rw [hy]; exact HY.out)
    clear hy HY
    go_wp2
    go_ret2
    exact ⟨congrArg (fun b => Ending.returned (.tuple #[.int .u32 (i : Int), .bool b])) HY2.out, rfl⟩

theorem SS.op_on {S : SS} {h : Nat} (h1 : S.op h = true) : S.on (ent h) = true ∧ S.hdl (ent h) = h := by
  unfold SS.op at h1
  simpa using h1

set_option maxRecDepth 100000 in
set_option maxHeartbeats 1000000 in
theorem lookup_no (h0 : Nat) (h : TAt B w T S v) (hw : S.wf) (hh : h0 ≤ 18446744073709551615) (ho : S.op h0 = false) :
    Calls Try.prog 39 #[.pointer (some ⟨T.t, 0, none⟩), .int .u64 (h0 : Int)] w fun e w' => e = .returned (.tuple #[.int .u32 0, .int .i64 5]) ∧ w = w' := by
  have HH := hid h
  have HW := hid hw
  have HO := hid ho
  clear h hw ho
  go_enter Try.func39, Try.ntmps39
  go_wp2_with fail
  refine (entry_any h0 HH.out HW.out hh).mono ?_
  rintro e w' ⟨rfl, rfl⟩
  rw [HO.out]
  go_wp2
  go_ret2
  exact ⟨rfl, rfl⟩

set_option maxRecDepth 100000 in
set_option maxHeartbeats 1000000 in
theorem lookup_yes (h0 : Nat) (h : TAt B w T S v) (hw : S.wf) (hh : h0 ≤ 18446744073709551615) (ho : S.op h0 = true) :
    Calls Try.prog 39 #[.pointer (some ⟨T.t, 0, none⟩), .int .u64 (h0 : Int)] w fun e w' => e = .returned (.tuple #[.int .u32 (v (ent h0)), .int .i64 0]) ∧ w = w' := by
  have hon := hw.on _ (SS.op_on ho).1
  have hfr := hw.fr
  have hn2 := hw.n2
  have c1 := h.c1
  have cv := h.cv (i := ent h0) (by omega)
  have hi := ent_le h0
  have HH := hid h
  have HW := hid hw
  have HO := hid ho
  obtain ⟨x, hx⟩ : ∃ x, x = v (ent h0) := ⟨_, rfl⟩
  rw [← hx] at cv ⊢
  have HE := hid (entry_any h0 h hw hh)
  obtain ⟨i, hi'⟩ : ∃ i, i = ent h0 := ⟨_, rfl⟩
  rw [← hi'] at hi hon cv HE
  clear h hw ho hx hi'
  go_enter Try.func39, Try.ntmps39
  go_wp2_with fail
  refine HE.out.mono ?_
  rintro e w' ⟨rfl, rfl⟩
  rw [HO.out]
  go_wp2
  go_ret2
  exact ⟨rfl, rfl⟩

theorem TAt.updv (h : TAt B w T S v) (i : Nat) (x : Int) : TAt B (w.setCell ⟨T.gv, i, none⟩ (.int .u32 x)) T S (upd v i x) := by
  have n1 : T.t ≠ T.gv := rowIs_ne h.hd h.vs (by decide)
  have hc : Chg (fun k => k = T.gv) w (w.setCell ⟨T.gv, i, none⟩ (.int .u32 x)) := (Chg.refl (fun k => k = T.gv) w).setCell (p := ⟨T.gv, i, none⟩) (.inl rfl) _
  refine ⟨h.s.keep hc (fun k hk hf => h.nv (hk ▸ hf)), h.hd.setOther (a := ⟨T.gv, i, none⟩) n1 _, (h.vs.set i _).congr fun j hj => ?_, h.nt, h.nv, h.bt, h.bv⟩
  unfold upd
  split <;> rfl

set_option maxRecDepth 100000 in
set_option maxHeartbeats 1000000 in
theorem replace_no (h0 : Nat) (x : Int) (h : TAt B w T S v) (hw : S.wf) (hh : h0 ≤ 18446744073709551615) (ho : S.op h0 = false) :
    Calls Try.prog 37 #[.pointer (some ⟨T.t, 0, none⟩), .int .u64 (h0 : Int), .int .u32 x] w fun e w' => e = .returned (.int .i64 5) ∧ w = w' := by
  have HH := hid h
  have HW := hid hw
  have HO := hid ho
  clear h hw ho
  go_enter Try.func37, Try.ntmps37
  go_wp2_with fail
  refine (entry_any h0 HH.out HW.out hh).mono ?_
  rintro e w' ⟨rfl, rfl⟩
  rw [HO.out]
  go_wp2
  go_ret
  exact ⟨rfl, rfl⟩

set_option maxRecDepth 100000 in
set_option maxHeartbeats 1000000 in
theorem replace_yes (h0 : Nat) (x : Int) (h : TAt B w T S v) (hw : S.wf) (hh : h0 ≤ 18446744073709551615) (ho : S.op h0 = true) :
    Calls Try.prog 37 #[.pointer (some ⟨T.t, 0, none⟩), .int .u64 (h0 : Int), .int .u32 x] w fun e w' => e = .returned (.int .i64 0) ∧ w' = w.setCell ⟨T.gv, ent h0, none⟩ (.int .u32 x) := by
  have hon := hw.on _ (SS.op_on ho).1
  have hfr := hw.fr
  have hn2 := hw.n2
  have c1 := h.c1
  have cv := h.cv (i := ent h0) (by omega)
  have fv := h.vs.frozen (ent h0)
  have hi := ent_le h0
  have HH := hid h
  have HW := hid hw
  have HO := hid ho
  obtain ⟨y, hy⟩ : ∃ y, y = v (ent h0) := ⟨_, rfl⟩
  rw [← hy] at cv
  have HE := hid (entry_any h0 h hw hh)
  obtain ⟨i, hi'⟩ : ∃ i, i = ent h0 := ⟨_, rfl⟩
  rw [← hi'] at hi hon cv HE fv ⊢
  clear h hw ho hy hi'
  go_enter Try.func37, Try.ntmps37
  go_wp2_with fail
  refine HE.out.mono ?_
  rintro e w' ⟨rfl, rfl⟩
  rw [HO.out]
  go_wp2
  go_ret
  exact ⟨rfl, rfl⟩

set_option maxRecDepth 100000 in
set_option maxHeartbeats 1000000 in
theorem close_no (h0 : Nat) (h : TAt B w T S v) (hw : S.wf) (hh : h0 ≤ 18446744073709551615) (ho : S.op h0 = false) :
    Calls Try.prog 38 #[.pointer (some ⟨T.t, 0, none⟩), .int .u64 (h0 : Int)] w fun e w' => e = .returned (.tuple #[.int .u32 0, .int .i64 5]) ∧ w = w' := by
  have HH := hid h
  have HW := hid hw
  have HO := hid ho
  clear h hw ho
  go_enter Try.func38, Try.ntmps38
  go_wp2_with fail
  refine (entry_any h0 HH.out HW.out hh).mono ?_
  rintro e w' ⟨rfl, rfl⟩
  rw [HO.out]
  go_wp2
  go_ret2
  exact ⟨rfl, rfl⟩

set_option maxRecDepth 100000 in
set_option maxHeartbeats 2000000 in
theorem close_yes (h0 : Nat) (h : TAt B w T S v) (hw : S.wf) (hh : h0 ≤ 18446744073709551615) (ho : S.op h0 = true) :
    Calls Try.prog 38 #[.pointer (some ⟨T.t, 0, none⟩), .int .u64 (h0 : Int)] w fun e w' => ∃ T' : TL, e = .returned (.tuple #[.int .u32 (v (ent h0)), .int .i64 0]) ∧ T'.t = T.t ∧ TAt B w' T' (S.release (ent h0)) v ∧ Chg T.foot w w' ∧ (∀ k, T'.foot k → T.foot k ∨ w.heap.size ≤ k) := by
  have hon := hw.on _ (SS.op_on ho).1
  have hfr := hw.fr
  have hn2 := hw.n2
  have c0 := h.c0
  have cv := h.cv (i := ent h0) (by omega)
  have hi := ent_le h0
  have HH := hid h
  have HW := hid hw
  have HO := hid ho
  have HON := hid (SS.op_on ho).1
  have HE := hid (entry_any h0 h hw hh)
  have HOLD : Hid (∀ w', Chg T.L.foot w w' → w'.cell? ⟨T.t, 1, none⟩ = some (.slice (some ⟨T.gv, 0, none⟩) (S.n + 1) (S.n + 1)) ∧ w'.cell? ⟨T.gv, ent h0, none⟩ = some (.int .u32 (v (ent h0)))) := hid fun w' hc =>
    ⟨(World.cell?_of_block (w := w) (a := ⟨T.t, 1, none⟩) (hc.block _ h.hd.lt h.nt)).trans h.c1, (World.cell?_of_block (w := w) (a := ⟨T.gv, ent h0, none⟩) (hc.block _ h.vs.lt h.nv)).trans (h.cv (by omega))⟩
  obtain ⟨y, hy⟩ : ∃ y, y = v (ent h0) := ⟨_, rfl⟩
  rw [← hy] at HOLD ⊢
  obtain ⟨i, hi'⟩ : ∃ i, i = ent h0 := ⟨_, rfl⟩
  rw [← hi'] at hi hon HE HON HOLD ⊢
  clear h hw ho hy hi' cv
  go_enter Try.func38, Try.ntmps38
  go_wp2_with fail
  refine HE.out.mono ?_
  rintro e w' ⟨rfl, rfl⟩
  rw [HO.out]
  go_wp2_with fail
  refine (release_any i HH.out.s HW.out HH.out.size_le HON.out).mono ?_
  rintro e w' ⟨L', rfl, hg, hS, hc, hf⟩
  obtain ⟨c1, cv⟩ := HOLD.out _ hc
  have HS := hid hS
  have HC := hid hc
  have HF := hid hf
  have HG := hid hg
  clear hS hc hf hg
  go_wp2
  go_ret2
  have h := HH.out
  have hc := HC.out
  refine ⟨{ T with L := L' }, rfl, rfl, ⟨HS.out, (h.hd.of_block (hc.block _ h.hd.lt h.nt)).congr fun k hk => match k, hk with
      | 0, _ => by simp [fldT, HG.out]
      | 1, _ => rfl, h.vs.of_block (hc.block _ h.vs.lt h.nv), fun hk => ?_, fun hk => ?_, h.bt, h.bv⟩, hc.mono (fun k hk => .inr (.inr hk)), fun k hk => ?_⟩
  · rcases HF.out _ hk with h1 | h1
    · exact h.nt h1
    · have h2 : w.heap.size ≤ T.t := h1; have := h.hd.lt; omega
  · rcases HF.out _ hk with h1 | h1
    · exact h.nv h1
    · have h2 : w.heap.size ≤ T.gv := h1; have := h.vs.lt; omega
  · rcases hk with hk | hk | hk
    · exact .inl (.inl hk)
    · exact .inl (.inr (.inl hk))
    · exact (HF.out k hk).imp (fun h => .inr (.inr h)) id

theorem TAt.vals (h : TAt B w T S v) {v' : Nat → Int} (hv : ∀ i, i ≤ S.n → v' i = v i) : TAt B w T S v' :=
  ⟨h.s, h.hd, h.vs.congr fun i hi => by rw [hv i (by omega)], h.nt, h.nv, h.bt, h.bv⟩

set_option maxRecDepth 100000 in
set_option maxHeartbeats 1000000 in
theorem open_full (x : Int) (h : TAt B w T S v) (hw : S.wf) (hf : S.free = 0) :
    Calls Try.prog 35 #[.pointer (some ⟨T.t, 0, none⟩), .int .u32 x] w fun e w' => e = .returned (.tuple #[.int .u64 0, .int .i64 2]) ∧ Qt w w' := by
  have c0 := h.c0
  have HH := hid h
  have HW := hid hw
  have HF := hid hf
  clear h hw hf
  go_enter Try.func35, Try.ntmps35
  go_wp2_with fail
  refine (alloc_full HH.out.s HW.out HF.out).mono ?_
  rintro e w' ⟨rfl, hq⟩
  have HQ := hid hq
  clear hq
  go_wp2
  go_ret2
  exact ⟨rfl, HQ.out⟩

set_option maxRecDepth 100000 in
set_option maxHeartbeats 2000000 in
theorem open_any (x : Int) (h : TAt B w T S v) (hw : S.wf) (hf : 0 < S.free) :
    Calls Try.prog 35 #[.pointer (some ⟨T.t, 0, none⟩), .int .u32 x] w fun e w' => e = .returned (.tuple #[.int .u64 ((S.alloc.hdl S.next : Nat) : Int), .int .i64 0]) ∧ TAt B w' T S.alloc (upd v S.next x) ∧ Chg T.foot w w' := by
  have hno := hw.next_ok hf
  have hn2 := hw.n2
  have c0 := h.c0
  have HH := hid h
  have HW := hid hw
  have HF := hid hf
  have HW2 := hid (hw.alloc hf)
  have HT : Hid (∀ w', SAt B w' T.L S.alloc → Chg T.L.foot w w' → TAt B w' T S.alloc v) := hid fun w' hs hc =>
    ⟨hs, (h.hd.of_block (hc.block _ h.hd.lt h.nt)).congr fun k hk => match k, hk with
      | 0, _ => rfl
      | 1, _ => by simp [fldT, S.alloc_n], by rw [S.alloc_n]; exact h.vs.of_block (hc.block _ h.vs.lt h.nv), h.nt, h.nv, h.bt, h.bv⟩
  obtain ⟨i, hi'⟩ : ∃ i, i = S.next := ⟨_, rfl⟩
  have HI := hid hi'
  rw [← hi'] at hno ⊢
  clear h hw hf hi'
  go_enter Try.func35, Try.ntmps35
  go_wp2_with fail
  refine (alloc_any HH.out.s HW.out HF.out).mono ?_
  rintro e w1 ⟨rfl, hS, hc⟩
  rw [← HI.out]
  have ht := HT.out _ hS hc
  have c1 := ht.c1
  rw [S.alloc_n] at c1
  have cv := ht.cv (i := i) (by rw [S.alloc_n]; omega)
  have fv := ht.vs.frozen i
  have c0' := ht.c0
  obtain ⟨y, hy⟩ : ∃ y, y = v i := ⟨_, rfl⟩
  rw [← hy] at cv
  have HT1 := hid ht
  have HC := hid hc
  clear hS hc ht hy
  go_wp2_with fail
  refine (handle_any i (HT1.out.updv i x) HW2.out (by omega)).mono ?_
  rintro e w2 ⟨rfl, rfl⟩
  go_wp2
  go_ret2
  exact ⟨rfl, HT1.out.updv i x, (HC.out.mono (fun k hk => .inr (.inr hk))).setCell (.inl (.inr (.inl rfl))) _⟩

set_option maxRecDepth 100000 in
set_option maxHeartbeats 1000000 in
theorem len_any (h : TAt B w T S v) (hw : S.wf) :
    Calls Try.prog 34 #[.pointer (some ⟨T.t, 0, none⟩)] w fun e w' => e = .returned (.int .i64 ((S.n : Int) - (S.free : Int))) ∧ Qt w w' := by
  have c0 := h.c0
  have hn2 := hw.n2
  have hfl := hw.free_le
  have HH := hid h
  have HW := hid hw
  have HN := hid hn2
  obtain ⟨fr, hfr⟩ : ∃ fr, fr = S.free := ⟨_, rfl⟩
  rw [← hfr] at hfl ⊢
  have HFR := hid hfr
  have C1 : Hid (∀ q, Calls Try.prog 21 #[.pointer (some ⟨T.L.g, 0, none⟩)] (w.drewN q) fun e w' => e = .returned (.int .i64 (S.n : Int)) ∧ w' = w.drewN q) := hid fun q =>
    (cap_any (HH.out.s.qt ⟨q, rfl⟩) HN.out).mono fun _ _ ⟨he, hw⟩ => ⟨he, hw.symm⟩
  have C2 : Hid (∀ q, Calls Try.prog 19 #[.pointer (some ⟨T.L.g, 0, none⟩)] (w.drewN q) fun e w' => e = .returned (.int .i64 (fr : Int)) ∧ Qt (w.drewN q) w') := hid fun q => by
    rw [HFR.out]; exact free_any (HH.out.s.qt ⟨q, rfl⟩) HW.out
  clear h hw hfr
  go_enter Try.func34, Try.ntmps34
  go_wp2_with fail
  go_region_held3 (fun w' => w'.cell? ⟨T.t, 0, none⟩ = some (.pointer (some ⟨T.L.g, 0, none⟩))) (first | assumption | go_keep)
    ((first
      | (go_at_call 21; refine (C1.out _).mono ?_; rintro e w5 ⟨rfl, rfl⟩)
      | (go_at_call 19; refine (C2.out _).mono ?_; rintro e w5 ⟨rfl, ⟨q, rfl⟩⟩)))
  all_goals go_wp2
  all_goals go_ret
  all_goals exact ⟨ret_int (by first | rw [IntKind.wrap_i64]; omega | omega), _, rfl⟩
end
end Go.Proofs.Ytbmamikhjfieoaa
