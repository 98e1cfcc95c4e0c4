/-
  THE STATE OF HandlesKeepValues: a table where the handle h is open with the value y, and a stack of other handles ('KI').
-/
import Derived.Test.YtbmamikhjfieoaaHap
namespace Go.Proofs.Ytbmamikhjfieoaa
open Go.RowKit

structure KI (B : Nat) (w : World) (t n h : Nat) (y : Int) (x : Value) (T : TL) (S : SS) (v : Nat → Int) (ms : List Nat) (k : Nat) : Prop where
  tab : TAt B w T S v
  wf : S.wf
  n_ : S.n = n
  t_ : T.t = t
  own : w.ownsRow B 58 1 x ms.length ((natsI ms).map (Value.int .u64))
  op : S.op h = true
  val : v (ent h) = y
  ne : ∀ z, z ∈ ms → z ≠ h ∧ z ≤ 18446744073709551615
  len : ms.length ≤ k
section
variable {B : Nat} {w w' : World} {t n h : Nat} {y : Int} {x : Value} {T : TL} {S : SS} {v : Nat → Int} {ms : List Nat} {k : Nat}
theorem KI.below (h0 : KI B w t n h y x T S v ms k) (hb : Below w.heap.size w w') : KI B w' t n h y x T S v ms k :=
  ⟨h0.tab.below hb, h0.wf, h0.n_, h0.t_, own_of_block h0.own (fun k hk => hb.block k (h0.own.lt k hk).2), h0.op, h0.val, h0.ne, h0.len⟩
theorem KI.more (h0 : KI B w t n h y x T S v ms k) : KI B w t n h y x T S v ms (k + 1) := ⟨h0.tab, h0.wf, h0.n_, h0.t_, h0.own, h0.op, h0.val, h0.ne, by have := h0.len; omega⟩
theorem KI.own1 (h0 : KI B w t n h y x T S v ms k) {w1 : World} (hc : Chg T.foot w w1) : w1.ownsRow B 58 1 x ms.length ((natsI ms).map (Value.int .u64)) := own_of_block h0.own (fun k hk => hc.block k (h0.own.lt k hk).2 (h0.tab.apart h0.own k hk))
theorem KI.size_le (h0 : KI B w t n h y x T S v ms k) : B ≤ w.heap.size := h0.tab.size_le
/-- The top of the stack is closed and popped. -/
theorem KI.pop {g j c z : Nat} {zs : List Nat} (h0 : KI B w t n h y (.slice (some ⟨g, 0, none⟩) (j + 1) c) T S v (zs ++ [z]) k) (hj : zs.length = j) : KI B w t n h y (.slice (some ⟨g, 0, none⟩) j c) T S v zs k :=
  ⟨h0.tab, h0.wf, h0.n_, h0.t_, by
    have ho := h0.own
    rw [show (zs ++ [z]).length = j + 1 by simp [hj], show (natsI (zs ++ [z])).map (Value.int .u64) = (natsI zs).map (Value.int .u64) ++ [.int .u64 (z : Int)] by simp [natsI]] at ho
    have := ownsRow_pop (by simp [natsI, hj]) ho
    rw [hj]; exact this, h0.op, h0.val, fun u hu => h0.ne u (List.mem_append_left _ hu), by have := h0.len; simp at this; omega⟩
theorem ki_close (z : Nat) (h0 : KI B w t n h y x T S v ms k) (hz : z ≠ h) (hz2 : z ≤ 18446744073709551615) :
    Calls Try.prog 38 #[.pointer (some ⟨t, 0, none⟩), .int .u64 (z : Int)] w fun e w' => ∃ a r T' S', e = .returned (.tuple #[.int .u32 a, .int .i64 r]) ∧ KI B w' t n h y x T' S' v ms k ∧ Below B w w' := by
  rw [← h0.t_]
  cases ho : S.op z with
  | false => exact (close_no z h0.tab h0.wf hz2 ho).mono fun e w' ⟨he, hw'⟩ => ⟨_, _, T, S, he, hw' ▸ (h0.t_.symm ▸ h0), hw' ▸ Below.refl _ _⟩
  | true =>
    refine (close_yes z h0.tab h0.wf hz2 ho).mono fun e w' ⟨T', he, ht, hT, hc, hf⟩ => ?_
    exact ⟨_, _, T', S.release (ent z), he, ⟨hT, h0.wf.release (SS.op_on ho).1, h0.n_, ht, h0.own1 hc, op_release_other S h z ho hz h0.op, h0.val, h0.ne, h0.len⟩, h0.tab.chg_below hc⟩
theorem ki_open_full (u : Int) (h0 : KI B w t n h y x T S v ms k) (hf : S.free = 0) :
    Calls Try.prog 35 #[.pointer (some ⟨t, 0, none⟩), .int .u32 u] w fun e w' => e = .returned (.tuple #[.int .u64 0, .int .i64 2]) ∧ KI B w' t n h y x T S v ms k ∧ Below B w w' := by
  rw [← h0.t_]
  refine (open_full u h0.tab h0.wf hf).mono fun e w' ⟨he, hq⟩ => ?_
  have hb : Below w.heap.size w w' := (hq.chg Nil).below (Nat.le_refl _) (fun _ h => h.elim)
  exact ⟨he, h0.t_.symm ▸ h0.below hb, hb.mono h0.size_le⟩
theorem ki_open (u : Int) (h0 : KI B w t n h y x T S v ms k) (hf : 0 < S.free) :
    Calls Try.prog 35 #[.pointer (some ⟨t, 0, none⟩), .int .u32 u] w fun e w' => e = .returned (.tuple #[.int .u64 ((S.alloc.hdl S.next : Nat) : Int), .int .i64 0]) ∧ KI B w' t n h y x T S.alloc (upd v S.next u) ms k ∧ Below B w w' := by
  rw [← h0.t_]
  refine (open_any u h0.tab h0.wf hf).mono fun e w' ⟨he, hT, hc⟩ => ?_
  obtain ⟨h1, h2, _⟩ := op_alloc h0.wf hf h h0.op
  refine ⟨he, ⟨hT, h0.wf.alloc hf, by rw [S.alloc_n]; exact h0.n_, rfl, h0.own1 hc, h1, ?_, h0.ne, h0.len⟩, h0.tab.chg_below hc⟩
  unfold upd
  rw [if_neg h2]
  exact h0.val
theorem KI.new_ne (h0 : KI B w t n h y x T S v ms k) (hf : 0 < S.free) : S.alloc.hdl S.next ≠ h ∧ S.alloc.hdl S.next ≤ 18446744073709551615 := by
  have hno := h0.wf.next_ok hf
  have hn := h0.wf.n2
  exact ⟨(op_alloc h0.wf hf h h0.op).2.2.symm, (h0.wf.alloc hf).hdl_le _ (by omega)⟩
theorem KI.push {x' : Value} {z : Nat} (h0 : KI B w t n h y x T S v ms k) (hz : z ≠ h ∧ z ≤ 18446744073709551615)
    (ho : w'.ownsRow B 58 1 x' (ms.length + 1) ((natsI ms).map (Value.int .u64) ++ [.int .u64 (z : Int)])) (hg : Chg (fun k => x.ownBlock = some k) w w') : KI B w' t n h y x' T S v (ms ++ [z]) (k + 1) :=
  ⟨h0.tab.keep hg (fun k hk => h0.tab.apart h0.own k hk), h0.wf, h0.n_, h0.t_, by
    have e : (natsI (ms ++ [z])).map (Value.int .u64) = (natsI ms).map (Value.int .u64) ++ [.int .u64 (z : Int)] := by simp [natsI]
    rw [e, List.length_append]
    exact ho, h0.op, h0.val, fun u hu => by
      rcases List.mem_append.1 hu with hu | hu
      · exact h0.ne u hu
      · simp at hu; rw [hu]; exact hz, by have := h0.len; simp; omega⟩
theorem ki_lookup (h0 : KI B w t n h y x T S v ms k) (hh : h ≤ 18446744073709551615) :
    Calls Try.prog 39 #[.pointer (some ⟨t, 0, none⟩), .int .u64 (h : Int)] w fun e w' => e = .returned (.tuple #[.int .u32 y, .int .i64 0]) ∧ w = w' := by
  rw [← h0.t_, ← h0.val]
  exact lookup_yes h h0.tab h0.wf hh h0.op
theorem KI.top (h0 : KI B w t n h y x T S v ms k) (hn : 0 < ms.length) : ∃ (g j c z : Nat) (zs : List Nat), x = .slice (some ⟨g, 0, none⟩) (j + 1) c ∧ ms = zs ++ [z] ∧ zs.length = j ∧ j + 1 ≤ c ∧ c ≤ maxLen ∧ w.cell? ⟨g, j, none⟩ = some (.int .u64 (z : Int)) := by
  have ho := h0.own
  obtain ⟨g, c, hx, hg, hlt⟩ := ho.form hn
  obtain ⟨zs, z, hms⟩ : ∃ zs z, ms = zs ++ [z] := ⟨ms.dropLast, ms.getLast (List.ne_nil_of_length_pos hn), (List.dropLast_concat_getLast _).symm⟩
  have hl : ms.length = zs.length + 1 := by rw [hms]; simp
  rw [hl] at hx ho
  refine ⟨g, zs.length, c, z, zs, hx, hms, rfl, ?_, ?_, ?_⟩
  · rw [hx] at ho; exact (ownsRow_room ho).1
  · rw [hx] at ho; exact (ownsRow_room ho).2
  · rw [hx] at ho
    rw [ho.cellAt zs.length (by omega), hms]
    simp [natsI]
end
theorem free_release (S : SS) (i : Nat) : 0 < (S.release i).free := by unfold SS.free SS.release; simp; omega
end Go.Proofs.Ytbmamikhjfieoaa
