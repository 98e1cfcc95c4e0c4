/-
  PLAIN: an allocator of numbered slots as a state ('SS'): which are allocated, the generations, the released ones (the last released first), how many were ever used. No program in sight.
-/
import Derived.Below
namespace Go.Proofs.Ytbmamikhjfieoaa
open Go.RowKit

/-- A fact kept from the walk. -/
theorem hid {p : Prop} (h : p) : Hid p := h

structure SS where
  n : Nat
  on : Nat → Bool
  gen : Nat → Int
  rl : List Nat
  fresh : Nat

def SS.new (n : Nat) : SS := { n := n, on := fun _ => false, gen := fun _ => 0, rl := [], fresh := 0 }
def SS.free (S : SS) : Nat := S.rl.length + (S.n - S.fresh)
/-- Slot i is taken. -/
def SS.take (S : SS) (i : Nat) (rl : List Nat) (fresh : Nat) : SS :=
  { n := S.n, on := fun j => if j = i then true else S.on j, gen := fun j => if j = i then (S.gen i + 1) % 4294967296 else S.gen j, rl := rl, fresh := fresh }
def SS.alloc (S : SS) : SS := match S.rl with
  | i :: r => S.take i r S.fresh
  | [] => S.take (S.fresh + 1) [] (S.fresh + 1)
/-- The slot that is allocated next. -/
def SS.next (S : SS) : Nat := match S.rl with
  | i :: _ => i
  | [] => S.fresh + 1
def SS.release (S : SS) (i : Nat) : SS := { S with on := fun j => if j = i then false else S.on j, rl := i :: S.rl }
def SS.ord (S : SS) : List Nat := S.rl ++ List.range' (S.fresh + 1) (S.n - S.fresh)

structure SS.wf (S : SS) : Prop where
  n1 : 1 ≤ S.n
  n2 : S.n ≤ 65536
  fr : S.fresh ≤ S.n
  on : ∀ i, S.on i = true → 1 ≤ i ∧ i ≤ S.fresh
  rl : ∀ i, i ∈ S.rl → 1 ≤ i ∧ i ≤ S.fresh ∧ S.on i = false
  nd : S.rl.Nodup
  all : ∀ i, 1 ≤ i → i ≤ S.fresh → S.on i = true ∨ i ∈ S.rl
  g0 : ∀ i, 0 ≤ S.gen i ∧ S.gen i ≤ 4294967295
  gz : ∀ i, S.fresh < i ∨ i = 0 → S.gen i = 0
  cnt : S.rl.length + ((List.range (S.n + 1)).filter S.on).length = S.fresh

theorem SS.new_wf (n : Nat) (h1 : 1 ≤ n) (h2 : n ≤ 65536) : (SS.new n).wf := by
  refine ⟨h1, h2, by simp [new], by simp [new], by simp [new], by simp [new], by simp [new]; omega, by simp [new], by simp [new], ?_⟩
  simp [new]

theorem nodup_le (l : List Nat) (m : Nat) (hn : l.Nodup) (h : ∀ i, i ∈ l → 1 ≤ i ∧ i ≤ m) : l.length ≤ m := by
  induction m generalizing l with
  | zero => cases l with
    | nil => simp
    | cons a l => have := h a (by simp); omega
  | succ m ih =>
    by_cases hm : m + 1 ∈ l
    · have h1 := ih (l.erase (m + 1)) (hn.erase _) (fun i hi => by
        have h2 := h i (List.mem_of_mem_erase hi)
        have h3 : i ≠ m + 1 := fun e => by subst e; exact (List.Nodup.not_mem_erase hn) hi
        omega)
      rw [List.length_erase_of_mem hm] at h1
      omega
    · have h1 := ih l hn (fun i hi => by
        have h2 := h i hi
        have h3 : i ≠ m + 1 := fun e => by subst e; exact hm hi
        omega)
      omega

theorem SS.wf.len {S : SS} (h : S.wf) : S.rl.length ≤ S.fresh := by have := h.cnt; omega

theorem count_set_true (f : Nat → Bool) (i m : Nat) (hi : i < m) (hf : f i = false) : ((List.range m).filter (fun j => if j = i then true else f j)).length = ((List.range m).filter f).length + 1 := by
  induction m with
  | zero => omega
  | succ m ih =>
    rw [List.range_succ, List.filter_append, List.filter_append, List.length_append, List.length_append]
    by_cases h : i = m
    · subst h
      have e : (List.range i).filter (fun j => if j = i then true else f j) = (List.range i).filter f := by
        apply List.filter_congr
        intro x hx
        have : x < i := by simpa using hx
        rw [if_neg (by omega)]
      rw [e]
      simp [hf]
    · rw [ih (by omega)]
      have : m ≠ i := fun e => h e.symm
      simp [List.filter_cons, this]
      split <;> simp <;> omega
theorem count_set_false (f : Nat → Bool) (i m : Nat) (hi : i < m) (hf : f i = true) : ((List.range m).filter (fun j => if j = i then false else f j)).length + 1 = ((List.range m).filter f).length := by
  have h := count_set_true (fun j => if j = i then false else f j) i m hi (by simp)
  have e : (fun j => if j = i then true else (if j = i then false else f j)) = f := by
    funext j
    by_cases hj : j = i
    · subst hj; simp [hf]
    · simp [hj]
  rw [e] at h
  omega

theorem SS.wf.next_ok {S : SS} (h : S.wf) (hf : 0 < S.free) : 1 ≤ S.next ∧ S.next ≤ S.n ∧ S.on S.next = false := by
  unfold SS.next
  cases hr : S.rl with
  | nil =>
    simp only
    have : 0 < S.n - S.fresh := by simpa [SS.free, hr] using hf
    refine ⟨by omega, by omega, ?_⟩
    cases ho : S.on (S.fresh + 1) with
    | false => rfl
    | true => have := h.on _ ho; omega
  | cons i r =>
    simp only
    have := h.rl i (by simp [hr])
    have := h.fr
    exact ⟨by omega, by omega, by simp_all⟩

theorem SS.wf.alloc {S : SS} (h : S.wf) (hf : 0 < S.free) : S.alloc.wf := by
  have hno := h.next_ok hf
  unfold SS.alloc
  unfold SS.next at hno
  cases hr : S.rl with
  | nil =>
    simp only [hr] at hno ⊢
    have hn : S.fresh + 1 ≤ S.n := by omega
    have hc := h.cnt
    rw [hr] at hc
    refine ⟨h.n1, h.n2, hn, fun i hi => ?_, by simp [take], by simp [take], fun i h1 h2 => ?_, fun i => ?_, fun i hi => ?_, ?_⟩
    · simp only [take] at hi ⊢
      by_cases e : i = S.fresh + 1
      · omega
      · rw [if_neg e] at hi; have := h.on i hi; omega
    · simp only [take] at h2 ⊢
      by_cases e : i = S.fresh + 1
      · simp [e]
      · have := h.all i h1 (by omega); rw [hr] at this; simpa [e] using this
    · simp only [take]; split
      · omega
      · exact h.g0 i
    · simp only [take] at hi ⊢
      rw [if_neg (by omega)]
      exact h.gz i (by omega)
    · simp only [take]
      rw [count_set_true _ _ _ (by omega) hno.2.2]
      simp at hc ⊢
      omega
  | cons i r =>
    simp only [hr] at hno ⊢
    have hi := h.rl i (by simp [hr])
    have hc := h.cnt
    have hnd := h.nd
    rw [hr] at hc hnd
    refine ⟨h.n1, h.n2, h.fr, fun j hj => ?_, fun j hj => ?_, ?_, fun j h1 h2 => ?_, fun j => ?_, fun j hj => ?_, ?_⟩
    · simp only [take] at hj ⊢
      by_cases e : j = i
      · omega
      · rw [if_neg e] at hj; exact h.on j hj
    · simp only [take] at hj ⊢
      have h2 := h.rl j (by simp [hr, hj])
      have e : j ≠ i := fun e => by subst e; exact (List.nodup_cons.1 hnd).1 hj
      simp [e, h2]
    · exact (List.nodup_cons.1 hnd).2
    · simp only [take] at h2 ⊢
      by_cases e : j = i
      · simp [e]
      · have := h.all j h1 h2; rw [hr] at this; simpa [e] using this
    · simp only [take]; split
      · omega
      · exact h.g0 j
    · simp only [take] at hj ⊢
      rw [if_neg (by omega)]
      exact h.gz j hj
    · simp only [take]
      rw [count_set_true _ _ _ (by omega) hno.2.2]
      simp at hc ⊢
      omega

theorem SS.wf.release {S : SS} (h : S.wf) {i : Nat} (hi : S.on i = true) : (S.release i).wf := by
  have h1 := h.on i hi
  have hni : i ∉ S.rl := fun hm => by have := (h.rl i hm).2.2; rw [hi] at this; cases this
  refine ⟨h.n1, h.n2, h.fr, fun j hj => ?_, fun j hj => ?_, ?_, fun j h2 h3 => ?_, h.g0, h.gz, ?_⟩
  · simp only [SS.release] at hj ⊢
    by_cases e : j = i
    · simp [e] at hj
    · rw [if_neg e] at hj; exact h.on j hj
  · simp only [SS.release] at hj ⊢
    rcases List.mem_cons.1 hj with rfl | hj
    · exact ⟨h1.1, h1.2, by simp⟩
    · have h4 := h.rl j hj
      exact ⟨h4.1, h4.2.1, by split <;> simp [h4.2.2]⟩
  · exact List.nodup_cons.2 ⟨hni, h.nd⟩
  · simp only [SS.release] at h3 ⊢
    by_cases e : j = i
    · right; simp [e]
    · rcases h.all j h2 h3 with h4 | h4
      · left; simp [e, h4]
      · right; simp [h4]
  · have hc := h.cnt
    have hf := h.fr
    have := count_set_false S.on i (S.n + 1) (by omega) hi
    simp only [SS.release, List.length_cons]
    omega

theorem SS.wf.room {S : SS} (h : S.wf) {i : Nat} (hi : S.on i = true) : S.rl.length + 1 ≤ S.fresh := by have := (h.release hi).cnt; simp [SS.release] at this; omega

theorem SS.alloc_n (S : SS) : S.alloc.n = S.n := by unfold SS.alloc; split <;> rfl
theorem SS.alloc_on (S : SS) (j : Nat) : S.alloc.on j = if j = S.next then true else S.on j := by unfold SS.alloc SS.next; split <;> rfl
theorem SS.alloc_gen (S : SS) (j : Nat) : S.alloc.gen j = if j = S.next then (S.gen S.next + 1) % 4294967296 else S.gen j := by unfold SS.alloc SS.next; split <;> rfl
theorem SS.wf.ord_alloc {S : SS} (_h : S.wf) (hf : 0 < S.free) : S.ord = S.next :: S.alloc.ord := by
  unfold SS.ord SS.alloc SS.next SS.free at *
  cases hr : S.rl with
  | nil =>
    rw [hr] at hf
    simp only [SS.take, List.nil_append]
    rw [show S.n - S.fresh = (S.n - (S.fresh + 1)) + 1 by simp at hf; omega, List.range'_succ]
  | cons i r => simp [SS.take]
theorem SS.ord_len (S : SS) : S.ord.length = S.free := by simp [SS.ord, SS.free]
theorem SS.ord_release (S : SS) (i : Nat) : (S.release i).ord = i :: S.ord := by simp [SS.ord, SS.release]
theorem SS.wf.ord_mem {S : SS} (h : S.wf) (i : Nat) : i ∈ S.ord ↔ 1 ≤ i ∧ i ≤ S.n ∧ S.on i = false := by
  have hfr := h.fr
  simp only [SS.ord, List.mem_append, List.mem_range'_1]
  constructor
  · rintro (h1 | h1)
    · have := h.rl i h1; exact ⟨by omega, by omega, this.2.2⟩
    · refine ⟨by omega, by omega, ?_⟩
      cases ho : S.on i with
      | false => rfl
      | true => have := h.on i ho; omega
  · rintro ⟨h1, h2, h3⟩
    by_cases h4 : i ≤ S.fresh
    · rcases h.all i h1 h4 with h5 | h5
      · rw [h3] at h5; cases h5
      · exact .inl h5
    · right; omega
theorem SS.wf.ord_nodup {S : SS} (h : S.wf) : S.ord.Nodup := by
  unfold SS.ord
  rw [List.nodup_append]
  refine ⟨h.nd, List.nodup_range', fun a ha b hb e => ?_⟩
  subst e
  have h1 := h.rl a ha
  have h2 := List.mem_range'_1.1 hb
  omega
theorem SS.wf.free_le {S : SS} (h : S.wf) : S.free ≤ S.n := by have := h.len; have := h.fr; unfold SS.free; omega
theorem SS.free_alloc {S : SS} (h : S.wf) (hf : 0 < S.free) : S.alloc.free + 1 = S.free := by
  have := h.ord_alloc hf
  rw [← SS.ord_len, ← SS.ord_len, this]; simp
end Go.Proofs.Ytbmamikhjfieoaa
