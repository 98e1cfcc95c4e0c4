/-
  PLAIN: the handles of a table as numbers: which are open ('SS.op'), the list of the open ones ('opens'), the list of the issued ones ('Iss'). No program in sight.
-/
import Derived.Test.YtbmamikhjfieoaaTab
namespace Go.Proofs.Ytbmamikhjfieoaa
open Go.RowKit

theorem ent_hdl (S : SS) (i : Nat) (hi : i < 4294967296) : ent (S.hdl i) = i := by unfold ent SS.hdl; omega
theorem hi_hdl (S : SS) (i : Nat) (hi : i < 4294967296) : S.hdl i / 4294967296 = (S.gen i).toNat := by unfold SS.hdl; omega
theorem SS.wf.hdl_le {S : SS} (h : S.wf) (i : Nat) (hi : i < 4294967296) : S.hdl i ≤ 18446744073709551615 := by
  have := h.g0 i
  unfold SS.hdl; omega
theorem SS.op_iff (S : SS) (h : Nat) : S.op h = true ↔ S.on (ent h) = true ∧ S.hdl (ent h) = h := by unfold SS.op; simp
/-- The open handles, in the order of their entries. -/
def opens (S : SS) : List Nat := ((List.range' 1 S.n).filter S.on).map S.hdl
theorem SS.wf.opens_mem {S : SS} (h : S.wf) (x : Nat) : x ∈ opens S ↔ S.op x = true := by
  have hn := h.n2
  rw [SS.op_iff]
  simp only [opens, List.mem_map, List.mem_filter, List.mem_range'_1]
  constructor
  · rintro ⟨i, ⟨hi, ho⟩, rfl⟩
    rw [ent_hdl S i (by omega)]
    exact ⟨ho, rfl⟩
  · rintro ⟨ho, he⟩
    have h1 := h.on _ ho
    have h2 := h.fr
    exact ⟨ent x, ⟨⟨by omega, by omega⟩, ho⟩, he⟩
theorem opens_snoc (S : SS) (k : Nat) : ((List.range' 1 (k + 1)).filter S.on).map S.hdl = ((List.range' 1 k).filter S.on).map S.hdl ++ if S.on (k + 1) then [S.hdl (k + 1)] else [] := by
  rw [List.range'_concat, List.filter_append, List.map_append]
  congr 1
  rw [show 1 + 1 * k = k + 1 by omega]
  by_cases h : S.on (k + 1) = true
  · simp [h]
  · have : S.on (k + 1) = false := by simpa using h
    simp [this]
theorem opens_len (S : SS) (k : Nat) : (((List.range' 1 k).filter S.on).map S.hdl).length ≤ k := by
  rw [List.length_map]
  have := List.length_filter_le S.on (List.range' 1 k)
  simpa using this

/-- What is known of the issued handles zs after k calls. -/
structure Iss (S : SS) (zs : List Nat) (k : Nat) : Prop where
  nd : zs.Nodup
  le : ∀ h, h ∈ zs → 1 ≤ h / 4294967296 ∧ ((h / 4294967296 : Nat) : Int) ≤ S.gen (ent h) ∧ h ≤ 18446744073709551615
  gk : ∀ i, S.gen i ≤ (k : Int)
  len : zs.length ≤ k
theorem Iss.new (n : Nat) : Iss (SS.new n) [] 0 := ⟨List.nodup_nil, fun _ h => (List.not_mem_nil h).elim, fun _ => by simp [SS.new], Nat.le_refl _⟩
theorem Iss.more {S : SS} {zs : List Nat} {k : Nat} (h : Iss S zs k) : Iss S zs (k + 1) := ⟨h.nd, h.le, fun i => by have := h.gk i; omega, by have := h.len; omega⟩
theorem Iss.release {S : SS} {zs : List Nat} {k : Nat} (h : Iss S zs k) (i : Nat) : Iss (S.release i) zs k := ⟨h.nd, h.le, h.gk, h.len⟩
theorem Iss.gen_next {S : SS} {zs : List Nat} {k : Nat} (h : Iss S zs k) (hw : S.wf) (hk : k < 4294967295) : S.alloc.gen S.next = S.gen S.next + 1 := by
  have := h.gk S.next
  have := hw.g0 S.next
  rw [S.alloc_gen, if_pos rfl, Int.emod_eq_of_lt (by omega) (by omega)]
theorem Iss.alloc {S : SS} {zs : List Nat} {k : Nat} (h : Iss S zs k) (hw : S.wf) (hf : 0 < S.free) (hk : k < 4294967295) : Iss S.alloc (zs ++ [S.alloc.hdl S.next]) (k + 1) := by
  have hno := hw.next_ok hf
  have hn := hw.n2
  have hg := h.gen_next hw hk
  have h0 := hw.g0 S.next
  have he := ent_hdl S.alloc S.next (by omega)
  have hh := hi_hdl S.alloc S.next (by omega)
  have hgen : ∀ i, S.gen i ≤ S.alloc.gen i := fun i => by
    by_cases e : i = S.next
    · rw [e, hg]; omega
    · rw [S.alloc_gen, if_neg e]; omega
  refine ⟨?_, fun x hx => ?_, fun i => ?_, by have := h.len; simp; omega⟩
  · rw [List.nodup_append]
    refine ⟨h.nd, by simp, fun a ha b hb e => ?_⟩
    simp at hb
    subst e
    have h1 := (h.le a ha).2.1
    rw [hb, he, hh, hg] at h1
    omega
  · rcases List.mem_append.1 hx with hx | hx
    · have h1 := h.le x hx
      have h2 := hgen (ent x)
      exact ⟨h1.1, by omega, h1.2.2⟩
    · simp at hx
      rw [hx, he, hh, hg]
      exact ⟨by omega, by omega, (hw.alloc hf).hdl_le _ (by omega)⟩
  · have h1 := h.gk i
    by_cases e : i = S.next
    · have := h.gk S.next
      rw [e, hg]; omega
    · rw [S.alloc_gen, if_neg e]; omega

/-- What Call.pick picks. -/
def pk (raw : Bool) (h : Nat) (zs : List Nat) : Nat := if raw = true ∨ zs.length = 0 then h else zs.getD (h % zs.length) 0
theorem Iss.pk_le {S : SS} {zs : List Nat} {k : Nat} (hI : Iss S zs k) (raw : Bool) (h : Nat) (hh : h ≤ 18446744073709551615) : pk raw h zs ≤ 18446744073709551615 := by
  unfold pk
  split
  · exact hh
  · rename_i hn
    have hl : h % zs.length < zs.length := Nat.mod_lt _ (by omega)
    have e : zs.getD (h % zs.length) 0 = zs[h % zs.length] := by simp [List.getD, hl]
    rw [e]
    exact (hI.le _ (List.getElem_mem hl)).2.2

/-- After a release and whatever allocation, the old handle is no more. -/
theorem op_release (S : SS) (h : Nat) : (S.release (ent h)).op h = false := by unfold SS.op SS.release; simp
theorem op_release_other (S : SS) (h x : Nat) (hx : S.op x = true) (hne : x ≠ h) (ho : S.op h = true) : (S.release (ent x)).op h = true := by
  rw [SS.op_iff] at *
  have hee : ent h ≠ ent x := fun e => by
    apply hne
    rw [← hx.2, ← ho.2, e]
  refine ⟨?_, ?_⟩
  · simp [SS.release, hee, ho.1]
  · exact ho.2
theorem op_alloc {S : SS} (hw : S.wf) (hf : 0 < S.free) (h : Nat) (ho : S.op h = true) : S.alloc.op h = true ∧ ent h ≠ S.next ∧ h ≠ S.alloc.hdl S.next := by
  have hno := hw.next_ok hf
  have hn := hw.n2
  have ho' := ho
  rw [SS.op_iff] at ho ⊢
  have hne : ent h ≠ S.next := fun e => by have := hno.2.2; rw [← e, ho.1] at this; cases this
  have hgen : S.alloc.gen (ent h) = S.gen (ent h) := by rw [S.alloc_gen, if_neg hne]
  refine ⟨⟨by rw [S.alloc_on, if_neg hne]; exact ho.1, ?_⟩, hne, fun e => ?_⟩
  · have := ho.2
    unfold SS.hdl at this ⊢
    rw [hgen]; exact this
  · apply hne
    rw [e, ent_hdl _ _ (by omega)]
theorem op_alloc_new {S : SS} (hw : S.wf) (hf : 0 < S.free) : S.alloc.op (S.alloc.hdl S.next) = true ∧ ent (S.alloc.hdl S.next) = S.next := by
  have hno := hw.next_ok hf
  have hn := hw.n2
  have he := ent_hdl S.alloc S.next (by omega)
  rw [SS.op_iff, he]
  exact ⟨⟨by rw [S.alloc_on, if_pos rfl], rfl⟩, rfl⟩
/-- A closed handle is not accepted after one more allocation. -/
theorem op_closed_alloc {S : SS} (hw : S.wf) (h : Nat) (ho : S.op h = true) : (S.release (ent h)).alloc.op h = false := by
  have ho1 := (SS.op_iff S h).1 ho
  have h0 := hw.g0 (ent h)
  have hnx : (S.release (ent h)).next = ent h := rfl
  cases hc : (S.release (ent h)).alloc.op h with
  | false => rfl
  | true =>
    exfalso
    rw [SS.op_iff] at hc
    have h1 := hc.2
    have h2 := ho1.2
    unfold SS.hdl at h1 h2
    rw [SS.alloc_gen, if_pos hnx.symm, hnx] at h1
    have hg : (S.release (ent h)).gen (ent h) = S.gen (ent h) := rfl
    rw [hg] at h1
    have hp : (S.gen (ent h) + 1) % 4294967296 ≠ S.gen (ent h) := by omega
    have h3 : 0 ≤ (S.gen (ent h) + 1) % 4294967296 := Int.emod_nonneg _ (by omega)
    omega
end Go.Proofs.Ytbmamikhjfieoaa
