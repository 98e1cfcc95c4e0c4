/-
  A COPY OF A SLICE BY append TO nil, as one law of the walk; Same on numbers. No condition on the slice's length but the machine's.
-/
import Derived.Test.YtbmamikhjfieoaaOpen
import Derived.Laws.AppendOwnNone
import Derived.Deep.AppendLies
import Derived.Deep.RegionHeld3
namespace Go.Proofs.Ytbmamikhjfieoaa
open Go.RowKit

/-- What a copy of n cells is: nil at 0, else a block of its own. -/
structure Copied (w w' : World) (e : TypeId) (A : Option Addr) (n c : Nat) (xs : List Value) : Prop where
  own : w'.ownsRow w.heap.size e 1 (.slice A n c) n xs
  low : Below w.heap.size w w'
  nil : n = 0 → A = none ∧ c = 0
  at_ : 0 < n → A = some ⟨w.heap.size, 0, none⟩
  room : n ≤ c ∧ c ≤ maxLen

theorem ownsRow_room {w : World} {B e size n m c : Nat} {A : Option Addr} {xs : List Value} (h : w.ownsRow B e size (.slice A m c) n xs) : n ≤ c ∧ c ≤ maxLen := by
  rcases h.2 with ⟨hv, h0⟩ | ⟨g, cap, cur, hv, _, _, h1, h2, _⟩
  · injection hv with _ _ hc; subst hc; exact ⟨by omega, by unfold maxLen; omega⟩
  · injection hv with _ _ hc; subst hc; exact ⟨h1, h2⟩

theorem wpList_clone {P : Program} {w : World} {ops : Array Oper} {rest : List Oper} {o : Oper} {a : Act} {Q : Exit → Act → World → Prop} (hgd : o.guard = none) (x : Operand) (t : TypeId)
    (ho : o.op = .call { callee := .builtin .append, args := #[.const (.slice none 0 0), x], argTypes := #[t, t] })
    (e : TypeId) (i : TypeInfo) (z : Value) (bytes : Nat) (ht : P.underlying t = some (.slice e)) (hi : P.info? e = some i) (hz : i.zero = some z)
    (hsize : i.size = 1) (hby : i.bytes = bytes) (hzs : z.cells.size = 1)
    (A : Option Addr) (n c : Nat) (xs : List Value) (hx : a.eval x = .slice A n c) (hl : xs.length = n) (hnil : A = none → n = 0 ∧ c = 0) (hcell : ∀ ad, A = some ad → ∀ j u, xs[j]? = some u → w.cell? (ad.add j) = some u) (h1 : ∀ u ∈ xs, u.oneCell' = true)
    (h63 : n ≤ maxLen) (hbytes : n * bytes ≤ 140737488355328)
    (h : ∀ A' c' w', Copied w w' e A' n c' xs → wpList P ops Q rest (a.put o.dst (.slice A' n c')) w') : wpList P ops Q (o :: rest) a w := by
  cases A with
  | none =>
    obtain ⟨rfl, rfl⟩ := hnil rfl
    have hx0 : xs = [] := List.length_eq_zero_iff.1 hl
    subst hx0
    exact wpList_append_own_none hgd _ x t ho w.heap.size e i 1 ht hi (.slice none 0 0) 0 [] rfl (World.ownsRow_nil _ _ _ _) hx (h none 0 w ⟨World.ownsRow_nil _ _ _ _, Below.refl _ _, fun _ => ⟨rfl, rfl⟩, fun h => by omega, by unfold maxLen; omega⟩)
  | some ad =>
    by_cases hn : n = 0
    · subst hn
      have hx0 : xs = [] := List.length_eq_zero_iff.1 hl
      subst hx0
      refine wpList_append_own w hgd _ x t ho w.heap.size e i z 1 bytes ht hi hz hsize hby hzs (by decide) (.slice none 0 0) 0 [] rfl (World.ownsRow_nil _ _ _ _) ad 0 c [] hx rfl (by simp) (by simp) (by omega) (by omega) (Nat.le_refl _) ?_
      intro v' w' hown hg hnil'
      have hv : v' = .slice none 0 0 := hnil'.2 ⟨rfl, rfl⟩
      subst hv
      exact h none 0 w' ⟨hown, (Below.refl _ w).grown hg (Nat.le_refl _) (fun k hk => by cases hk), fun _ => ⟨rfl, rfl⟩, fun h => by omega, by unfold maxLen; omega⟩
    · refine wpList_append_lies w hgd _ x t ho w.heap.size e i z 1 bytes ht hi hz hsize hby hzs (by decide) (.slice none 0 0) 0 [] rfl (World.ownsRow_nil _ _ _ _) ad n c xs hx (by omega) (hcell ad rfl) h1 (by omega) (by omega) (by rw [Nat.zero_add]; exact hbytes) (Nat.le_refl _) _ rfl ?_
      intro g cap w' hown hg hat hlt
      have hgs : g = w.heap.size := by rcases hat with h | h; simp [Value.ownBlock] at h; exact h
      subst hgs
      rw [Nat.zero_add, List.nil_append] at hown
      rw [Nat.zero_add]
      exact h _ cap w' ⟨hown, (Below.refl _ w).grown hg (Nat.le_refl _) (fun k hk => by cases hk), fun h => by omega, fun _ => rfl, ownsRow_room hown⟩

/-- A slice of numbers gives the law its cells. -/
theorem Nums.src {k : IntKind} {F : Nat → Prop} {w : World} {A : Option Addr} {n : Nat} {zs : List Int} (h : Nums k F w A n zs) : ∀ ad, A = some ad → ∀ j u, (zs.map (Value.int k))[j]? = some u → w.cell? (ad.add j) = some u := by
  intro ad hA j u hu
  have hj : j < zs.length := by have := (List.getElem?_eq_some_iff.1 hu).1; simpa using this
  have hl := h.1
  obtain ⟨b, off, hA', _, _, hc⟩ := h.2 (by omega)
  rw [hA] at hA'
  injection hA' with hA'
  subst hA'
  rw [Addr.add_lit, hc j (by omega)]
  simp at hu
  obtain ⟨z, hz, rfl⟩ := hu
  simp [List.getD, hz]
theorem ints_one (k : IntKind) (zs : List Int) : ∀ u ∈ zs.map (Value.int k), u.oneCell' = true := by
  intro u hu
  obtain ⟨z, _, rfl⟩ := List.mem_map.1 hu
  rfl
theorem Nums.of_copied {k : IntKind} {F : Nat → Prop} {w w' : World} {e : TypeId} {A : Option Addr} {n c : Nat} {zs : List Int} (h : Copied w w' e A n c (zs.map (Value.int k))) (hF : ∀ i, F i → i < w.heap.size) : Nums k F w' A n zs := by
  by_cases hn : n = 0
  · subst hn
    have hl : zs = [] := by have := h.own.1; simp at this; exact List.length_eq_zero_iff.1 (by simpa using this)
    subst hl
    exact Nums.nil _ _ _ _
  · have hA := h.at_ (by omega)
    have ho := h.own
    subst hA
    exact Nums.own ho (fun hf => by have := hF _ hf; omega)

set_option maxRecDepth 100000 in
set_option maxHeartbeats 1000000 in
theorem same32_yes (A A' : Option Addr) (n c c' : Nat) (zs : List Int) (w : World) (hx : Nums .u32 Nil w A n zs) (hy : Nums .u32 Nil w A' n zs) (hn : n ≤ 140737488355328) :
    Calls Try.prog 31 #[.slice A n c, .slice A' n c'] w fun e w' => e = .returned (.bool true) ∧ Qt w w' := by
  have HX := hid hx
  have HY := hid hy
  clear hx hy
  go_enter Try.func31, Try.ntmps31
  go_wp2
  go_loopw [5] (fun i wr => ∃ k : Nat, k ≤ n ∧ i = .int .i64 k ∧ Qt w wr) (fun i _ => n - (intOf i).toNat)
  case atStart => exact ⟨0, Nat.zero_le _, rfl, 0, rfl⟩
  case round =>
    obtain ⟨k, hk, rfl, hq⟩ := hrel
    by_cases hlt : k < n
    · obtain ⟨b, off, hA, hbl, _, hc⟩ := HX.out.2 (by omega)
      obtain ⟨b', off', hA', hbl', _, hc'⟩ := HY.out.2 (by omega)
      subst hA hA'
      obtain ⟨z, hz⟩ : ∃ z, z = zs.getD k 0 := ⟨_, rfl⟩
      have c1 : wr.cell? ⟨b, off + k, none⟩ = some (.int .u32 z) := by obtain ⟨q, rfl⟩ := hq; rw [hz]; exact hc k hlt
      have c2 : wr.cell? ⟨b', off' + k, none⟩ = some (.int .u32 z) := by obtain ⟨q, rfl⟩ := hq; rw [hz]; exact hc' k hlt
      clear hz hc hc'
      have HQ := hid hq
      clear hq
      go_wp2_with fail
      go_quiet (fail)
      go_wp2
      go_roundw
      case rel => exact ⟨k + 1, by omega, by go_num, by obtain ⟨q, rfl⟩ := HQ.out; exact ⟨_, World.drewN_drewN ..⟩⟩
      case measure => simp [intOf]; omega
    · have : k = n := by omega
      subst this
      go_wp2
      go_ret
      exact ⟨rfl, hq⟩
end Go.Proofs.Ytbmamikhjfieoaa
