/-
  append OF ANY OTHER SLICE (nil or not) TO A ROW OF ONE'S OWN, as one law of the walk.
-/
import Derived.Test.YtbmamikhjfieoaaHp
namespace Go.Proofs.Ytbmamikhjfieoaa
open Go.RowKit

theorem own_nil {w : World} {B e size n m c : Nat} {A : Option Addr} {xs : List Value} (h : w.ownsRow B e size (.slice A m c) n xs) (hA : A = none) : m = 0 ∧ c = 0 := by
  subst hA
  rcases h.2 with ⟨hv, _⟩ | ⟨g, cap, cur, hv, _⟩
  · injection hv with _ hm hc; exact ⟨hm, hc⟩
  · injection hv with hA; cases hA

theorem wpList_append_both {P : Program} {w : World} {ops : Array Oper} {rest : List Oper} {o : Oper} {a : Act} {Q : Exit → Act → World → Prop} (hgd : o.guard = none) (s x : Operand) (t : TypeId)
    (ho : o.op = .call { callee := .builtin .append, args := #[s, x], argTypes := #[t, t] })
    (base : Nat) (e : TypeId) (i : TypeInfo) (z : Value) (bytes : Nat) (ht : P.underlying t = some (.slice e)) (hi : P.info? e = some i) (hz : i.zero = some z)
    (hsize : i.size = 1) (hby : i.bytes = bytes) (hzs : z.cells.size = 1)
    (v : Value) (n : Nat) (xs : List Value) (hs : a.eval s = v) (hown : w.ownsRow base e 1 v n xs)
    (A : Option Addr) (m c : Nat) (news : List Value) (hx : a.eval x = .slice A m c) (hnil : A = none → m = 0 ∧ c = 0) (hl : news.length = m) (hnews : ∀ ad, A = some ad → ∀ j u, news[j]? = some u → w.cell? (ad.add j) = some u) (h1 : ∀ u ∈ news, u.oneCell' = true)
    (h63 : n + m ≤ maxLen) (hbytes : (n + m) * bytes ≤ 140737488355328) (hbase : base ≤ w.heap.size)
    (h : ∀ v' w', w'.ownsRow base e 1 v' (n + m) (xs ++ news) → Chg (fun k => v.ownBlock = some k) w w' → wpList P ops Q rest (a.put o.dst v') w') : wpList P ops Q (o :: rest) a w := by
  cases A with
  | none =>
    obtain ⟨rfl, rfl⟩ := hnil rfl
    obtain rfl : news = [] := List.length_eq_zero_iff.1 hl
    refine wpList_append_own_none hgd s x t ho base e i 1 ht hi v n xs hs hown hx ?_
    exact h v w (by simpa using hown) (Chg.refl _ w)
  | some ad =>
    refine wpList_append_own w hgd s x t ho base e i z 1 bytes ht hi hz hsize hby hzs (by decide) v n xs hs hown ad m c news hx (by simpa using hl) (hnews ad rfl) h1 h63 hbytes hbase ?_
    intro v' w' hown' hg _
    exact h v' w' hown' ((Chg.refl _ w).grown hg (fun k hk => .inl hk))
end Go.Proofs.Ytbmamikhjfieoaa
namespace Go.Proofs.Ytbmamikhjfieoaa
theorem contains_snoc (l : List Nat) (z y : Nat) : (l ++ [z]).contains y = (l.contains y || (z == y)) := by
  rw [Bool.eq_iff_iff, List.contains_iff_mem, Bool.or_eq_true, List.contains_iff_mem, beq_iff_eq, List.mem_append, List.mem_singleton]
  exact ⟨fun h => h.imp id Eq.symm, fun h => h.imp id Eq.symm⟩
end Go.Proofs.Ytbmamikhjfieoaa
