/-
  WHAT A SLICE OF BYTES AMONG THE ARGUMENTS GIVES THE WALK ('ByArg'); the two closed facts on the program. No conditions.
-/
import Derived.Test.YtkdggpjlafecgaaRows
import Derived.Test.YtkdggpjlafecgaaMem
import Derived.WalkKit
import Derived.ProofKit
import Derived.OpenShut
import Derived.ChangeOld
import Derived.SizedLaws
namespace Go.Proofs.Ytkdggpjlafecgaa
open Go.ChangeShapes Go.WideShapes Go.ChangeAt Go.RowKit

theorem own : ownKnob Try.prog.godebug = none := by kernel_rfl
theorem laidOut : laidOutB Try.prog = true := by kernel_rfl
theorem bytesE : Try.prog.bytesOf 5 = 1 := by kernel_rfl

def ByArg (w : World) (a : Option Addr) (n cap : Nat) (zs : List Int) : Prop := Byt w a n zs ∧ n ≤ cap ∧ cap ≤ 140737488351232 ∧ (a = none → cap = 0)
theorem ByArg.nil (w : World) : ByArg w none 0 0 [] := ⟨Byt.nil _ _, Nat.le_refl _, by omega, fun _ => rfl⟩
theorem ByArg.of_cells {w : World} {x : Addr} {len cap : Nat} {zs : List Int} (hl : len ≤ cap) (hz : zs.length = cap) (hcell : ∀ i, i < zs.length → w.cell? (x.add i) = some (.int .u8 (zs.getD i 0)))
    (hw : ∀ n ∈ zs, (Lit.int .u8 n).wf = true) (hb : min len zs.length + (zs.length - len) ≤ 140737488351232) : ByArg w (some x) len cap (zs.take len) := by
  refine ⟨?_, hl, by omega, fun h => by cases h⟩
  rcases Nat.eq_zero_or_pos len with rfl | hp
  · simpa using Byt.nil w (some x)
  · have h0 := hcell 0 (by omega)
    obtain ⟨b, off, spot⟩ := x
    have hspot : spot = none := by simpa [Addr.add] using World.cell?_spot h0
    subst hspot
    have hbl : b < w.heap.size := by have := World.block_lt_of_cell? w _ h0; simpa [Addr.add_lit] using this
    refine ⟨by simp; omega, fun j hj => ?_, fun _ => ⟨b, off, rfl, hbl, fun j hj => ?_⟩⟩
    · have e : (zs.take len).getD j 0 = zs[j]'(by omega) := by simp [List.getD, hj, show j < zs.length by omega]
      rw [e]
      exact bounds_u8 (hw _ (List.getElem_mem _))
    · have := hcell j (by omega)
      rw [Addr.add_lit] at this
      rw [this]
      simp [List.getD, hj]
end Go.Proofs.Ytkdggpjlafecgaa
