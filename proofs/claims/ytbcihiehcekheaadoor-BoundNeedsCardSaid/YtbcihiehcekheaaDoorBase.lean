/-
  What every card of this seat wants: the tables that lie from the start, and a world in which they do.
  Conditions: none.
-/
import Derived.Test.YtbcihiehcekheaaDoorCards
import Derived.Test.YtbcihiehcekheaaDoorTie
import Derived.Test.YtbcihiehcekheaaDoorCtr
import Derived.WalkKit
import Derived.ProofKit
import Derived.OpenShut
import Derived.Deep.DeepHandedRow
import Derived.Lib.LaidTab
import Derived.Stop.Joined
namespace Go.Proofs.YtbcihiehcekheaaDoor
open Go Go.ChangeShapes Go.WideShapes Go.ChangeAt Go.RowKit Go.Evl

theorem own : ownKnob Tryd.prog.godebug = none := by kernel_rfl
theorem laidOut : laidOutB Tryd.prog = true := by kernel_rfl
theorem gPow : Tryd.prog.globalNamed "internal/strconv.uint64pow10" = some 0 := by kernel_rfl
theorem gPowT : (Tryd.prog.globals[0]?).map (·.type) = some 152 := by kernel_rfl
theorem cellsPow : Tryd.prog.cellsOf 152 = 20 := by kernel_rfl
theorem cellsU64 : Tryd.prog.cellsOf 145 = 1 := by kernel_rfl
/-- The listed variables. -/
def laidL : List (String × DataW Unit) := Rows.boundNeedsRow.laid
theorem tabled {W : World} (h : laidMetH Tryd.prog laidL W) : Tabled W := by
  rw [show laidMetH Tryd.prog laidL W ↔ laidMet Tryd.prog laidL W from by rw [MakeChecks.laidMetH_plain _ _ _ (by kernel_rfl)]] at h
  obtain ⟨ps, ⟨_, _, _, _, _, _, _, _, _, _, ⟨_, _, _, _, _, _, _, _, _, _, ⟨g2, t2, cs2, f2, p2, q2, hg2, ht2, hv2, hd2, _, _⟩, _⟩, _⟩, _⟩ := h
  obtain rfl := Option.some.inj (gPow.symm.trans hg2)
  obtain rfl := Option.some.inj (gPowT.symm.trans ht2)
  have hc := Lib.cells_of_tab (zs := (List.range 20).map fun i => ((10 ^ i : Nat) : Int)) Tryd.underlying152 Tryd.underlying145 cellsU64 cellsPow hd2
  intro g cs hg
  unfold laidB at hg
  cases hb : Nat.beq g 0 with
  | false => rw [hb] at hg; cases hg
  | true =>
    rw [hb] at hg
    rw [Nat.eq_of_beq_eq_true hb]
    unfold World.var? at hv2
    rw [gPow] at hv2
    have hcs : cs2 = cs := by
      apply Array.toList_inj.1
      rw [hc, ← Option.some.inj hg]
      simp
    simp only [Option.bind_some] at hv2
    split at hv2
    · rename_i c t fz hh
      cases hv2
      rw [hcs] at hh
      exact ⟨t, fz, hh⟩
    · cases hv2
def valsOf : DataW Unit → Array Value
  | .agg ds => (ds.map fun
    | .lit (.int k n) => Value.int k n
    | _ => .nilFunc).toArray
  | _ => #[]
def fillWith (cs : Array Value) : Obj → Obj
  | .cells _ t frozen => .cells cs t frozen
  | o => o
/-- A world in which the tables lie. -/
noncomputable def laidWorld (os : Os) : World :=
  { World.holding Tryd.prog os ⟨#[], #[], []⟩ with heap := (((World.holding Tryd.prog os ⟨#[], #[], []⟩).heap.modify 0 (fillWith (valsOf Rows.laid_internal_strconv_uint64pow10))).modify 1 (fillWith (valsOf Rows.laid_math_bits_deBruijn32tab))).modify 2 (fillWith (valsOf Rows.laid_math_bits_deBruijn64tab)) }
end Go.Proofs.YtbcihiehcekheaaDoor
