/-
  What all claims of this seat share: the error variables off a row's list; the closed facts on the program.
-/
import Derived.Test.YtjchfkpcglpgdaaDoorLw
import Derived.Test.YtjchfkpcglpgdaaDoorCards
import Derived.Test.YtjchfkpcglpgdaaDoorTie
import Derived.LaidMore
import Derived.Deep.DeepHandedRow
import Derived.Deep.DeepWitnessRowRef
set_option linter.unusedSimpArgs false
set_option linter.unusedVariables false
namespace Go.Proofs.YtjchfkpcglpgdaaDoor
open Go.ChangeShapes Go.WideShapes Go.ChangeAt Go.RowKit Go.Hp

theorem own_knob : ownKnob Tryd.prog.godebug = none := by kernel_rfl
theorem laidOut : laidOutB Tryd.prog = true := by kernel_rfl
theorem star_es : "*" ++ "errors.errorString" = "*errors.errorString" := by decide
theorem row_es (u : TypeId) (h : Tryd.prog.typeName? 3 u = some "*errors.errorString") : u = 119 :=
  typeName_ptr_named (nm := "errors.errorString") (by rw [star_es]; kernel_rfl) (by kernel_rfl) (by decide) u (by rw [star_es]; exact h)

/-- The listed variables' texts. -/
def textOf : DataW Unit → List UInt8
  | .iface _ (.ptr (.agg [.lit (.string t)])) => t
  | _ => []

theorem errs_of_row {W : World} (l : List (String × DataW Unit)) (G : List Nat) (h : laidMet Tryd.prog l W)
    (hl : (l.map fun x => (x.1, textOf x.2)).map (fun x => (x.1, (.iface "*errors.errorString" (.ptr (.agg [.lit (.string x.2)])) : DataW Unit))) = l)
    (hG : ((l.map fun x => (x.1, textOf x.2)).map fun x => Tryd.prog.globalNamed x.1) = G.map some) (ht : ∀ g ∈ G, (Tryd.prog.globals[g]?).map (·.type) = some 27) : ∃ ads, Errs W 119 G ads := by
  rw [← hl] at h
  exact errs_of_laid (P := Tryd.prog) (nm := "*errors.errorString") Tryd.underlying27 row_es Tryd.underlying119 Tryd.underlying136 rfl rfl Tryd.underlying9 (by kernel_rfl) (by kernel_rfl) _ G hG ht h
end Go.Proofs.YtjchfkpcglpgdaaDoor
