import Derived.Test.YtjlnhifleepnoaaDoorW2
import Derived.Test.YtjlnhifleepnoaaDoorO1
set_option linter.unusedVariables false
set_option linter.unusedSimpArgs false
namespace Go.Proofs.YtjlnhifleepnoaaDoor
open Go.RowKit

theorem checks (v1 v2 : Value) (w : World) (L : Laid2 w) (i1 : InProg w v1) (i2 : InProg w v2) : Calls Tryd.prog 5 #[v1, v2] w fun e w' => e = .returned (.bool true) ∧ Below w.heap.size w w' := by
  obtain ⟨t1, s1, l1, rfl, r1, _, b1⟩ := i1
  obtain ⟨t2, s2, l2, rfl, r2, _, b2⟩ := i2
  obtain ⟨a1, c1, rfl⟩ := r1.slice
  obtain ⟨a2, c2, rfl⟩ := r2.slice
  exact checks_all t1 t2 a1 a2 _ _ c1 c2 l1 l2 w L r1 r2 rfl rfl b1 b2
end Go.Proofs.YtjlnhifleepnoaaDoor
