import Derived.Test.YtjlnhifleepnoaaDoorK17
import Derived.Test.YtjlnhifleepnoaaDoorJ2
set_option linter.unusedVariables false
set_option linter.unusedSimpArgs false
namespace Go.Proofs.YtjlnhifleepnoaaDoor
open Go.RowKit

/-- What Parse makes of a text: the tag and the instructions, or the error and its line. -/
def codeS (s : List UInt8) : Except (Int × Int) (Int × List Ins) := if 65536 < s.length then .error (2, 0) else readS s
theorem code_walk (s : List UInt8) (w : World) (L : Laid2 w) : Calls Tryd.prog 18 #[.string (S s)] w (CodePost w (codeS s)) := by
  unfold codeS
  split
  · exact code_long s w (by assumption)
  · exact code_from s w _ (by assumption) fun W b => read_walk s W (L.below b) (by omega)
end Go.Proofs.YtjlnhifleepnoaaDoor
