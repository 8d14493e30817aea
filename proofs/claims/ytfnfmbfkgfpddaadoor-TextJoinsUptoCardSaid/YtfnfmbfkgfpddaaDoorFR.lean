import Derived.Test.YtfnfmbfkgfpddaaDoorCards
import Derived.Test.YtfnfmbfkgfpddaaDoorTie
import Derived.Test.YtfnfmbfkgfpddaaDoorC5
import Derived.ProofKit
import Derived.OpenShut
import Derived.LaidMore
import Derived.SizedLaws
import Derived.ChangeMaps5
import Derived.Stop.LaidErr
import Derived.Lib.LaidTab
import Derived.Deep.DeepHandedRow
import Derived.Deep.DeepWitnessRowRef
set_option linter.unusedVariables false
set_option linter.unusedSimpArgs false
namespace Go.Proofs.YtfnfmbfkgfpddaaDoor
open Go.ChangeShapes Go.WideShapes Go.ChangeAt Go.RowKit
open Go.ChangeMaps (open_string shut_string)

theorem own : ownKnob Tryd.prog.godebug = none := by kernel_rfl
theorem gES : Tryd.prog.globalNamed "strconv.ErrSyntax" = some 1 := by kernel_rfl
theorem gESType : (Tryd.prog.globals[1]?).map (·.type) = some 44 := by kernel_rfl
theorem gER : Tryd.prog.globalNamed "strconv.ErrRange" = some 2 := by kernel_rfl
theorem gERType : (Tryd.prog.globals[2]?).map (·.type) = some 44 := by kernel_rfl
theorem gP10 : Tryd.prog.globalNamed "internal/strconv.uint64pow10" = some 3 := by kernel_rfl
theorem gP10Type : (Tryd.prog.globals[3]?).map (·.type) = some 95 := by kernel_rfl
theorem gB64 : Tryd.prog.globalNamed "math/bits.deBruijn64tab" = some 6 := by kernel_rfl
theorem gB64Type : (Tryd.prog.globals[6]?).map (·.type) = some 107 := by kernel_rfl
theorem cells104 : Tryd.prog.cellsOf 104 = 1 := by kernel_rfl
theorem cells9 : Tryd.prog.cellsOf 9 = 1 := by kernel_rfl
theorem star : "*" ++ "errors.errorString" = "*errors.errorString" := by decide
theorem row102 (u : TypeId) (h : Tryd.prog.typeName? 3 u = some "*errors.errorString") : u = 102 :=
  typeName_ptr_named (nm := "errors.errorString") (by rw [star]; kernel_rfl) (by kernel_rfl) (by decide) u (by rw [star]; exact h)

/-- What the row's list gives. -/
theorem of_laid {W : World} (h : laidMetH Tryd.prog Rows.textNumbersRow.laid W) : Laid W := by
  rw [MakeChecks.laidMetH_plain _ _ _ (by kernel_rfl)] at h
  have h0 : laidMet Tryd.prog (("math/bits.deBruijn32tab", Rows.laid_math_bits_deBruijn32tab) :: ("math/bits.deBruijn64tab", Lib.tabData .u8 [0, 1, 56, 2, 57, 49, 28, 3, 61, 58, 42, 50, 38, 29, 17, 4, 62, 47, 59, 36, 45, 43, 51, 22, 53, 39, 33, 30, 24, 18, 12, 5, 63, 55, 48, 27, 60, 41, 37, 16, 46, 35, 44, 21, 52, 32, 23, 11, 54, 26, 40, 15, 34, 20, 31, 10, 25, 14, 19, 9, 13, 8, 7, 6]) :: ("internal/strconv.uint64pow10", Lib.tabData .u64 Lib.pow10Tab) :: ("strconv.ErrRange", .iface "*errors.errorString" (.ptr (.agg [.lit (.string [118, 97, 108, 117, 101, 32, 111, 117, 116, 32, 111, 102, 32, 114, 97, 110, 103, 101])]))) :: ("strconv.ErrSyntax", .iface "*errors.errorString" (.ptr (.agg [.lit (.string [105, 110, 118, 97, 108, 105, 100, 32, 115, 121, 110, 116, 97, 120])]))) :: []) W := h
  have t64 := Lib.tabIs_of_head gB64 gB64Type Tryd.underlying107 Tryd.underlying5 (by kernel_rfl) (by kernel_rfl) h0.tail
  have tp := Lib.tabIs_of_head gP10 gP10Type Tryd.underlying95 Tryd.underlying28 (by kernel_rfl) (by kernel_rfl) h0.tail.tail
  obtain ⟨a1, s1, hv1, -, -, -⟩ := laid_sentinel h0.tail.tail.tail gER gERType Tryd.underlying44 row102 Tryd.underlying102 Tryd.underlying104 rfl rfl Tryd.underlying9 cells104 cells9
  obtain ⟨a0, s0, hv0, -, -, -⟩ := laid_sentinel h0.tail.tail.tail.tail gES gESType Tryd.underlying44 row102 Tryd.underlying102 Tryd.underlying104 rfl rfl Tryd.underlying9 cells104 cells9
  refine ⟨t64.cell gB64 15 (by decide), tp, ?_, ?_⟩
  · exact ⟨_, _, by have h0 := World.var?_cell gES hv0 0; simpa using h0⟩
  · exact ⟨_, _, by have h0 := World.var?_cell gER hv1 0; simpa using h0⟩

theorem door_met (os : Os) (args : Array Value) : laidMetH Tryd.prog Rows.textNumbersRow.laid ((World.doorLaid Tryd.prog 400 os).forCall (fun _ _ => 0) ⟨#[], args, []⟩).memory := by
  rw [MakeChecks.laidMetH_plain _ _ _ (by kernel_rfl)]
  exact laidMet_of_run' 8 (by kernel_rfl) (by kernel_rfl)

theorem u64_nat {k : Int} (h : (Lit.int .u64 k).wf = true) : ∃ a : Nat, k = (a : Int) ∧ a < 18446744073709551616 := by
  simp only [Lit.wf, Bool.and_eq_true, decide_eq_true_eq] at h
  have h1 : IntKind.min .u64 = 0 := rfl
  have h2 : IntKind.max .u64 = 18446744073709551615 := rfl
  exact ⟨k.toNat, by omega, by omega⟩
theorem string_fit {s : ByteArray} (h : s.data.toList.length ≤ reachBytes) : s.size ≤ 281474976710656 := by
  have h2 := reachBytes_lt
  have e1 : s.size = s.data.toList.length := Lib.size_eq s
  have e3 : (2 : Nat) ^ 47 = 140737488355328 := by decide
  omega
end Go.Proofs.YtfnfmbfkgfpddaaDoor
