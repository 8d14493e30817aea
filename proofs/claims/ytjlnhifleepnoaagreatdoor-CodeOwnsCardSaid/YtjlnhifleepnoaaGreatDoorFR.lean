import Derived.Test.YtjlnhifleepnoaaGreatDoorCards
import Derived.Test.YtjlnhifleepnoaaGreatDoorTie
import Derived.Test.YtjlnhifleepnoaaGreatDoorK10
import Derived.ProofKit
import Derived.OpenShut
import Derived.LaidMore
import Derived.SizedLaws
import Derived.ChangeMaps5
import Derived.Stop.LaidErr
import Derived.Lib.LaidTab
import Derived.Deep.DeepHandedRow
import Derived.Deep.DeepWitnessRowRef
import Derived.HandedShaped
set_option linter.unusedVariables false
set_option linter.unusedSimpArgs false
namespace Go.Proofs.YtjlnhifleepnoaaGreatDoor
open Go.ChangeShapes Go.WideShapes Go.ChangeAt Go.RowKit
open Go.ChangeMaps (open_string shut_string)

theorem own : ownKnob Tryz.prog.godebug = none := by kernel_rfl
theorem gES : Tryz.prog.globalNamed "strconv.ErrSyntax" = some 3 := by kernel_rfl
theorem gESType : (Tryz.prog.globals[3]?).map (·.type) = some 53 := by kernel_rfl
theorem gER : Tryz.prog.globalNamed "strconv.ErrRange" = some 4 := by kernel_rfl
theorem gERType : (Tryz.prog.globals[4]?).map (·.type) = some 53 := by kernel_rfl
theorem gP10 : Tryz.prog.globalNamed "internal/strconv.uint64pow10" = some 2 := by kernel_rfl
theorem gP10Type : (Tryz.prog.globals[2]?).map (·.type) = some 127 := by kernel_rfl
theorem gB64 : Tryz.prog.globalNamed "math/bits.deBruijn64tab" = some 6 := by kernel_rfl
theorem gB64Type : (Tryz.prog.globals[6]?).map (·.type) = some 141 := by kernel_rfl
theorem cells134 : Tryz.prog.cellsOf 139 = 1 := by kernel_rfl
theorem cells9 : Tryz.prog.cellsOf 9 = 1 := by kernel_rfl
theorem star : "*" ++ "errors.errorString" = "*errors.errorString" := by decide
theorem row132 (u : TypeId) (h : Tryz.prog.typeName? 3 u = some "*errors.errorString") : u = 137 :=
  typeName_ptr_named (nm := "errors.errorString") (by rw [star]; kernel_rfl) (by kernel_rfl) (by decide) u (by rw [star]; exact h)

/-- What the row's list gives, and the world's shape. -/
theorem of_laid {W : World} (h : laidMetH Tryz.prog Rows.codeParsesRow.laid W) (hsh : W.ShapedOpen Tryz.prog) : Laid2 W := by
  obtain ⟨m0, hm⟩ := cell_of_shapedOpen_int (P := Tryz.prog) (g := 1) (t := 3) (zero := #[.int .i64 0]) hsh (of_decide_eq_true (by kernel_rfl)) (by kernel_rfl) rfl (by kernel_rfl) (by kernel_rfl) Tryz.underlying3
  rw [MakeChecks.laidMetH_plain _ _ _ (by kernel_rfl)] at h
  have h0 : laidMet Tryz.prog (("math/bits.deBruijn32tab", Rows.laid_math_bits_deBruijn32tab) :: ("math/bits.deBruijn64tab", Lib.tabData .u8 [0, 1, 56, 2, 57, 49, 28, 3, 61, 58, 42, 50, 38, 29, 17, 4, 62, 47, 59, 36, 45, 43, 51, 22, 53, 39, 33, 30, 24, 18, 12, 5, 63, 55, 48, 27, 60, 41, 37, 16, 46, 35, 44, 21, 52, 32, 23, 11, 54, 26, 40, 15, 34, 20, 31, 10, 25, 14, 19, 9, 13, 8, 7, 6]) :: ("internal/strconv.uint64pow10", Lib.tabData .u64 Lib.pow10Tab) :: ("strconv.ErrRange", Rows.laid_strconv_ErrRange) :: ("strconv.ErrSyntax", Rows.laid_strconv_ErrSyntax) :: []) W := h
  have t64 := Lib.tabIs_of_head gB64 gB64Type Tryz.underlying141 Tryz.underlying5 (by kernel_rfl) (by kernel_rfl) h0.tail
  have tp := Lib.tabIs_of_head gP10 gP10Type Tryz.underlying127 Tryz.underlying46 (by kernel_rfl) (by kernel_rfl) h0.tail.tail
  obtain ⟨a1, s1, hv1, -, -, -⟩ := laid_sentinel h0.tail.tail.tail gER gERType Tryz.underlying53 row132 Tryz.underlying137 Tryz.underlying139 rfl rfl Tryz.underlying9 cells134 cells9
  obtain ⟨a0, s0, hv0, -, -, -⟩ := laid_sentinel h0.tail.tail.tail.tail gES gESType Tryz.underlying53 row132 Tryz.underlying137 Tryz.underlying139 rfl rfl Tryz.underlying9 cells134 cells9
  refine ⟨⟨t64.cell gB64 15 (by decide), tp, ?_, ?_⟩, m0, hm⟩
  · exact ⟨_, _, by have h0 := World.var?_cell gES hv0 0; simpa using h0⟩
  · exact ⟨_, _, by have h0 := World.var?_cell gER hv1 0; simpa using h0⟩

theorem door_met (os : Os) (args : Array Value) : laidMetH Tryz.prog Rows.codeParsesRow.laid ((World.doorLaid Tryz.prog 400 os).forCall (fun _ _ => 0) ⟨#[], args, []⟩).memory := by
  rw [MakeChecks.laidMetH_plain _ _ _ (by kernel_rfl)]
  exact laidMet_of_run' 8 (by kernel_rfl) (by kernel_rfl)

theorem string_fit {s : ByteArray} (h : s.data.toList.length ≤ reachBytes) : s.size ≤ 281474976710656 := by
  have h2 := reachBytes_lt
  have e1 : s.size = s.data.toList.length := Lib.size_eq s
  have e3 : (2 : Nat) ^ 47 = 140737488355328 := by decide
  omega
end Go.Proofs.YtjlnhifleepnoaaGreatDoor
