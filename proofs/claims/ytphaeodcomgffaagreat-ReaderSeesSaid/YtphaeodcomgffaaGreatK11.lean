import Derived.Test.YtphaeodcomgffaaGreatK3
set_option linter.unusedVariables false
set_option linter.unusedSimpArgs false
namespace Go.Proofs.YtphaeodcomgffaaGreat
open Go.RowKit

def inOp (op : Int) : Prop := 1 ≤ op ∧ op ≤ 20
instance (op : Int) : Decidable (inOp op) := inferInstanceAs (Decidable (_ ∧ _))
def effT (op : Int) : Int := if inOp op then (rowAt op).2.2.1 else 0
def effL (op : Int) : Int := if inOp op then (rowAt op).2.2.2 else 0
def effE (op : Int) : Int := if inOp op then 0 else 1

set_option maxRecDepth 100000 in
set_option maxHeartbeats 1000000 in
/-- code.Effect. -/
theorem effect_walk (op : Int) (w : World) : Calls Tryz.prog 161 #[.int .i64 op] w fun e w' => e = .returned (.tuple #[.int .i64 (effT op), .int .i64 (effL op), .int .i64 (effE op)]) ∧ Below w.heap.size w w' := by
  unfold effT effL effE
  by_cases h : inOp op
  case neg =>
    rw [if_neg h, if_neg h, if_neg h]
    unfold inOp at h
    rcases (by omega : op ≤ 0 ∨ 20 < op) with h1 | h1
    · go_enter Tryz.func161, Tryz.ntmps161
      go_wp2
      go_ret3
      exact ⟨rfl, Below.refl _ _⟩
    · have h2 : ¬ op ≤ 0 := by omega
      go_enter Tryz.func161, Tryz.ntmps161
      go_wp2
      go_ret3
      exact ⟨rfl, Below.refl _ _⟩
  rw [if_pos h, if_pos h, if_pos h]
  obtain ⟨h1, h2⟩ := h
  have h1' : ¬ op ≤ 0 := by omega
  have h2' : ¬ 20 < op := by omega
  have ix := idx_rows op (by omega) (by omega)
  go_enter Tryz.func161, Tryz.ntmps161
  go_wp2_with (go_at_call 202; refine (rows_walk _).mono ?_; rintro e w1 ⟨rfl, b1⟩; have C1 := Lib.hid (Chg.of_below (S := []) b1); clear b1)
  go_region
  all_goals go_wp2
  all_goals go_ret3
  all_goals exact ⟨rfl, below_of_chg (by first | exact C1.out.alloc _ | exact (C1.out.alloc _).drew)⟩
end Go.Proofs.YtphaeodcomgffaaGreat
