import Derived.Test.YtphaeodcomgffaaGreatK11
set_option linter.unusedVariables false
set_option linter.unusedSimpArgs false
namespace Go.Proofs.YtphaeodcomgffaaGreat
open Go.RowKit

/-- The cells of the document's table. -/
def drowsC : Array Value := #[.string ⟨#[]⟩, .int .i64 (0), .int .i64 (0), .int .i64 0, .int .i64 0, .string ⟨#[112, 117, 115, 104]⟩, .int .i64 (0), .int .i64 (0), .int .i64 0, .int .i64 1, .string ⟨#[100, 114, 111, 112]⟩, .int .i64 (0), .int .i64 (0), .int .i64 1, .int .i64 0, .string ⟨#[100, 117, 112]⟩, .int .i64 (0), .int .i64 (0), .int .i64 1, .int .i64 2, .string ⟨#[115, 119, 97, 112]⟩, .int .i64 (0), .int .i64 (0), .int .i64 2, .int .i64 2, .string ⟨#[112, 105, 99, 107]⟩, .int .i64 (0), .int .i64 (63), .int .i64 0, .int .i64 1, .string ⟨#[97, 114, 103]⟩, .int .i64 (0), .int .i64 (7), .int .i64 0, .int .i64 1, .string ⟨#[103, 101, 116]⟩, .int .i64 (0), .int .i64 (7), .int .i64 0, .int .i64 1, .string ⟨#[115, 101, 116]⟩, .int .i64 (0), .int .i64 (7), .int .i64 1, .int .i64 0, .string ⟨#[]⟩, .int .i64 (1), .int .i64 (8), .int .i64 1, .int .i64 1, .string ⟨#[]⟩, .int .i64 (1), .int .i64 (12), .int .i64 2, .int .i64 1, .string ⟨#[106, 117, 109, 112]⟩, .int .i64 (-1), .int .i64 (-1), .int .i64 0, .int .i64 0, .string ⟨#[105, 102]⟩, .int .i64 (-1), .int .i64 (-1), .int .i64 1, .int .i64 0, .string ⟨#[117, 110, 108, 101, 115, 115]⟩, .int .i64 (-1), .int .i64 (-1), .int .i64 1, .int .i64 0, .string ⟨#[99, 97, 108, 108]⟩, .int .i64 (-1), .int .i64 (-1), .int .i64 0, .int .i64 0, .string ⟨#[114, 101, 116]⟩, .int .i64 (0), .int .i64 (0), .int .i64 0, .int .i64 0, .string ⟨#[114, 101, 97, 100]⟩, .int .i64 (0), .int .i64 (0), .int .i64 1, .int .i64 1, .string ⟨#[119, 114, 105, 116, 101]⟩, .int .i64 (0), .int .i64 (0), .int .i64 2, .int .i64 0, .string ⟨#[101, 109, 105, 116]⟩, .int .i64 (0), .int .i64 (0), .int .i64 1, .int .i64 0, .string ⟨#[97, 98, 111, 114, 116]⟩, .int .i64 (0), .int .i64 (99), .int .i64 0, .int .i64 0, .string ⟨#[104, 97, 108, 116]⟩, .int .i64 (0), .int .i64 (0), .int .i64 0, .int .i64 0]
/-- The least and the greatest number of an operation; -1: a place. -/
def loHi : List (Int × Int) := [(0, 0), (0, 0), (0, 0), (0, 0), (0, 0), (0, 63), (0, 7), (0, 7), (0, 7), (1, 8), (1, 12), (-1, -1), (-1, -1), (-1, -1), (-1, -1), (0, 0), (0, 0), (0, 0), (0, 0), (0, 99), (0, 0)]
def lhAt (op : Int) : Int × Int := loHi.getD op.toNat (0, 0)

set_option maxRecDepth 100000 in
set_option maxHeartbeats 4000000 in
theorem drows_walk (w : World) : Calls Tryz.prog 177 #[] w fun e w' => e = .returned (.slice (some ⟨w.heap.size, 0, none⟩) 21 21) ∧ ∃ T, w' = w.alloc (.cells drowsC T) := by
  go_enter Tryz.func177, Tryz.ntmps177
  go_wp2
  go_ret
  exact ⟨rfl, _, rfl⟩
theorem dcell (i : Nat) (hi : i < 21) : drowsC[i * 5]? = some (.string ⟨(rowAt (i : Int)).1.toArray⟩) ∧ drowsC[i * 5 + 1]? = some (.int .i64 (lhAt (i : Int)).1) ∧ drowsC[i * 5 + 2]? = some (.int .i64 (lhAt (i : Int)).2) ∧ drowsC[i * 5 + 3]? = some (.int .i64 (rowAt (i : Int)).2.2.1) ∧ drowsC[i * 5 + 4]? = some (.int .i64 (rowAt (i : Int)).2.2.2) := by
  rcases (by omega : i = 0 ∨ i = 1 ∨ i = 2 ∨ i = 3 ∨ i = 4 ∨ i = 5 ∨ i = 6 ∨ i = 7 ∨ i = 8 ∨ i = 9 ∨ i = 10 ∨ i = 11 ∨ i = 12 ∨ i = 13 ∨ i = 14 ∨ i = 15 ∨ i = 16 ∨ i = 17 ∨ i = 18 ∨ i = 19 ∨ i = 20) with rfl | rfl | rfl | rfl | rfl | rfl | rfl | rfl | rfl | rfl | rfl | rfl | rfl | rfl | rfl | rfl | rfl | rfl | rfl | rfl | rfl <;> exact ⟨rfl, rfl, rfl, rfl, rfl⟩
theorem dcell_at (w : World) (T : TypeId) (i : Nat) (hi : i < 21) : (w.alloc (.cells drowsC T)).cell? ⟨w.heap.size, i * 5, none⟩ = some (.string ⟨(rowAt (i : Int)).1.toArray⟩) ∧ (w.alloc (.cells drowsC T)).cell? ⟨w.heap.size, i * 5 + 1, none⟩ = some (.int .i64 (lhAt (i : Int)).1) ∧ (w.alloc (.cells drowsC T)).cell? ⟨w.heap.size, i * 5 + 2, none⟩ = some (.int .i64 (lhAt (i : Int)).2) ∧ (w.alloc (.cells drowsC T)).cell? ⟨w.heap.size, i * 5 + 3, none⟩ = some (.int .i64 (rowAt (i : Int)).2.2.1) ∧ (w.alloc (.cells drowsC T)).cell? ⟨w.heap.size, i * 5 + 4, none⟩ = some (.int .i64 (rowAt (i : Int)).2.2.2) := by
  have g := fun j => cell_of_row (w.alloc (.cells drowsC T)) w.heap.size j _ _ _ (heap_alloc_new w (.cells drowsC T))
  obtain ⟨a, b, c, d, e⟩ := dcell i hi
  exact ⟨(g _).trans a, (g _).trans b, (g _).trans c, (g _).trans d, (g _).trans e⟩

set_option maxRecDepth 100000 in
set_option maxHeartbeats 1000000 in
/-- The document's Effect. -/
theorem reffect_walk (op : Int) (w : World) : Calls Tryz.prog 141 #[.int .i64 op] w fun e w' => e = .returned (.tuple #[.int .i64 (effT op), .int .i64 (effL op), .int .i64 (effE op)]) ∧ Below w.heap.size w w' := by
  unfold effT effL effE
  by_cases h : inOp op
  case neg =>
    rw [if_neg h, if_neg h, if_neg h]
    unfold inOp at h
    rcases (by omega : op < 1 ∨ 20 < op) with h1 | h1
    · go_enter Tryz.func141, Tryz.ntmps141
      go_wp2
      go_ret3
      exact ⟨rfl, Below.refl _ _⟩
    · have h2 : ¬ op < 1 := by omega
      go_enter Tryz.func141, Tryz.ntmps141
      go_wp2
      go_ret3
      exact ⟨rfl, Below.refl _ _⟩
  rw [if_pos h, if_pos h, if_pos h]
  obtain ⟨h1, h2⟩ := h
  obtain ⟨i, rfl⟩ : ∃ i : Nat, op = (i : Int) := ⟨op.toNat, by omega⟩
  have h1' : ¬ (i : Int) < 1 := by omega
  have h2' : ¬ (20 : Int) < i := by omega
  have h3' : (i : Int) < 21 := by omega
  go_enter Tryz.func141, Tryz.ntmps141
  go_wp2_with (go_at_call 177; refine (drows_walk _).mono ?_; rintro e w1 ⟨rfl, T, hT⟩; obtain ⟨d0, d1, d2, d3, d4⟩ := dcell_at w T i (by omega); rw [← hT] at d0 d1 d2 d3 d4; have C1 := Lib.hid (show Chg [] w w1 from (by subst hT; exact (Chg.refl _ _).alloc _)); clear hT)
  go_region
  all_goals go_wp2
  all_goals go_ret3
  all_goals exact ⟨rfl, below_of_chg (by first | exact C1.out.alloc _ | exact (C1.out.alloc _).drew)⟩
end Go.Proofs.YtphaeodcomgffaaGreat
