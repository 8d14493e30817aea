import Derived.Test.YtjlnhifleepnoaaGreatDoorK11
set_option linter.unusedVariables false
set_option linter.unusedSimpArgs false
namespace Go.Proofs.YtjlnhifleepnoaaGreatDoor
open Go.RowKit

/-- The cells of the document's table. -/
def drowsC : Array Value := #[.string ⟨#[]⟩, .int .i64 (0), .int .i64 (0), .int .i64 0, .int .i64 0, .string ⟨#[112, 117, 115, 104]⟩, .int .i64 (0), .int .i64 (0), .int .i64 0, .int .i64 1, .string ⟨#[100, 114, 111, 112]⟩, .int .i64 (0), .int .i64 (0), .int .i64 1, .int .i64 0, .string ⟨#[100, 117, 112]⟩, .int .i64 (0), .int .i64 (0), .int .i64 1, .int .i64 2, .string ⟨#[115, 119, 97, 112]⟩, .int .i64 (0), .int .i64 (0), .int .i64 2, .int .i64 2, .string ⟨#[112, 105, 99, 107]⟩, .int .i64 (0), .int .i64 (63), .int .i64 0, .int .i64 1, .string ⟨#[97, 114, 103]⟩, .int .i64 (0), .int .i64 (7), .int .i64 0, .int .i64 1, .string ⟨#[103, 101, 116]⟩, .int .i64 (0), .int .i64 (7), .int .i64 0, .int .i64 1, .string ⟨#[115, 101, 116]⟩, .int .i64 (0), .int .i64 (7), .int .i64 1, .int .i64 0, .string ⟨#[]⟩, .int .i64 (1), .int .i64 (8), .int .i64 1, .int .i64 1, .string ⟨#[]⟩, .int .i64 (1), .int .i64 (12), .int .i64 2, .int .i64 1, .string ⟨#[106, 117, 109, 112]⟩, .int .i64 (-1), .int .i64 (-1), .int .i64 0, .int .i64 0, .string ⟨#[105, 102]⟩, .int .i64 (-1), .int .i64 (-1), .int .i64 1, .int .i64 0, .string ⟨#[117, 110, 108, 101, 115, 115]⟩, .int .i64 (-1), .int .i64 (-1), .int .i64 1, .int .i64 0, .string ⟨#[99, 97, 108, 108]⟩, .int .i64 (-1), .int .i64 (-1), .int .i64 0, .int .i64 0, .string ⟨#[114, 101, 116]⟩, .int .i64 (0), .int .i64 (0), .int .i64 0, .int .i64 0, .string ⟨#[114, 101, 97, 100]⟩, .int .i64 (0), .int .i64 (0), .int .i64 1, .int .i64 1, .string ⟨#[119, 114, 105, 116, 101]⟩, .int .i64 (0), .int .i64 (0), .int .i64 2, .int .i64 0, .string ⟨#[101, 109, 105, 116]⟩, .int .i64 (0), .int .i64 (0), .int .i64 1, .int .i64 0, .string ⟨#[97, 98, 111, 114, 116]⟩, .int .i64 (0), .int .i64 (99), .int .i64 0, .int .i64 0, .string ⟨#[104, 97, 108, 116]⟩, .int .i64 (0), .int .i64 (0), .int .i64 0, .int .i64 0]
/-- The least and the greatest number of an operation; -1: a place. -/
def loHi : List (Int × Int) := [(0, 0), (0, 0), (0, 0), (0, 0), (0, 0), (0, 63), (0, 7), (0, 7), (0, 7), (1, 8), (1, 12), (-1, -1), (-1, -1), (-1, -1), (-1, -1), (0, 0), (0, 0), (0, 0), (0, 0), (0, 99), (0, 0)]
def lhAt (op : Int) : Int × Int := loHi.getD op.toNat (0, 0)

set_option maxRecDepth 100000 in
set_option maxHeartbeats 4000000 in
theorem drows_walk (w : World) : Calls Tryz.prog 29 #[] w fun e w' => e = .returned (.slice (some ⟨w.heap.size, 0, none⟩) 21 21) ∧ ∃ T, w' = w.alloc (.cells drowsC T) := by
  go_enter Tryz.func29, Tryz.ntmps29
  go_wp2
  go_ret
  exact ⟨rfl, _, rfl⟩
theorem dcell (i : Nat) (hi : i < 21) : drowsC[i * 5]? = some (.string ⟨(rowAt (i : Int)).1.toArray⟩) ∧ drowsC[i * 5 + 1]? = some (.int .i64 (lhAt (i : Int)).1) ∧ drowsC[i * 5 + 2]? = some (.int .i64 (lhAt (i : Int)).2) ∧ drowsC[i * 5 + 3]? = some (.int .i64 (rowAt (i : Int)).2.2.1) ∧ drowsC[i * 5 + 4]? = some (.int .i64 (rowAt (i : Int)).2.2.2) := by
  rcases (by omega : i = 0 ∨ i = 1 ∨ i = 2 ∨ i = 3 ∨ i = 4 ∨ i = 5 ∨ i = 6 ∨ i = 7 ∨ i = 8 ∨ i = 9 ∨ i = 10 ∨ i = 11 ∨ i = 12 ∨ i = 13 ∨ i = 14 ∨ i = 15 ∨ i = 16 ∨ i = 17 ∨ i = 18 ∨ i = 19 ∨ i = 20) with rfl | rfl | rfl | rfl | rfl | rfl | rfl | rfl | rfl | rfl | rfl | rfl | rfl | rfl | rfl | rfl | rfl | rfl | rfl | rfl | rfl <;> exact ⟨rfl, rfl, rfl, rfl, rfl⟩
theorem dcell_at (w : World) (T : TypeId) (i : Nat) (hi : i < 21) : (w.alloc (.cells drowsC T)).cell? ⟨w.heap.size, i * 5, none⟩ = some (.string ⟨(rowAt (i : Int)).1.toArray⟩) ∧ (w.alloc (.cells drowsC T)).cell? ⟨w.heap.size, i * 5 + 1, none⟩ = some (.int .i64 (lhAt (i : Int)).1) ∧ (w.alloc (.cells drowsC T)).cell? ⟨w.heap.size, i * 5 + 2, none⟩ = some (.int .i64 (lhAt (i : Int)).2) ∧ (w.alloc (.cells drowsC T)).cell? ⟨w.heap.size, i * 5 + 3, none⟩ = some (.int .i64 (rowAt (i : Int)).2.2.1) ∧ (w.alloc (.cells drowsC T)).cell? ⟨w.heap.size, i * 5 + 4, none⟩ = some (.int .i64 (rowAt (i : Int)).2.2.2) := by
  have g := fun j => cell_of_row (w.alloc (.cells drowsC T)) w.heap.size j _ _ _ (heap_alloc_new w (.cells drowsC T))
  obtain ⟨a, b, c, d, e⟩ := dcell i hi
  exact ⟨(g _).trans a, (g _).trans b, (g _).trans c, (g _).trans d, (g _).trans e⟩

end Go.Proofs.YtjlnhifleepnoaaGreatDoor
