import Derived.Test.YtjlnhifleepnoaaDoorO2
import Derived.Test.YtjlnhifleepnoaaDoorK5
set_option linter.unusedVariables false
set_option linter.unusedSimpArgs false
namespace Go.Proofs.YtjlnhifleepnoaaDoor
open Go.RowKit

/-- A lent copy: the row reads as the instructions, and behind them stand the two marks. -/
structure Lent (w : World) (B g n cap : Nat) (l : List Ins) : Prop where
  own : OwnC w B (.slice (some ⟨g, 0, none⟩) (n + 2) cap) (l ++ [⟨77, 0, 0⟩, ⟨78, 0, 0⟩])
  len : n = l.length
theorem Lent.keep {w w' : World} {B g n cap : Nat} {l : List Ins} (h : Lent w B g n cap l) (c : Chg [] w w') : Lent w' B g n cap l := ⟨h.own.keep0 c, h.len⟩
theorem Lent.row {w : World} {B g n cap : Nat} {l : List Ins} (h : Lent w B g n cap l) : w.ownsRow B 41 3 (.slice (some ⟨g, 0, none⟩) (n + 2) cap) (n + 2) (flat (l ++ [⟨77, 0, 0⟩, ⟨78, 0, 0⟩])) := by
  have e : (l ++ [⟨77, 0, 0⟩, ⟨78, 0, 0⟩] : List Ins).length = n + 2 := by rw [h.len]; simp
  rw [← e]
  have := h.own
  rwa [← e] at this
theorem Lent.cap {w : World} {B g n cap : Nat} {l : List Ins} (h : Lent w B g n cap l) : n + 2 ≤ cap := own_cap h.row
theorem Lent.cell {w : World} {B g n cap : Nat} {l : List Ins} (h : Lent w B g n cap l) (j : Nat) (hj : j < (n + 2) * 3) : w.cell? ⟨g, j, none⟩ = (flat (l ++ [⟨77, 0, 0⟩, ⟨78, 0, 0⟩]))[j]? := h.row.cellAt j hj
theorem Lent.rd {w : World} {B g n cap : Nat} {l : List Ins} (h : Lent w B g n cap l) : RdC w (.slice (some ⟨g, 0, none⟩) n cap) l := by
  rcases Nat.eq_zero_or_pos n with h0 | h0
  · have hl : l = [] := List.eq_nil_of_length_eq_zero (by rw [← h.len]; exact h0)
    subst hl h0
    exact .inl ⟨rfl, .inr ⟨_, _, rfl⟩⟩
  · refine .inr ⟨g, 0, cap, by rw [List.length_map, ← h.len], by rw [List.length_map, ← h.len]; exact h0, (h.own.blk g rfl).2, fun i j hi hj => ?_⟩
    have hi' : i < l.length := by simpa using hi
    rw [Nat.zero_add, h.cell (i * 3 + j) (by rw [h.len]; omega), flat_app, List.getElem?_append_left (by rw [flat_len]; omega), flat_at l i j hi' hj]
theorem Lent.m0 {w : World} {B g n cap : Nat} {l : List Ins} (h : Lent w B g n cap l) : w.cell? ⟨g, n * 3, none⟩ = some (.int .i64 77) := by
  rw [h.cell _ (by omega), flat_app, List.getElem?_append_right (by rw [flat_len, h.len]; omega), flat_len, h.len, Nat.sub_self]
  rfl
theorem Lent.m1 {w : World} {B g n cap : Nat} {l : List Ins} (h : Lent w B g n cap l) : w.cell? ⟨g, (n + 1) * 3, none⟩ = some (.int .i64 78) := by
  rw [h.cell _ (by omega), flat_app, List.getElem?_append_right (by rw [flat_len, h.len]; omega), flat_len, h.len, show (l.length + 1) * 3 - l.length * 3 = 3 by omega]
  rfl

theorem sameP_refl (t : Int) (l : List Ins) : SameP t t l l := ⟨rfl, rfl, fun _ _ _ => ⟨rfl, rfl, rfl⟩⟩

set_option maxRecDepth 100000 in
set_option maxHeartbeats 2000000 in
theorem still_walk (tag : Int) (B g n cap : Nat) (sl : Value) (l : List Ins) (w : World) (h : Lent w B g n cap l) (hr : RdC w sl l) (hlen : l.length * 24 ≤ 140737488351232) : Calls Tryd.prog 13 #[.agg #[.int .i64 tag, .slice (some ⟨g, 0, none⟩) n cap], .agg #[.int .i64 tag, sl]] w fun e w' => e = .returned (.bool true) ∧ Below w.heap.size w w' := by
  obtain ⟨a, c, rfl⟩ := hr.slice
  have hn := h.len
  rw [← hn] at hr hlen ⊢
  have HL := Lib.hid h
  have RD := Lib.hid hr
  have hcap := h.cap
  have hc1 : (n : Int) + 2 ≤ cap := by omega
  have hc2 : n + 2 ≤ cap := hcap
  have hlt := (h.own.blk g rfl).2
  have HN := Lib.hid hn
  clear h hr hcap hn
  have hw2 : IntKind.i64.wrap ((n : Int) + 2) = (n : Int) + 2 := by rw [IntKind.wrap_i64]; omega
  have hw1 : IntKind.i64.wrap ((n : Int) + 1) = (n : Int) + 1 := by rw [IntKind.wrap_i64]; omega
  go_enter Tryd.func13, Tryd.ntmps13
  go_wp2_with (go_at_call 17; refine (rsame_walk tag tag _ _ l l _ true (HL.out.keep ((Chg.refl [] _).alloc _ |>.alloc _)).rd (RD.out.keep0 ((Chg.refl [] _).alloc _ |>.alloc _)) (by have := HN.out; omega) ⟨fun _ => sameP_refl _ _, fun _ => rfl⟩).mono ?_; rintro e w1 ⟨rfl, b1⟩
               have C1 := Lib.hid ((((Chg.refl [] w).alloc _).alloc _).trans (Chg.of_below b1))
               have m0 := (HL.out.keep C1.out).m0
               have m1 := (HL.out.keep C1.out).m1
               have Y2 := Lib.hid (xrow b1)
               have d0 := cell_of_row _ _ 0 _ _ _ Y2.out
               have d1 := cell_of_row _ _ 1 _ _ _ Y2.out
               clear b1)
  go_ret
  exact ⟨rfl, below_of_chg C1.out⟩
end Go.Proofs.YtjlnhifleepnoaaDoor
