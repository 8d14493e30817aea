import Derived.Test.YtphaeodcomgffaaGreatK1
import Derived.Deep.RegionHeld3
set_option linter.unusedVariables false
set_option linter.unusedSimpArgs false
namespace Go.Proofs.YtphaeodcomgffaaGreat
open Go.RowKit

/-- An instruction: its operation, its number, its float's bits. -/
structure Ins where
  op : Int
  n : Int
  x : Nat
def Ins.v (p : Ins) : Value := .agg #[.int .i64 p.op, .int .i64 p.n, .float .f64 p.x]

def rowsL : List (List UInt8 × Int × Int × Int) := [([], 0, 0, 0), ([112, 117, 115, 104], -2, 0, 1), ([100, 114, 111, 112], -2, 1, 0), ([100, 117, 112], -2, 1, 2), ([115, 119, 97, 112], -2, 2, 2), ([112, 105, 99, 107], 63, 0, 1), ([97, 114, 103], 7, 0, 1), ([103, 101, 116], 7, 0, 1), ([115, 101, 116], 7, 1, 0), ([], 8, 1, 1), ([], 12, 2, 1), ([106, 117, 109, 112], -1, 0, 0), ([105, 102], -1, 1, 0), ([117, 110, 108, 101, 115, 115], -1, 1, 0), ([99, 97, 108, 108], -1, 0, 0), ([114, 101, 116], -2, 0, 0), ([114, 101, 97, 100], -2, 1, 1), ([119, 114, 105, 116, 101], -2, 2, 0), ([101, 109, 105, 116], -2, 1, 0), ([97, 98, 111, 114, 116], 99, 0, 0), ([104, 97, 108, 116], -2, 0, 0)]
def rowAt (op : Int) : List UInt8 × Int × Int × Int := rowsL.getD op.toNat ([], 0, 0, 0)
def most (op : Int) : Int := (rowAt op).2.1
def rowV (r : List UInt8 × Int × Int × Int) : Value := .agg #[.string ⟨r.1.toArray⟩, .int .i64 r.2.1, .int .i64 r.2.2.1, .int .i64 r.2.2.2]

/-- May this instruction be, in a program of so many? -/
def mayS (p : Ins) (len : Int) : Bool :=
  if p.op ≤ 0 ∨ 20 < p.op ∨ (p.op ≠ 1 ∧ fx p.x ≠ 0) then false
  else if most p.op = -2 then p.n == 0
  else if most p.op = -1 then decide (0 ≤ p.n) && decide (p.n < len)
  else if p.op = 9 ∨ p.op = 10 then decide (1 ≤ p.n) && decide (p.n ≤ most p.op)
  else decide (0 ≤ p.n) && decide (p.n ≤ most p.op)

theorem idx_nat (i : Nat) (hi : i < 21) (W : World) : (Instr.index 264 (.agg rowsC) (.int .i64 (i : Int))).run Tryz.prog W = .ok (rowV (rowAt (i : Int))) W := by
  rcases (by omega : i = 0 ∨ i = 1 ∨ i = 2 ∨ i = 3 ∨ i = 4 ∨ i = 5 ∨ i = 6 ∨ i = 7 ∨ i = 8 ∨ i = 9 ∨ i = 10 ∨ i = 11 ∨ i = 12 ∨ i = 13 ∨ i = 14 ∨ i = 15 ∨ i = 16 ∨ i = 17 ∨ i = 18 ∨ i = 19 ∨ i = 20) with rfl | rfl | rfl | rfl | rfl | rfl | rfl | rfl | rfl | rfl | rfl | rfl | rfl | rfl | rfl | rfl | rfl | rfl | rfl | rfl | rfl <;> kernel_rfl
theorem idx_rows (op : Int) (h0 : 0 ≤ op) (h1 : op < 21) (W : World) : (Instr.index 264 (.agg rowsC) (.int .i64 op)).run Tryz.prog W = .ok (.agg #[.string ⟨(rowAt op).1.toArray⟩, .int .i64 (most op), .int .i64 (rowAt op).2.2.1, .int .i64 (rowAt op).2.2.2]) W := by
  obtain ⟨i, rfl⟩ : ∃ i : Nat, op = (i : Int) := ⟨op.toNat, by omega⟩
  exact idx_nat i (by omega) W

theorem fld1 (a b c d : Value) (W : World) : (Instr.field 263 (.agg #[a, b, c, d]) 1).run Tryz.prog W = .ok b W := by kernel_rfl

theorem box_keep {w w1 w2 : World} {g : Nat} {v0 v1 : Value} (h : w1.cell? ⟨g, 0, none⟩ = some v0 ∧ w1.cell? ⟨g, 1, none⟩ = some v1 ∧ Below w.heap.size w w1) (b : Below w1.heap.size w1 w2) : w2.cell? ⟨g, 0, none⟩ = some v0 ∧ w2.cell? ⟨g, 1, none⟩ = some v1 ∧ Below w.heap.size w w2 := by
  have k := fun o => World.cell?_of_block (w := w1) (w' := w2) (a := ⟨g, o, none⟩) (b.block g (block_lt_of_cell h.1))
  exact ⟨(k 0).trans h.1, (k 1).trans h.2.1, h.2.2.trans (b.mono h.2.2.size)⟩
theorem box_init (w : World) (v0 v1 v2 : Value) (T : TypeId) : (w.alloc (.cells #[v0, v1, v2] T)).drew.cell? ⟨w.heap.size, 0, none⟩ = some v0 ∧ (w.alloc (.cells #[v0, v1, v2] T)).drew.cell? ⟨w.heap.size, 1, none⟩ = some v1 ∧ Below w.heap.size w (w.alloc (.cells #[v0, v1, v2] T)).drew :=
  ⟨cell_of_row _ _ _ _ _ _ (heap_alloc_new _ _), cell_of_row _ _ _ _ _ _ (heap_alloc_new _ _), below_of_chg ((Chg.refl _ _).alloc _).drew⟩

set_option maxRecDepth 100000 in
set_option maxHeartbeats 2000000 in
theorem may_walk (p : Ins) (len : Int) (w : World) : Calls Tryz.prog 160 #[p.v, .int .i64 len] w fun e w' => e = .returned (.bool (mayS p len)) ∧ Below w.heap.size w w' := by
  obtain ⟨op, n, x⟩ := p
  unfold Ins.v
  have SW : ∀ w, Calls Tryz.prog 201 #[.float .f64 x, .float .f64 0] w fun e w' => e = .returned (.bool (fx x == 0)) ∧ w' = w := fun w => by
    have h := same_walk x 0 w
    rwa [show fx 0 = 0 by decide +kernel] at h
  by_cases h1 : op ≤ 0
  · have e : mayS ⟨op, n, x⟩ len = false := by unfold mayS; rw [if_pos (.inl h1)]
    rw [e]
    go_enter Tryz.func160, Tryz.ntmps160
    go_wp2
    go_ret
    exact ⟨rfl, below_of_chg ((Chg.refl _ _).alloc _)⟩
  by_cases h2 : 20 < op
  · have e : mayS ⟨op, n, x⟩ len = false := by unfold mayS; rw [if_pos (.inr (.inl h2))]
    rw [e]
    go_enter Tryz.func160, Tryz.ntmps160
    go_wp2
    go_ret
    exact ⟨rfl, below_of_chg ((Chg.refl _ _).alloc _)⟩
  by_cases h3 : op ≠ 1 ∧ fx x ≠ 0
  · have e : mayS ⟨op, n, x⟩ len = false := by unfold mayS; rw [if_pos (.inr (.inr h3))]
    rw [e]
    obtain ⟨h4, h5⟩ := h3
    have t1 : (fx x == 0) = false := by simpa using h5
    rw [t1] at SW
    go_enter Tryz.func160, Tryz.ntmps160
    go_wp2_with (go_at_call 201; refine (SW _).mono ?_; rintro e w' ⟨rfl, rfl⟩)
    go_ret
    exact ⟨rfl, below_of_chg ((Chg.refl _ _).alloc _)⟩
  · have e : mayS ⟨op, n, x⟩ len = (if most op = -2 then n == 0 else if most op = -1 then decide (0 ≤ n) && decide (n < len) else if op = 9 ∨ op = 10 then decide (1 ≤ n) && decide (n ≤ most op) else decide (0 ≤ n) && decide (n ≤ most op)) := by
      unfold mayS
      rw [if_neg]
      rintro (h | h | h)
      · exact h1 h
      · exact h2 h
      · exact h3 h
    rw [e]
    clear e
    have SW2 : op ≠ 1 → ∀ w, Calls Tryz.prog 201 #[.float .f64 x, .float .f64 0] w fun e w' => e = .returned (.bool true) ∧ w' = w := fun h w => by
      have h5 : fx x = 0 := by
        by_cases h6 : fx x = 0
        · exact h6
        · exact absurd ⟨h, h6⟩ h3
      have := SW w
      rwa [show (fx x == 0) = true by simp [h5]] at this
    clear SW h3
    by_cases ho : op = 1
    · subst ho
      clear SW2
      have ix := idx_rows 1 (by omega) (by omega)
      rw [show most 1 = -2 from rfl] at ix ⊢
      have fl := fld1
      go_enter Tryz.func160, Tryz.ntmps160
      go_wp2
      go_region_held3 (fun w' => w'.cell? ⟨w.heap.size, 0, none⟩ = some (.int .i64 1) ∧ w'.cell? ⟨w.heap.size, 1, none⟩ = some (.int .i64 n) ∧ Below w.heap.size w w') (first | exact box_init _ _ _ _ _ | assumption | exact box_keep (by assumption) (by assumption)) (first | (go_at_call 202; refine (rows_walk _).mono ?_; rintro e w1 ⟨rfl, b1⟩))
      all_goals
        have hh : Hid (Below w.heap.size w w1) := (by assumption : _ ∧ _ ∧ Below w.heap.size w w1).2.2
        have hc0 := (by assumption : w1.cell? ⟨w.heap.size, 0, none⟩ = some (.int .i64 1) ∧ w1.cell? ⟨w.heap.size, 1, none⟩ = some (.int .i64 n) ∧ Below w.heap.size w w1).1
        have hc1 := (by assumption : w1.cell? ⟨w.heap.size, 0, none⟩ = some (.int .i64 1) ∧ w1.cell? ⟨w.heap.size, 1, none⟩ = some (.int .i64 n) ∧ Below w.heap.size w w1).2.1
        go_wp2
        all_goals go_ret
        all_goals refine ⟨?_, hh.out⟩
        all_goals refine congrArg (fun b => Ending.returned (Value.bool b)) ?_
        all_goals clear hc0 hc1 hh b1 ix fl
        all_goals first | rfl | (rw [Bool.eq_iff_iff]; simp only [Bool.and_eq_true, decide_eq_true_eq, beq_iff_eq, Bool.false_eq_true]; omega) | (simp; omega) | (simp [*]; done)
    · have SW3 := SW2 ho
      clear SW2
      have ix := idx_rows op (by omega) (by omega)
      have fl := fld1
      by_cases h9 : op = 9
      · subst h9
        rw [show most 9 = 8 from rfl] at ix ⊢
        rw [if_neg (by decide), if_neg (by decide), if_pos (.inl rfl)]
        go_enter Tryz.func160, Tryz.ntmps160
        go_wp2_with (go_at_call 201; refine (SW3 _).mono ?_; rintro e w' ⟨rfl, rfl⟩)
        go_region_held3 (fun w' => w'.cell? ⟨w.heap.size, 0, none⟩ = some (.int .i64 9) ∧ w'.cell? ⟨w.heap.size, 1, none⟩ = some (.int .i64 n) ∧ Below w.heap.size w w') (first | exact box_init _ _ _ _ _ | assumption | exact box_keep (by assumption) (by assumption)) (first | (go_at_call 202; refine (rows_walk _).mono ?_; rintro e w1 ⟨rfl, b1⟩))
        all_goals
          have hh : Hid (Below w.heap.size w w1) := (by assumption : _ ∧ _ ∧ Below w.heap.size w w1).2.2
          have hc0 := (by assumption : w1.cell? ⟨w.heap.size, 0, none⟩ = some (.int .i64 9) ∧ w1.cell? ⟨w.heap.size, 1, none⟩ = some (.int .i64 n) ∧ Below w.heap.size w w1).1
          have hc1 := (by assumption : w1.cell? ⟨w.heap.size, 0, none⟩ = some (.int .i64 9) ∧ w1.cell? ⟨w.heap.size, 1, none⟩ = some (.int .i64 n) ∧ Below w.heap.size w w1).2.1
          go_wp2
          all_goals go_ret
          all_goals refine ⟨?_, hh.out⟩
          all_goals refine congrArg (fun b => Ending.returned (Value.bool b)) ?_
          all_goals clear hc0 hc1 hh b1 ix fl
          all_goals first | rfl | (rw [Bool.eq_iff_iff]; simp only [Bool.and_eq_true, decide_eq_true_eq, beq_iff_eq, Bool.false_eq_true]; omega) | (simp; omega) | (simp [*]; done)
      by_cases h10 : op = 10
      · subst h10
        rw [show most 10 = 12 from rfl] at ix ⊢
        rw [if_neg (by decide), if_neg (by decide), if_pos (.inr rfl)]
        go_enter Tryz.func160, Tryz.ntmps160
        go_wp2_with (go_at_call 201; refine (SW3 _).mono ?_; rintro e w' ⟨rfl, rfl⟩)
        go_region_held3 (fun w' => w'.cell? ⟨w.heap.size, 0, none⟩ = some (.int .i64 10) ∧ w'.cell? ⟨w.heap.size, 1, none⟩ = some (.int .i64 n) ∧ Below w.heap.size w w') (first | exact box_init _ _ _ _ _ | assumption | exact box_keep (by assumption) (by assumption)) (first | (go_at_call 202; refine (rows_walk _).mono ?_; rintro e w1 ⟨rfl, b1⟩))
        all_goals
          have hh : Hid (Below w.heap.size w w1) := (by assumption : _ ∧ _ ∧ Below w.heap.size w w1).2.2
          have hc0 := (by assumption : w1.cell? ⟨w.heap.size, 0, none⟩ = some (.int .i64 10) ∧ w1.cell? ⟨w.heap.size, 1, none⟩ = some (.int .i64 n) ∧ Below w.heap.size w w1).1
          have hc1 := (by assumption : w1.cell? ⟨w.heap.size, 0, none⟩ = some (.int .i64 10) ∧ w1.cell? ⟨w.heap.size, 1, none⟩ = some (.int .i64 n) ∧ Below w.heap.size w w1).2.1
          go_wp2
          all_goals go_ret
          all_goals refine ⟨?_, hh.out⟩
          all_goals refine congrArg (fun b => Ending.returned (Value.bool b)) ?_
          all_goals clear hc0 hc1 hh b1 ix fl
          all_goals first | rfl | (rw [Bool.eq_iff_iff]; simp only [Bool.and_eq_true, decide_eq_true_eq, beq_iff_eq, Bool.false_eq_true]; omega) | (simp; omega) | (simp [*]; done)
      obtain ⟨M, hM⟩ : ∃ M, M = most op := ⟨_, rfl⟩
      rw [← hM] at ix ⊢
      clear hM
      rw [if_neg (show ¬ (op = 9 ∨ op = 10) by omega)]
      by_cases hm : M = -2
      · subst hm
        rw [if_pos rfl]
        go_enter Tryz.func160, Tryz.ntmps160
        go_wp2_with (go_at_call 201; refine (SW3 _).mono ?_; rintro e w' ⟨rfl, rfl⟩)
        go_region_held3 (fun w' => w'.cell? ⟨w.heap.size, 0, none⟩ = some (.int .i64 op) ∧ w'.cell? ⟨w.heap.size, 1, none⟩ = some (.int .i64 n) ∧ Below w.heap.size w w') (first | exact box_init _ _ _ _ _ | assumption | exact box_keep (by assumption) (by assumption)) (first | (go_at_call 202; refine (rows_walk _).mono ?_; rintro e w1 ⟨rfl, b1⟩))
        all_goals
          have hh : Hid (Below w.heap.size w w1) := (by assumption : _ ∧ _ ∧ Below w.heap.size w w1).2.2
          have hc0 := (by assumption : w1.cell? ⟨w.heap.size, 0, none⟩ = some (.int .i64 op) ∧ w1.cell? ⟨w.heap.size, 1, none⟩ = some (.int .i64 n) ∧ Below w.heap.size w w1).1
          have hc1 := (by assumption : w1.cell? ⟨w.heap.size, 0, none⟩ = some (.int .i64 op) ∧ w1.cell? ⟨w.heap.size, 1, none⟩ = some (.int .i64 n) ∧ Below w.heap.size w w1).2.1
          go_wp2
          all_goals go_ret
          all_goals refine ⟨?_, hh.out⟩
          all_goals refine congrArg (fun b => Ending.returned (Value.bool b)) ?_
          all_goals clear hc0 hc1 hh b1 ix fl
          all_goals first | rfl | (rw [Bool.eq_iff_iff]; simp only [Bool.and_eq_true, decide_eq_true_eq, beq_iff_eq, Bool.false_eq_true]; omega) | (simp; omega) | (simp [*]; done)
      rw [if_neg hm]
      by_cases hm1 : M = -1
      · subst hm1
        rw [if_pos rfl]
        go_enter Tryz.func160, Tryz.ntmps160
        go_wp2_with (go_at_call 201; refine (SW3 _).mono ?_; rintro e w' ⟨rfl, rfl⟩)
        go_region_held3 (fun w' => w'.cell? ⟨w.heap.size, 0, none⟩ = some (.int .i64 op) ∧ w'.cell? ⟨w.heap.size, 1, none⟩ = some (.int .i64 n) ∧ Below w.heap.size w w') (first | exact box_init _ _ _ _ _ | assumption | exact box_keep (by assumption) (by assumption)) (first | (go_at_call 202; refine (rows_walk _).mono ?_; rintro e w1 ⟨rfl, b1⟩))
        all_goals
          have hh : Hid (Below w.heap.size w w1) := (by assumption : _ ∧ _ ∧ Below w.heap.size w w1).2.2
          have hc0 := (by assumption : w1.cell? ⟨w.heap.size, 0, none⟩ = some (.int .i64 op) ∧ w1.cell? ⟨w.heap.size, 1, none⟩ = some (.int .i64 n) ∧ Below w.heap.size w w1).1
          have hc1 := (by assumption : w1.cell? ⟨w.heap.size, 0, none⟩ = some (.int .i64 op) ∧ w1.cell? ⟨w.heap.size, 1, none⟩ = some (.int .i64 n) ∧ Below w.heap.size w w1).2.1
          go_wp2
          all_goals go_ret
          all_goals refine ⟨?_, hh.out⟩
          all_goals refine congrArg (fun b => Ending.returned (Value.bool b)) ?_
          all_goals clear hc0 hc1 hh b1 ix fl
          all_goals first | rfl | (rw [Bool.eq_iff_iff]; simp only [Bool.and_eq_true, decide_eq_true_eq, beq_iff_eq, Bool.false_eq_true]; omega) | (simp; omega) | (simp [*]; done)
      rw [if_neg hm1]
      have t9 : (op == 9) = false := by simpa using h9
      have t10 : (op == 10) = false := by simpa using h10
      have tm : (M == -2) = false := by simpa using hm
      have tm1 : (M == -1) = false := by simpa using hm1
      go_enter Tryz.func160, Tryz.ntmps160
      go_wp2_with (go_at_call 201; refine (SW3 _).mono ?_; rintro e w' ⟨rfl, rfl⟩)
      go_region_held3 (fun w' => w'.cell? ⟨w.heap.size, 0, none⟩ = some (.int .i64 op) ∧ w'.cell? ⟨w.heap.size, 1, none⟩ = some (.int .i64 n) ∧ Below w.heap.size w w') (first | exact box_init _ _ _ _ _ | assumption | exact box_keep (by assumption) (by assumption)) (first | (go_at_call 202; refine (rows_walk _).mono ?_; rintro e w1 ⟨rfl, b1⟩))
      all_goals
        have hh : Hid (Below w.heap.size w w1) := (by assumption : _ ∧ _ ∧ Below w.heap.size w w1).2.2
        have hc0 := (by assumption : w1.cell? ⟨w.heap.size, 0, none⟩ = some (.int .i64 op) ∧ w1.cell? ⟨w.heap.size, 1, none⟩ = some (.int .i64 n) ∧ Below w.heap.size w w1).1
        have hc1 := (by assumption : w1.cell? ⟨w.heap.size, 0, none⟩ = some (.int .i64 op) ∧ w1.cell? ⟨w.heap.size, 1, none⟩ = some (.int .i64 n) ∧ Below w.heap.size w w1).2.1
        go_wp2
        all_goals go_ret
        all_goals refine ⟨?_, hh.out⟩
        all_goals refine congrArg (fun b => Ending.returned (Value.bool b)) ?_
        all_goals clear hc0 hc1 hh b1 ix fl
        all_goals first | rfl | (rw [Bool.eq_iff_iff]; simp only [Bool.and_eq_true, decide_eq_true_eq, beq_iff_eq, Bool.false_eq_true]; omega) | (simp; omega) | (simp [*]; done)
end Go.Proofs.YtphaeodcomgffaaGreat
