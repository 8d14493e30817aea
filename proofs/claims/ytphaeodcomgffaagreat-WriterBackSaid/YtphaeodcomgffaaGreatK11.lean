import Derived.Test.YtphaeodcomgffaaGreatF1
import Derived.Laws.Rows
import Derived.Laws.Tables
import Derived.Deep.RegionHeld3
set_option linter.unusedVariables false
set_option linter.unusedSimpArgs false
namespace Go.Proofs.YtphaeodcomgffaaGreat
open Go.RowKit

theorem below_of_chg {w w' : World} (c : Chg [] w w') : Below w.heap.size w w' := c.below (Nat.le_refl _) (by simp)

section
variable {P : Program}
/-- a whole value read out of cells anywhere -/
theorem run_loadVar_cells (w : World) (b o : Nat) (ty : TypeId) (cs : Array Value) (d : TypeDesc) (hc : ∀ j, j < cs.size → w.cell? ⟨b, o + j, none⟩ = cs[j]?)
    (hu : P.underlying ty = some d) (hd : (match d with | .struct _ | .array _ _ => true | _ => false) = true) (hi : (P.info? ty).map (·.size) = some cs.size) :
    (loadVar ty ⟨b, o, none⟩).run P w = .ok (.agg cs) w := by
  have hl : (loadCells ⟨b, o, none⟩ cs.toList.length).run P w = .ok cs.toList.toArray w :=
    run_loadCells_list (P := P) w ⟨b, o, none⟩ cs.toList (fun j v hv => by
      rw [Addr.add_lit, hc j (by simpa using (List.getElem?_eq_some_iff.1 hv).1)]
      simpa using hv)
  cases hq : P.info? ty with
  | none => simp [hq] at hi
  | some i =>
    have hs : i.size = cs.size := by simpa [hq] using hi
    have hagg : (isAgg ty).run P w = .ok true w := by
      unfold isAgg
      rw [Sem.run_bind, run_underlying hu w]
      cases d <;> simp_all
    simp only [Array.length_toList, Array.toArray_toList] at hl
    simp [loadVar, Sem.run_bind, hagg, sizeOf, typeInfo, hq, hs, hl]
theorem wpList_load_cells {ops : Array Oper} {rest : List Oper} {o : Oper} {a : Act} {w : World} {Q : Exit → Act → World → Prop} (hgd : o.guard = none) (ty : TypeId) (x : Operand) (ho : o.op = .load ty x)
    (b off : Nat) (hx : a.eval x = .pointer (some ⟨b, off, none⟩)) (cs : Array Value) (d : TypeDesc) (hc : ∀ j, j < cs.size → w.cell? ⟨b, off + j, none⟩ = cs[j]?)
    (hu : P.underlying ty = some d) (hd : (match d with | .struct _ | .array _ _ => true | _ => false) = true) (hi : (P.info? ty).map (·.size) = some cs.size)
    (h : wpList P ops Q rest (a.put o.dst (.agg cs)) w) : wpList P ops Q (o :: rest) a w :=
  wpList_plain hgd fun _ hK => by
    unfold Oper.wp execOp
    simp only [ho, hx, Instr.loadAt, Instr.sureAddr, Sem.run_bind, Sem.run_pure, Result.andThen_ok, run_loadVar_cells w b off ty cs d hc hu hd hi]
    exact hK _ _ h
/-- a new box is filled -/
theorem wpList_box_row {ops : Array Oper} {rest : List Oper} {o : Oper} {a : Act} {w : World} {Q : Exit → Act → World → Prop} (hgd : o.guard = none) (ty : TypeId) (x y : Operand) (ho : o.op = .store ty x y)
    (Z cells : Array Value) (t : TypeId) (hx : a.eval x = .pointer (some ⟨w.heap.size, 0, none⟩)) (hy : a.eval y = .agg cells) (hi : (P.info? ty).map (·.size) = some cells.size)
    (hold : Z.size = cells.size) (h1 : cells.all (·.oneCell') = true)
    (h : ∀ w2, Chg [] w w2 → w.heap.size < w2.heap.size → (∀ j, w2.cell? ⟨w.heap.size, j, none⟩ = cells[j]?) → wpList P ops Q rest (a.put o.dst undef) w2) :
    wpList P ops Q (o :: rest) a (w.alloc (.cells Z t)) :=
  wpList_store_row hgd ty x y ho w.heap.size cells hx hy t Z (heap_alloc_new _ _) hi hold h1
    (h _ (((Chg.refl [] w).alloc _).setRow (.inr (Nat.le_refl _)) _) (by simp) fun j => cell_setRow_same _ _ _ Z cells t (0, 0) (heap_alloc_new _ _))
end


/-- The cells of the table of operations. -/
def rowsC : Array Value := #[.string ⟨#[]⟩, .int .i64 (0), .int .i64 0, .int .i64 0, .string ⟨#[112, 117, 115, 104]⟩, .int .i64 (-2), .int .i64 0, .int .i64 1, .string ⟨#[100, 114, 111, 112]⟩, .int .i64 (-2), .int .i64 1, .int .i64 0, .string ⟨#[100, 117, 112]⟩, .int .i64 (-2), .int .i64 1, .int .i64 2, .string ⟨#[115, 119, 97, 112]⟩, .int .i64 (-2), .int .i64 2, .int .i64 2, .string ⟨#[112, 105, 99, 107]⟩, .int .i64 (63), .int .i64 0, .int .i64 1, .string ⟨#[97, 114, 103]⟩, .int .i64 (7), .int .i64 0, .int .i64 1, .string ⟨#[103, 101, 116]⟩, .int .i64 (7), .int .i64 0, .int .i64 1, .string ⟨#[115, 101, 116]⟩, .int .i64 (7), .int .i64 1, .int .i64 0, .string ⟨#[]⟩, .int .i64 (8), .int .i64 1, .int .i64 1, .string ⟨#[]⟩, .int .i64 (12), .int .i64 2, .int .i64 1, .string ⟨#[106, 117, 109, 112]⟩, .int .i64 (-1), .int .i64 0, .int .i64 0, .string ⟨#[105, 102]⟩, .int .i64 (-1), .int .i64 1, .int .i64 0, .string ⟨#[117, 110, 108, 101, 115, 115]⟩, .int .i64 (-1), .int .i64 1, .int .i64 0, .string ⟨#[99, 97, 108, 108]⟩, .int .i64 (-1), .int .i64 0, .int .i64 0, .string ⟨#[114, 101, 116]⟩, .int .i64 (-2), .int .i64 0, .int .i64 0, .string ⟨#[114, 101, 97, 100]⟩, .int .i64 (-2), .int .i64 1, .int .i64 1, .string ⟨#[119, 114, 105, 116, 101]⟩, .int .i64 (-2), .int .i64 2, .int .i64 0, .string ⟨#[101, 109, 105, 116]⟩, .int .i64 (-2), .int .i64 1, .int .i64 0, .string ⟨#[97, 98, 111, 114, 116]⟩, .int .i64 (99), .int .i64 0, .int .i64 0, .string ⟨#[104, 97, 108, 116]⟩, .int .i64 (-2), .int .i64 0, .int .i64 0]

set_option maxRecDepth 100000 in
set_option maxHeartbeats 4000000 in
theorem rows_walk (w : World) : Calls Tryz.prog 202 #[] w fun e w' => e = .returned (.agg rowsC) ∧ Below w.heap.size w w' := by
  go_enter Tryz.func202, Tryz.ntmps202
  go_wp2_with (refine wpList_store_row rfl 264 _ _ rfl w.heap.size rowsC rfl ?_ 264 _ (heap_alloc_new _ _) (by kernel_rfl) (by kernel_rfl) (by kernel_rfl) ?_)
  · first | rfl | kernel_rfl
  · refine bodyPost_ret (results_cell_row (p := 0) (ty := 264) (by kernel_rfl) _ _ w.heap.size 264 rowsC (0, 0) _ rfl (setRow_heap _ _ _ _ _ _ (heap_alloc_new _ _)) Tryz.underlying264 rfl (by kernel_rfl)) rfl (And.intro rfl ?_)
    exact (((Chg.refl [] w).alloc _).setRow (.inr (Nat.le_refl _)) _).below (Nat.le_refl _) (by simp)
end Go.Proofs.YtphaeodcomgffaaGreat
set_option linter.unusedVariables false
set_option linter.unusedSimpArgs false
namespace Go.Proofs.YtphaeodcomgffaaGreat
open Go.RowKit

/-- An instruction: its operation, its number, its float's bits. -/
structure Ins where
  op : Int
  n : Int
  x : Nat
def Ins.v (p : Ins) : Value := .agg #[.int .i64 p.op, .int .i64 p.n, .float .f64 p.x]

def rowsL : List (List UInt8 × Int × Int × Int) := [([], 0, 0, 0), ([112, 117, 115, 104], -2, 0, 1), ([100, 114, 111, 112], -2, 1, 0), ([100, 117, 112], -2, 1, 2), ([115, 119, 97, 112], -2, 2, 2), ([112, 105, 99, 107], 63, 0, 1), ([97, 114, 103], 7, 0, 1), ([103, 101, 116], 7, 0, 1), ([115, 101, 116], 7, 1, 0), ([], 8, 1, 1), ([], 12, 2, 1), ([106, 117, 109, 112], -1, 0, 0), ([105, 102], -1, 1, 0), ([117, 110, 108, 101, 115, 115], -1, 1, 0), ([99, 97, 108, 108], -1, 0, 0), ([114, 101, 116], -2, 0, 0), ([114, 101, 97, 100], -2, 1, 1), ([119, 114, 105, 116, 101], -2, 2, 0), ([101, 109, 105, 116], -2, 1, 0), ([97, 98, 111, 114, 116], 99, 0, 0), ([104, 97, 108, 116], -2, 0, 0)]
def rowAt (op : Int) : List UInt8 × Int × Int × Int := rowsL.getD op.toNat ([], 0, 0, 0)
def most (op : Int) : Int := (rowAt op).2.1
def rowV (r : List UInt8 × Int × Int × Int) : Value := .agg #[.string ⟨r.1.toArray⟩, .int .i64 r.2.1, .int .i64 r.2.2.1, .int .i64 r.2.2.2]

/-- May this instruction be, in a program of so many? -/
def mayS (p : Ins) (len : Int) : Bool :=
  if p.op ≤ 0 ∨ 20 < p.op ∨ (p.op ≠ 1 ∧ fx p.x ≠ 0) then false
  else if most p.op = -2 then p.n == 0
  else if most p.op = -1 then decide (0 ≤ p.n) && decide (p.n < len)
  else if p.op = 9 ∨ p.op = 10 then decide (1 ≤ p.n) && decide (p.n ≤ most p.op)
  else decide (0 ≤ p.n) && decide (p.n ≤ most p.op)

theorem idx_nat (i : Nat) (hi : i < 21) (W : World) : (Instr.index 264 (.agg rowsC) (.int .i64 (i : Int))).run Tryz.prog W = .ok (rowV (rowAt (i : Int))) W := by
  rcases (by omega : i = 0 ∨ i = 1 ∨ i = 2 ∨ i = 3 ∨ i = 4 ∨ i = 5 ∨ i = 6 ∨ i = 7 ∨ i = 8 ∨ i = 9 ∨ i = 10 ∨ i = 11 ∨ i = 12 ∨ i = 13 ∨ i = 14 ∨ i = 15 ∨ i = 16 ∨ i = 17 ∨ i = 18 ∨ i = 19 ∨ i = 20) with rfl | rfl | rfl | rfl | rfl | rfl | rfl | rfl | rfl | rfl | rfl | rfl | rfl | rfl | rfl | rfl | rfl | rfl | rfl | rfl | rfl <;> kernel_rfl
theorem idx_rows (op : Int) (h0 : 0 ≤ op) (h1 : op < 21) (W : World) : (Instr.index 264 (.agg rowsC) (.int .i64 op)).run Tryz.prog W = .ok (.agg #[.string ⟨(rowAt op).1.toArray⟩, .int .i64 (most op), .int .i64 (rowAt op).2.2.1, .int .i64 (rowAt op).2.2.2]) W := by
  obtain ⟨i, rfl⟩ : ∃ i : Nat, op = (i : Int) := ⟨op.toNat, by omega⟩
  exact idx_nat i (by omega) W

theorem fld1 (a b c d : Value) (W : World) : (Instr.field 263 (.agg #[a, b, c, d]) 1).run Tryz.prog W = .ok b W := by kernel_rfl

theorem box_keep {w w1 w2 : World} {g : Nat} {v0 v1 : Value} (h : w1.cell? ⟨g, 0, none⟩ = some v0 ∧ w1.cell? ⟨g, 1, none⟩ = some v1 ∧ Below w.heap.size w w1) (b : Below w1.heap.size w1 w2) : w2.cell? ⟨g, 0, none⟩ = some v0 ∧ w2.cell? ⟨g, 1, none⟩ = some v1 ∧ Below w.heap.size w w2 := by
  have k := fun o => World.cell?_of_block (w := w1) (w' := w2) (a := ⟨g, o, none⟩) (b.block g (block_lt_of_cell h.1))
  exact ⟨(k 0).trans h.1, (k 1).trans h.2.1, h.2.2.trans (b.mono h.2.2.size)⟩
theorem box_init (w : World) (v0 v1 v2 : Value) (T : TypeId) : (w.alloc (.cells #[v0, v1, v2] T)).drew.cell? ⟨w.heap.size, 0, none⟩ = some v0 ∧ (w.alloc (.cells #[v0, v1, v2] T)).drew.cell? ⟨w.heap.size, 1, none⟩ = some v1 ∧ Below w.heap.size w (w.alloc (.cells #[v0, v1, v2] T)).drew :=
  ⟨cell_of_row _ _ _ _ _ _ (heap_alloc_new _ _), cell_of_row _ _ _ _ _ _ (heap_alloc_new _ _), below_of_chg ((Chg.refl _ _).alloc _).drew⟩

set_option maxRecDepth 100000 in
set_option maxHeartbeats 2000000 in
theorem may_walk (p : Ins) (len : Int) (w : World) : Calls Tryz.prog 160 #[p.v, .int .i64 len] w fun e w' => e = .returned (.bool (mayS p len)) ∧ Below w.heap.size w w' := by
  obtain ⟨op, n, x⟩ := p
  unfold Ins.v
  have SW : ∀ w, Calls Tryz.prog 201 #[.float .f64 x, .float .f64 0] w fun e w' => e = .returned (.bool (fx x == 0)) ∧ w' = w := fun w => by
    have h := same_walk x 0 w
    rwa [show fx 0 = 0 by decide +kernel] at h
  by_cases h1 : op ≤ 0
  · have e : mayS ⟨op, n, x⟩ len = false := by unfold mayS; rw [if_pos (.inl h1)]
    rw [e]
    go_enter Tryz.func160, Tryz.ntmps160
    go_wp2
    go_ret
    exact ⟨rfl, below_of_chg ((Chg.refl _ _).alloc _)⟩
  by_cases h2 : 20 < op
  · have e : mayS ⟨op, n, x⟩ len = false := by unfold mayS; rw [if_pos (.inr (.inl h2))]
    rw [e]
    go_enter Tryz.func160, Tryz.ntmps160
    go_wp2
    go_ret
    exact ⟨rfl, below_of_chg ((Chg.refl _ _).alloc _)⟩
  by_cases h3 : op ≠ 1 ∧ fx x ≠ 0
  · have e : mayS ⟨op, n, x⟩ len = false := by unfold mayS; rw [if_pos (.inr (.inr h3))]
    rw [e]
    obtain ⟨h4, h5⟩ := h3
    have t1 : (fx x == 0) = false := by simpa using h5
    rw [t1] at SW
    go_enter Tryz.func160, Tryz.ntmps160
    go_wp2_with (go_at_call 201; refine (SW _).mono ?_; rintro e w' ⟨rfl, rfl⟩)
    go_ret
    exact ⟨rfl, below_of_chg ((Chg.refl _ _).alloc _)⟩
  · have e : mayS ⟨op, n, x⟩ len = (if most op = -2 then n == 0 else if most op = -1 then decide (0 ≤ n) && decide (n < len) else if op = 9 ∨ op = 10 then decide (1 ≤ n) && decide (n ≤ most op) else decide (0 ≤ n) && decide (n ≤ most op)) := by
      unfold mayS
      rw [if_neg]
      rintro (h | h | h)
      · exact h1 h
      · exact h2 h
      · exact h3 h
    rw [e]
    clear e
    have SW2 : op ≠ 1 → ∀ w, Calls Tryz.prog 201 #[.float .f64 x, .float .f64 0] w fun e w' => e = .returned (.bool true) ∧ w' = w := fun h w => by
      have h5 : fx x = 0 := by
        by_cases h6 : fx x = 0
        · exact h6
        · exact absurd ⟨h, h6⟩ h3
      have := SW w
      rwa [show (fx x == 0) = true by simp [h5]] at this
    clear SW h3
    by_cases ho : op = 1
    · subst ho
      clear SW2
      have ix := idx_rows 1 (by omega) (by omega)
      rw [show most 1 = -2 from rfl] at ix ⊢
      have fl := fld1
      go_enter Tryz.func160, Tryz.ntmps160
      go_wp2
      go_region_held3 (fun w' => w'.cell? ⟨w.heap.size, 0, none⟩ = some (.int .i64 1) ∧ w'.cell? ⟨w.heap.size, 1, none⟩ = some (.int .i64 n) ∧ Below w.heap.size w w') (first | exact box_init _ _ _ _ _ | assumption | exact box_keep (by assumption) (by assumption)) (first | (go_at_call 202; refine (rows_walk _).mono ?_; rintro e w1 ⟨rfl, b1⟩))
      all_goals
        have hh : Hid (Below w.heap.size w w1) := (by assumption : _ ∧ _ ∧ Below w.heap.size w w1).2.2
        have hc0 := (by assumption : w1.cell? ⟨w.heap.size, 0, none⟩ = some (.int .i64 1) ∧ w1.cell? ⟨w.heap.size, 1, none⟩ = some (.int .i64 n) ∧ Below w.heap.size w w1).1
        have hc1 := (by assumption : w1.cell? ⟨w.heap.size, 0, none⟩ = some (.int .i64 1) ∧ w1.cell? ⟨w.heap.size, 1, none⟩ = some (.int .i64 n) ∧ Below w.heap.size w w1).2.1
        go_wp2
        all_goals go_ret
        all_goals refine ⟨?_, hh.out⟩
        all_goals refine congrArg (fun b => Ending.returned (Value.bool b)) ?_
        all_goals clear hc0 hc1 hh b1 ix fl
        all_goals first | rfl | (rw [Bool.eq_iff_iff]; simp only [Bool.and_eq_true, decide_eq_true_eq, beq_iff_eq, Bool.false_eq_true]; omega) | (simp; omega) | (simp [*]; done)
    · have SW3 := SW2 ho
      clear SW2
      have ix := idx_rows op (by omega) (by omega)
      have fl := fld1
      by_cases h9 : op = 9
      · subst h9
        rw [show most 9 = 8 from rfl] at ix ⊢
        rw [if_neg (by decide), if_neg (by decide), if_pos (.inl rfl)]
        go_enter Tryz.func160, Tryz.ntmps160
        go_wp2_with (go_at_call 201; refine (SW3 _).mono ?_; rintro e w' ⟨rfl, rfl⟩)
        go_region_held3 (fun w' => w'.cell? ⟨w.heap.size, 0, none⟩ = some (.int .i64 9) ∧ w'.cell? ⟨w.heap.size, 1, none⟩ = some (.int .i64 n) ∧ Below w.heap.size w w') (first | exact box_init _ _ _ _ _ | assumption | exact box_keep (by assumption) (by assumption)) (first | (go_at_call 202; refine (rows_walk _).mono ?_; rintro e w1 ⟨rfl, b1⟩))
        all_goals
          have hh : Hid (Below w.heap.size w w1) := (by assumption : _ ∧ _ ∧ Below w.heap.size w w1).2.2
          have hc0 := (by assumption : w1.cell? ⟨w.heap.size, 0, none⟩ = some (.int .i64 9) ∧ w1.cell? ⟨w.heap.size, 1, none⟩ = some (.int .i64 n) ∧ Below w.heap.size w w1).1
          have hc1 := (by assumption : w1.cell? ⟨w.heap.size, 0, none⟩ = some (.int .i64 9) ∧ w1.cell? ⟨w.heap.size, 1, none⟩ = some (.int .i64 n) ∧ Below w.heap.size w w1).2.1
          go_wp2
          all_goals go_ret
          all_goals refine ⟨?_, hh.out⟩
          all_goals refine congrArg (fun b => Ending.returned (Value.bool b)) ?_
          all_goals clear hc0 hc1 hh b1 ix fl
          all_goals first | rfl | (rw [Bool.eq_iff_iff]; simp only [Bool.and_eq_true, decide_eq_true_eq, beq_iff_eq, Bool.false_eq_true]; omega) | (simp; omega) | (simp [*]; done)
      by_cases h10 : op = 10
      · subst h10
        rw [show most 10 = 12 from rfl] at ix ⊢
        rw [if_neg (by decide), if_neg (by decide), if_pos (.inr rfl)]
        go_enter Tryz.func160, Tryz.ntmps160
        go_wp2_with (go_at_call 201; refine (SW3 _).mono ?_; rintro e w' ⟨rfl, rfl⟩)
        go_region_held3 (fun w' => w'.cell? ⟨w.heap.size, 0, none⟩ = some (.int .i64 10) ∧ w'.cell? ⟨w.heap.size, 1, none⟩ = some (.int .i64 n) ∧ Below w.heap.size w w') (first | exact box_init _ _ _ _ _ | assumption | exact box_keep (by assumption) (by assumption)) (first | (go_at_call 202; refine (rows_walk _).mono ?_; rintro e w1 ⟨rfl, b1⟩))
        all_goals
          have hh : Hid (Below w.heap.size w w1) := (by assumption : _ ∧ _ ∧ Below w.heap.size w w1).2.2
          have hc0 := (by assumption : w1.cell? ⟨w.heap.size, 0, none⟩ = some (.int .i64 10) ∧ w1.cell? ⟨w.heap.size, 1, none⟩ = some (.int .i64 n) ∧ Below w.heap.size w w1).1
          have hc1 := (by assumption : w1.cell? ⟨w.heap.size, 0, none⟩ = some (.int .i64 10) ∧ w1.cell? ⟨w.heap.size, 1, none⟩ = some (.int .i64 n) ∧ Below w.heap.size w w1).2.1
          go_wp2
          all_goals go_ret
          all_goals refine ⟨?_, hh.out⟩
          all_goals refine congrArg (fun b => Ending.returned (Value.bool b)) ?_
          all_goals clear hc0 hc1 hh b1 ix fl
          all_goals first | rfl | (rw [Bool.eq_iff_iff]; simp only [Bool.and_eq_true, decide_eq_true_eq, beq_iff_eq, Bool.false_eq_true]; omega) | (simp; omega) | (simp [*]; done)
      obtain ⟨M, hM⟩ : ∃ M, M = most op := ⟨_, rfl⟩
      rw [← hM] at ix ⊢
      clear hM
      rw [if_neg (show ¬ (op = 9 ∨ op = 10) by omega)]
      by_cases hm : M = -2
      · subst hm
        rw [if_pos rfl]
        go_enter Tryz.func160, Tryz.ntmps160
        go_wp2_with (go_at_call 201; refine (SW3 _).mono ?_; rintro e w' ⟨rfl, rfl⟩)
        go_region_held3 (fun w' => w'.cell? ⟨w.heap.size, 0, none⟩ = some (.int .i64 op) ∧ w'.cell? ⟨w.heap.size, 1, none⟩ = some (.int .i64 n) ∧ Below w.heap.size w w') (first | exact box_init _ _ _ _ _ | assumption | exact box_keep (by assumption) (by assumption)) (first | (go_at_call 202; refine (rows_walk _).mono ?_; rintro e w1 ⟨rfl, b1⟩))
        all_goals
          have hh : Hid (Below w.heap.size w w1) := (by assumption : _ ∧ _ ∧ Below w.heap.size w w1).2.2
          have hc0 := (by assumption : w1.cell? ⟨w.heap.size, 0, none⟩ = some (.int .i64 op) ∧ w1.cell? ⟨w.heap.size, 1, none⟩ = some (.int .i64 n) ∧ Below w.heap.size w w1).1
          have hc1 := (by assumption : w1.cell? ⟨w.heap.size, 0, none⟩ = some (.int .i64 op) ∧ w1.cell? ⟨w.heap.size, 1, none⟩ = some (.int .i64 n) ∧ Below w.heap.size w w1).2.1
          go_wp2
          all_goals go_ret
          all_goals refine ⟨?_, hh.out⟩
          all_goals refine congrArg (fun b => Ending.returned (Value.bool b)) ?_
          all_goals clear hc0 hc1 hh b1 ix fl
          all_goals first | rfl | (rw [Bool.eq_iff_iff]; simp only [Bool.and_eq_true, decide_eq_true_eq, beq_iff_eq, Bool.false_eq_true]; omega) | (simp; omega) | (simp [*]; done)
      rw [if_neg hm]
      by_cases hm1 : M = -1
      · subst hm1
        rw [if_pos rfl]
        go_enter Tryz.func160, Tryz.ntmps160
        go_wp2_with (go_at_call 201; refine (SW3 _).mono ?_; rintro e w' ⟨rfl, rfl⟩)
        go_region_held3 (fun w' => w'.cell? ⟨w.heap.size, 0, none⟩ = some (.int .i64 op) ∧ w'.cell? ⟨w.heap.size, 1, none⟩ = some (.int .i64 n) ∧ Below w.heap.size w w') (first | exact box_init _ _ _ _ _ | assumption | exact box_keep (by assumption) (by assumption)) (first | (go_at_call 202; refine (rows_walk _).mono ?_; rintro e w1 ⟨rfl, b1⟩))
        all_goals
          have hh : Hid (Below w.heap.size w w1) := (by assumption : _ ∧ _ ∧ Below w.heap.size w w1).2.2
          have hc0 := (by assumption : w1.cell? ⟨w.heap.size, 0, none⟩ = some (.int .i64 op) ∧ w1.cell? ⟨w.heap.size, 1, none⟩ = some (.int .i64 n) ∧ Below w.heap.size w w1).1
          have hc1 := (by assumption : w1.cell? ⟨w.heap.size, 0, none⟩ = some (.int .i64 op) ∧ w1.cell? ⟨w.heap.size, 1, none⟩ = some (.int .i64 n) ∧ Below w.heap.size w w1).2.1
          go_wp2
          all_goals go_ret
          all_goals refine ⟨?_, hh.out⟩
          all_goals refine congrArg (fun b => Ending.returned (Value.bool b)) ?_
          all_goals clear hc0 hc1 hh b1 ix fl
          all_goals first | rfl | (rw [Bool.eq_iff_iff]; simp only [Bool.and_eq_true, decide_eq_true_eq, beq_iff_eq, Bool.false_eq_true]; omega) | (simp; omega) | (simp [*]; done)
      rw [if_neg hm1]
      have t9 : (op == 9) = false := by simpa using h9
      have t10 : (op == 10) = false := by simpa using h10
      have tm : (M == -2) = false := by simpa using hm
      have tm1 : (M == -1) = false := by simpa using hm1
      go_enter Tryz.func160, Tryz.ntmps160
      go_wp2_with (go_at_call 201; refine (SW3 _).mono ?_; rintro e w' ⟨rfl, rfl⟩)
      go_region_held3 (fun w' => w'.cell? ⟨w.heap.size, 0, none⟩ = some (.int .i64 op) ∧ w'.cell? ⟨w.heap.size, 1, none⟩ = some (.int .i64 n) ∧ Below w.heap.size w w') (first | exact box_init _ _ _ _ _ | assumption | exact box_keep (by assumption) (by assumption)) (first | (go_at_call 202; refine (rows_walk _).mono ?_; rintro e w1 ⟨rfl, b1⟩))
      all_goals
        have hh : Hid (Below w.heap.size w w1) := (by assumption : _ ∧ _ ∧ Below w.heap.size w w1).2.2
        have hc0 := (by assumption : w1.cell? ⟨w.heap.size, 0, none⟩ = some (.int .i64 op) ∧ w1.cell? ⟨w.heap.size, 1, none⟩ = some (.int .i64 n) ∧ Below w.heap.size w w1).1
        have hc1 := (by assumption : w1.cell? ⟨w.heap.size, 0, none⟩ = some (.int .i64 op) ∧ w1.cell? ⟨w.heap.size, 1, none⟩ = some (.int .i64 n) ∧ Below w.heap.size w w1).2.1
        go_wp2
        all_goals go_ret
        all_goals refine ⟨?_, hh.out⟩
        all_goals refine congrArg (fun b => Ending.returned (Value.bool b)) ?_
        all_goals clear hc0 hc1 hh b1 ix fl
        all_goals first | rfl | (rw [Bool.eq_iff_iff]; simp only [Bool.and_eq_true, decide_eq_true_eq, beq_iff_eq, Bool.false_eq_true]; omega) | (simp; omega) | (simp [*]; done)
end Go.Proofs.YtphaeodcomgffaaGreat
set_option linter.unusedVariables false
set_option linter.unusedSimpArgs false
namespace Go.Proofs.YtphaeodcomgffaaGreat
open Go.RowKit

/-- The slice v reads as these rows of cells, 'size' cells each. -/
def Rd (w : World) (size : Nat) (v : Value) (rows : List (List Value)) : Prop :=
  (rows = [] ∧ (v = .slice none 0 0 ∨ ∃ a c, v = .slice (some a) 0 c)) ∨
  ∃ b off c, v = .slice (some ⟨b, off, none⟩) rows.length c ∧ 0 < rows.length ∧ b < w.heap.size ∧ ∀ i j, i < rows.length → j < size → w.cell? ⟨b, off + i * size + j, none⟩ = (rows.getD i [])[j]?

theorem Rd.slice {w size v l} (h : Rd w size v l) : ∃ a c, v = .slice a l.length c := by
  rcases h with ⟨rfl, h | ⟨a, c, h⟩⟩ | ⟨b, off, c, h, _⟩
  · exact ⟨_, _, h⟩
  · exact ⟨_, _, h⟩
  · exact ⟨_, _, h⟩
theorem Rd.blk {w size v l} (h : Rd w size v l) (hl : 0 < l.length) : ∃ b off c, v = .slice (some ⟨b, off, none⟩) l.length c ∧ b < w.heap.size ∧ ∀ i j, i < l.length → j < size → w.cell? ⟨b, off + i * size + j, none⟩ = (l.getD i [])[j]? := by
  rcases h with ⟨rfl, _⟩ | ⟨b, off, c, h, _, hb, hc⟩
  · simp at hl
  · exact ⟨b, off, c, h, hb, hc⟩
theorem Rd.keep {w w' : World} {size : Nat} {v : Value} {l : List (List Value)} {S : List Nat} (h : Rd w size v l) (c : Chg S w w') (hs : ∀ k, v.ownBlock = some k → k ∉ S) : Rd w' size v l := by
  rcases h with h | ⟨b, off, k, rfl, hl, hb, hc⟩
  · exact .inl h
  · refine .inr ⟨b, off, k, rfl, hl, Nat.lt_of_lt_of_le hb c.size, fun i j hi hj => ?_⟩
    rw [World.cell?_of_block (w := w) (c.block b hb (hs b rfl))]
    exact hc i j hi hj
theorem Rd.keep0 {w w' : World} {size : Nat} {v : Value} {l : List (List Value)} (h : Rd w size v l) (c : Chg [] w w') : Rd w' size v l := h.keep c (by simp)


def Ins.row (p : Ins) : List Value := [.int .i64 p.op, .int .i64 p.n, .float .f64 p.x]
/-- The slice v reads as these instructions. -/
def RdC (w : World) (v : Value) (l : List Ins) : Prop := Rd w 3 v (l.map Ins.row)
theorem RdC.slice {w v l} (h : RdC w v l) : ∃ a c, v = .slice a l.length c := by
  have := Rd.slice h
  simpa using this
theorem RdC.keep0 {w w' : World} {v : Value} {l : List Ins} (h : RdC w v l) (c : Chg [] w w') : RdC w' v l := Rd.keep0 h c
/-- The cells of instruction k. -/
theorem RdC.at {w : World} {a : Option Addr} {n c : Nat} {l : List Ins} (h : RdC w (.slice a n c) l) {k : Nat} (hk : k < l.length) :
    ∃ b off, a = some ⟨b, off, none⟩ ∧ n = l.length ∧ w.cell? ⟨b, off + k * 3, none⟩ = some (.int .i64 l[k].op) ∧ w.cell? ⟨b, off + k * 3 + 1, none⟩ = some (.int .i64 l[k].n) ∧ w.cell? ⟨b, off + k * 3 + 2, none⟩ = some (.float .f64 l[k].x) := by
  obtain ⟨b, off, c', h1, h2, h3⟩ := Rd.blk h (by simp; omega)
  simp only [Value.slice.injEq, List.length_map] at h1
  obtain ⟨ha, hn, _⟩ := h1
  have g : ∀ j, j < 3 → w.cell? ⟨b, off + k * 3 + j, none⟩ = l[k].row[j]? := fun j hj => by
    have := h3 k j (by simpa using hk) hj
    rw [this]
    simp [List.getD, List.getElem?_map, List.getElem?_eq_getElem hk]
  exact ⟨b, off, ha, hn, g 0 (by omega), g 1 (by omega), g 2 (by omega)⟩

theorem may_at (op n len : Int) (x : Nat) (w : World) (r : Bool) (h : mayS ⟨op, n, x⟩ len = r) : Calls Tryz.prog 160 #[.agg #[.int .i64 op, .int .i64 n, .float .f64 x], .int .i64 len] w fun e w' => e = .returned (.bool r) ∧ Below w.heap.size w w' := by
  subst h
  exact may_walk ⟨op, n, x⟩ len w

theorem run_store_float (a : Addr) (x : Nat) (w : World) : (store a (.float .f64 x)).run Tryz.prog w = stored Tryz.prog w a (.float .f64 x) .plain := run_store Tryz.prog w a _ _ rfl
/-- What Check says. -/
def okP (tag : Int) (l : List Ins) : Prop := (tag = 1 ∨ tag = 2) ∧ 1 ≤ l.length ∧ l.length ≤ 1024 ∧ ∀ p ∈ l, mayS p l.length = true
instance (tag : Int) (l : List Ins) : Decidable (okP tag l) := inferInstanceAs (Decidable (_ ∧ _))
def checkS (tag : Int) (l : List Ins) : Int := if okP tag l then 0 else 50

set_option maxRecDepth 100000 in
set_option maxHeartbeats 1000000 in
theorem check_walk (tag : Int) (v : Value) (l : List Ins) (w : World) (h : RdC w v l) : Calls Tryz.prog 124 #[.agg #[.int .i64 tag, v]] w fun e w' => e = .returned (.int .i64 (checkS tag l)) ∧ Below w.heap.size w w' := by
  obtain ⟨a, c, rfl⟩ := h.slice
  obtain ⟨r, hr⟩ : ∃ r, r = checkS tag l := ⟨_, rfl⟩
  rw [← hr]
  have fin : ∀ w', Chg [] w w' → ¬ okP tag l → Ending.returned (.int .i64 50) = Ending.returned (.int .i64 r) ∧ Below w.heap.size w w' := fun w' c hn => by
    refine ⟨?_, below_of_chg c⟩
    rw [hr]
    unfold checkS
    rw [if_neg hn]
  have good : ∀ w', Chg [] w w' → okP tag l → Ending.returned (.int .i64 0) = Ending.returned (.int .i64 r) ∧ Below w.heap.size w w' := fun w' c hn => by
    refine ⟨?_, below_of_chg c⟩
    rw [hr]
    unfold checkS
    rw [if_pos hn]
  clear hr
  by_cases h1 : tag = 1 ∨ tag = 2
  case neg =>
    have k1 : ¬ tag = 1 := fun e => h1 (.inl e)
    have k2 : ¬ tag = 2 := fun e => h1 (.inr e)
    go_enter Tryz.func124, Tryz.ntmps124
    go_wp2
    go_ret
    exact fin _ ((Chg.refl _ _).alloc _) (fun q => h1 q.1)
  by_cases h2 : 1 ≤ l.length ∧ l.length ≤ 1024
  case neg =>
    have hno : ¬ okP tag l := fun q => h2 ⟨q.2.1, q.2.2.1⟩
    obtain ⟨n, hn⟩ : ∃ n, n = l.length := ⟨_, rfl⟩
    rw [← hn] at h h2 ⊢
    have FIN := Lib.hid fin
    have HNO := Lib.hid hno
    clear fin good hno hn
    rcases (by omega : n = 0 ∨ 1024 < n) with rfl | h3
    · rcases h1 with rfl | rfl
      all_goals
        go_enter Tryz.func124, Tryz.ntmps124
        go_wp2
        go_ret
        exact FIN.out _ ((Chg.refl _ _).alloc _) HNO.out
    · have h3' : (1024 : Int) < n := by omega
      have h4' : ((n : Int) == 0) = false := by simp; omega
      rcases h1 with rfl | rfl
      all_goals
        go_enter Tryz.func124, Tryz.ntmps124
        go_wp2
        go_ret
        exact FIN.out _ ((Chg.refl _ _).alloc _) HNO.out
  obtain ⟨n, hn⟩ : ∃ n, n = l.length := ⟨_, rfl⟩
  have HN := Lib.hid hn
  rw [← hn] at h h2 ⊢
  obtain ⟨h2, h3⟩ := h2
  have h3' : ¬ (1024 : Int) < n := by omega
  have h4' : ((n : Int) == 0) = false := by simp; omega
  have RD := Lib.hid h
  have FIN := Lib.hid fin
  have GOOD := Lib.hid good
  have H1 := Lib.hid h1
  have H2 := Lib.hid h2
  have H3 := Lib.hid h3
  clear h fin good hn h2 h3
  rcases h1 with rfl | rfl
  all_goals
    go_enter Tryz.func124, Tryz.ntmps124
    go_wp2
    go_loopw [28] (fun i wr => ∃ k : Nat, i = .int .i64 k ∧ k ≤ n ∧ Chg [] w wr ∧ wr.cell? ⟨w.heap.size, 1, none⟩ = some (.slice a n c) ∧ ∀ j (hj : j < l.length), j < k → mayS l[j] n = true) (fun i _ => n - (intOf i).toNat)
    case atStart => exact ⟨0, rfl, by omega, (Chg.refl _ _).alloc _, cell_of_row _ _ _ _ _ _ (heap_alloc_new _ _), fun j _ h => by omega⟩
    case round =>
      obtain ⟨k, rfl, hk, hchg, hbox, hall⟩ := hrel
      have CH := Lib.hid hchg
      have ALL := Lib.hid hall
      clear hchg hall
      by_cases h : k < n
      · have h' : (k : Int) < n := by omega
        have hkl : k < l.length := by have := HN.out; omega
        obtain ⟨b, off, rfl, -, c0, c1, c2⟩ := (RD.out.keep0 CH.out).at hkl
        obtain ⟨q, hq⟩ : ∃ q, q = l[k] := ⟨_, rfl⟩
        rw [← hq] at c0 c1 c2
        have HQ := Lib.hid hq
        clear hq
        obtain ⟨op, nn, x⟩ := q
        simp only at c0 c1 c2
        have BX := Lib.hid hbox
        have hlt := block_lt_of_cell hbox
        have sf := run_store_float
        cases hm : mayS ⟨op, nn, x⟩ n
        · go_wp2_with (go_at_call 160; refine (may_at _ _ _ _ _ _ hm).mono ?_; rintro e w3 ⟨rfl, b3⟩; have B3 := Lib.hid b3; clear b3)
          go_ret
          refine FIN.out _ ((CH.out.alloc _).trans (Chg.of_below B3.out)) (fun ok => ?_)
          have := ok.2.2.2 l[k] (List.getElem_mem hkl)
          rw [← HQ.out, ← HN.out, hm] at this
          cases this
        · go_wp2_with (go_at_call 160; refine (may_at _ _ _ _ _ _ hm).mono ?_; rintro e w3 ⟨rfl, b3⟩; have B3 := Lib.hid b3; clear b3)
          go_roundw
          case rel =>
            refine ⟨k + 1, by go_num, by omega, (CH.out.alloc _).trans (Chg.of_below B3.out), ?_, fun j hj hjk => ?_⟩
            · rw [World.cell?_of_block (w := wr) ((((Chg.refl [] wr).alloc _).trans (Chg.of_below B3.out)).block _ hlt (by simp))]
              exact BX.out
            · rcases Nat.lt_succ_iff_lt_or_eq.1 hjk with h5 | rfl
              · exact ALL.out j hj h5
              · rw [← HQ.out]; exact hm
          case measure => simp [intOf]; omega
      · obtain rfl : k = n := by omega
        have h' : ¬ (k : Int) < k := by omega
        go_wp2
        go_ret
        refine GOOD.out _ CH.out ⟨by simp, by rw [← HN.out]; exact H2.out, by rw [← HN.out]; exact H3.out, fun p hp => ?_⟩
        obtain ⟨j, hj, rfl⟩ := List.getElem_of_mem hp
        rw [← HN.out]
        exact ALL.out j hj (by rw [HN.out]; exact hj)
end Go.Proofs.YtphaeodcomgffaaGreat
set_option linter.unusedVariables false
set_option linter.unusedSimpArgs false
namespace Go.Proofs.YtphaeodcomgffaaGreat
open Go.RowKit

def inOp (op : Int) : Prop := 1 ≤ op ∧ op ≤ 20
instance (op : Int) : Decidable (inOp op) := inferInstanceAs (Decidable (_ ∧ _))
def effT (op : Int) : Int := if inOp op then (rowAt op).2.2.1 else 0
def effL (op : Int) : Int := if inOp op then (rowAt op).2.2.2 else 0
def effE (op : Int) : Int := if inOp op then 0 else 1

set_option maxRecDepth 100000 in
set_option maxHeartbeats 1000000 in
/-- code.Effect. -/
theorem effect_walk (op : Int) (w : World) : Calls Tryz.prog 161 #[.int .i64 op] w fun e w' => e = .returned (.tuple #[.int .i64 (effT op), .int .i64 (effL op), .int .i64 (effE op)]) ∧ Below w.heap.size w w' := by
  unfold effT effL effE
  by_cases h : inOp op
  case neg =>
    rw [if_neg h, if_neg h, if_neg h]
    unfold inOp at h
    rcases (by omega : op ≤ 0 ∨ 20 < op) with h1 | h1
    · go_enter Tryz.func161, Tryz.ntmps161
      go_wp2
      go_ret3
      exact ⟨rfl, Below.refl _ _⟩
    · have h2 : ¬ op ≤ 0 := by omega
      go_enter Tryz.func161, Tryz.ntmps161
      go_wp2
      go_ret3
      exact ⟨rfl, Below.refl _ _⟩
  rw [if_pos h, if_pos h, if_pos h]
  obtain ⟨h1, h2⟩ := h
  have h1' : ¬ op ≤ 0 := by omega
  have h2' : ¬ 20 < op := by omega
  have ix := idx_rows op (by omega) (by omega)
  go_enter Tryz.func161, Tryz.ntmps161
  go_wp2_with (go_at_call 202; refine (rows_walk _).mono ?_; rintro e w1 ⟨rfl, b1⟩; have C1 := Lib.hid (Chg.of_below (S := []) b1); clear b1)
  go_region
  all_goals go_wp2
  all_goals go_ret3
  all_goals exact ⟨rfl, below_of_chg (by first | exact C1.out.alloc _ | exact (C1.out.alloc _).drew)⟩
end Go.Proofs.YtphaeodcomgffaaGreat
