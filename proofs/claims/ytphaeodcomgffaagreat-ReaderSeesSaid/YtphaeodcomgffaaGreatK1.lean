import Derived.Test.YtphaeodcomgffaaGreatF1
import Derived.Laws.Rows
import Derived.Laws.Tables
set_option linter.unusedVariables false
set_option linter.unusedSimpArgs false
namespace Go.Proofs.YtphaeodcomgffaaGreat
open Go.RowKit

theorem below_of_chg {w w' : World} (c : Chg [] w w') : Below w.heap.size w w' := c.below (Nat.le_refl _) (by simp)

section
variable {P : Program}
/-- a whole value read out of cells anywhere -/
theorem run_loadVar_cells (w : World) (b o : Nat) (ty : TypeId) (cs : Array Value) (d : TypeDesc) (hc : ∀ j, j < cs.size → w.cell? ⟨b, o + j, none⟩ = cs[j]?)
    (hu : P.underlying ty = some d) (hd : (match d with | .struct _ | .array _ _ => true | _ => false) = true) (hi : (P.info? ty).map (·.size) = some cs.size) :
    (loadVar ty ⟨b, o, none⟩).run P w = .ok (.agg cs) w := by
  have hl : (loadCells ⟨b, o, none⟩ cs.toList.length).run P w = .ok cs.toList.toArray w :=
    run_loadCells_list (P := P) w ⟨b, o, none⟩ cs.toList (fun j v hv => by
      rw [Addr.add_lit, hc j (by simpa using (List.getElem?_eq_some_iff.1 hv).1)]
      simpa using hv)
  cases hq : P.info? ty with
  | none => simp [hq] at hi
  | some i =>
    have hs : i.size = cs.size := by simpa [hq] using hi
    have hagg : (isAgg ty).run P w = .ok true w := by
      unfold isAgg
      rw [Sem.run_bind, run_underlying hu w]
      cases d <;> simp_all
    simp only [Array.length_toList, Array.toArray_toList] at hl
    simp [loadVar, Sem.run_bind, hagg, sizeOf, typeInfo, hq, hs, hl]
theorem wpList_load_cells {ops : Array Oper} {rest : List Oper} {o : Oper} {a : Act} {w : World} {Q : Exit → Act → World → Prop} (hgd : o.guard = none) (ty : TypeId) (x : Operand) (ho : o.op = .load ty x)
    (b off : Nat) (hx : a.eval x = .pointer (some ⟨b, off, none⟩)) (cs : Array Value) (d : TypeDesc) (hc : ∀ j, j < cs.size → w.cell? ⟨b, off + j, none⟩ = cs[j]?)
    (hu : P.underlying ty = some d) (hd : (match d with | .struct _ | .array _ _ => true | _ => false) = true) (hi : (P.info? ty).map (·.size) = some cs.size)
    (h : wpList P ops Q rest (a.put o.dst (.agg cs)) w) : wpList P ops Q (o :: rest) a w :=
  wpList_plain hgd fun _ hK => by
    unfold Oper.wp execOp
    simp only [ho, hx, Instr.loadAt, Instr.sureAddr, Sem.run_bind, Sem.run_pure, Result.andThen_ok, run_loadVar_cells w b off ty cs d hc hu hd hi]
    exact hK _ _ h
/-- a new box is filled -/
theorem wpList_box_row {ops : Array Oper} {rest : List Oper} {o : Oper} {a : Act} {w : World} {Q : Exit → Act → World → Prop} (hgd : o.guard = none) (ty : TypeId) (x y : Operand) (ho : o.op = .store ty x y)
    (Z cells : Array Value) (t : TypeId) (hx : a.eval x = .pointer (some ⟨w.heap.size, 0, none⟩)) (hy : a.eval y = .agg cells) (hi : (P.info? ty).map (·.size) = some cells.size)
    (hold : Z.size = cells.size) (h1 : cells.all (·.oneCell') = true)
    (h : ∀ w2, Chg [] w w2 → w.heap.size < w2.heap.size → (∀ j, w2.cell? ⟨w.heap.size, j, none⟩ = cells[j]?) → wpList P ops Q rest (a.put o.dst undef) w2) :
    wpList P ops Q (o :: rest) a (w.alloc (.cells Z t)) :=
  wpList_store_row hgd ty x y ho w.heap.size cells hx hy t Z (heap_alloc_new _ _) hi hold h1
    (h _ (((Chg.refl [] w).alloc _).setRow (.inr (Nat.le_refl _)) _) (by simp) fun j => cell_setRow_same _ _ _ Z cells t (0, 0) (heap_alloc_new _ _))
end


/-- The cells of the table of operations. -/
def rowsC : Array Value := #[.string ⟨#[]⟩, .int .i64 (0), .int .i64 0, .int .i64 0, .string ⟨#[112, 117, 115, 104]⟩, .int .i64 (-2), .int .i64 0, .int .i64 1, .string ⟨#[100, 114, 111, 112]⟩, .int .i64 (-2), .int .i64 1, .int .i64 0, .string ⟨#[100, 117, 112]⟩, .int .i64 (-2), .int .i64 1, .int .i64 2, .string ⟨#[115, 119, 97, 112]⟩, .int .i64 (-2), .int .i64 2, .int .i64 2, .string ⟨#[112, 105, 99, 107]⟩, .int .i64 (63), .int .i64 0, .int .i64 1, .string ⟨#[97, 114, 103]⟩, .int .i64 (7), .int .i64 0, .int .i64 1, .string ⟨#[103, 101, 116]⟩, .int .i64 (7), .int .i64 0, .int .i64 1, .string ⟨#[115, 101, 116]⟩, .int .i64 (7), .int .i64 1, .int .i64 0, .string ⟨#[]⟩, .int .i64 (8), .int .i64 1, .int .i64 1, .string ⟨#[]⟩, .int .i64 (12), .int .i64 2, .int .i64 1, .string ⟨#[106, 117, 109, 112]⟩, .int .i64 (-1), .int .i64 0, .int .i64 0, .string ⟨#[105, 102]⟩, .int .i64 (-1), .int .i64 1, .int .i64 0, .string ⟨#[117, 110, 108, 101, 115, 115]⟩, .int .i64 (-1), .int .i64 1, .int .i64 0, .string ⟨#[99, 97, 108, 108]⟩, .int .i64 (-1), .int .i64 0, .int .i64 0, .string ⟨#[114, 101, 116]⟩, .int .i64 (-2), .int .i64 0, .int .i64 0, .string ⟨#[114, 101, 97, 100]⟩, .int .i64 (-2), .int .i64 1, .int .i64 1, .string ⟨#[119, 114, 105, 116, 101]⟩, .int .i64 (-2), .int .i64 2, .int .i64 0, .string ⟨#[101, 109, 105, 116]⟩, .int .i64 (-2), .int .i64 1, .int .i64 0, .string ⟨#[97, 98, 111, 114, 116]⟩, .int .i64 (99), .int .i64 0, .int .i64 0, .string ⟨#[104, 97, 108, 116]⟩, .int .i64 (-2), .int .i64 0, .int .i64 0]

set_option maxRecDepth 100000 in
set_option maxHeartbeats 4000000 in
theorem rows_walk (w : World) : Calls Tryz.prog 202 #[] w fun e w' => e = .returned (.agg rowsC) ∧ Below w.heap.size w w' := by
  go_enter Tryz.func202, Tryz.ntmps202
  go_wp2_with (refine wpList_store_row rfl 264 _ _ rfl w.heap.size rowsC rfl ?_ 264 _ (heap_alloc_new _ _) (by kernel_rfl) (by kernel_rfl) (by kernel_rfl) ?_)
  · first | rfl | kernel_rfl
  · refine bodyPost_ret (results_cell_row (p := 0) (ty := 264) (by kernel_rfl) _ _ w.heap.size 264 rowsC (0, 0) _ rfl (setRow_heap _ _ _ _ _ _ (heap_alloc_new _ _)) Tryz.underlying264 rfl (by kernel_rfl)) rfl (And.intro rfl ?_)
    exact (((Chg.refl [] w).alloc _).setRow (.inr (Nat.le_refl _)) _).below (Nat.le_refl _) (by simp)
end Go.Proofs.YtphaeodcomgffaaGreat
