import Derived.Test.YtldhlkkclmifmaaH1
import Derived.Test.YtldhlkkclmifmaaG2
set_option linter.unusedVariables false
set_option linter.unusedSimpArgs false
namespace Go.Proofs.Ytldhlkkclmifmaa
open Go.RowKit

section
variable {P : Program}
/-- a whole value read out of cells anywhere -/
theorem run_loadVar_cells (w : World) (b o : Nat) (ty : TypeId) (cs : Array Value) (d : TypeDesc) (hc : ∀ j, j < cs.size → w.cell? ⟨b, o + j, none⟩ = cs[j]?)
    (hu : P.underlying ty = some d) (hd : (match d with | .struct _ | .array _ _ => true | _ => false) = true) (hi : (P.info? ty).map (·.size) = some cs.size) :
    (loadVar ty ⟨b, o, none⟩).run P w = .ok (.agg cs) w := by
  have hl : (loadCells ⟨b, o, none⟩ cs.toList.length).run P w = .ok cs.toList.toArray w :=
    run_loadCells_list (P := P) w ⟨b, o, none⟩ cs.toList (fun j v hv => by
      rw [Addr.add_lit, hc j (by simpa using (List.getElem?_eq_some_iff.1 hv).1)]
      simpa using hv)
  cases hq : P.info? ty with
  | none => simp [hq] at hi
  | some i =>
    have hs : i.size = cs.size := by simpa [hq] using hi
    have hagg : (isAgg ty).run P w = .ok true w := by
      unfold isAgg
      rw [Sem.run_bind, run_underlying hu w]
      cases d <;> simp_all
    simp only [Array.length_toList, Array.toArray_toList] at hl
    simp [loadVar, Sem.run_bind, hagg, sizeOf, typeInfo, hq, hs, hl]
theorem wpList_load_cells {ops : Array Oper} {rest : List Oper} {o : Oper} {a : Act} {w : World} {Q : Exit → Act → World → Prop} (hgd : o.guard = none) (ty : TypeId) (x : Operand) (ho : o.op = .load ty x)
    (b off : Nat) (hx : a.eval x = .pointer (some ⟨b, off, none⟩)) (cs : Array Value) (d : TypeDesc) (hc : ∀ j, j < cs.size → w.cell? ⟨b, off + j, none⟩ = cs[j]?)
    (hu : P.underlying ty = some d) (hd : (match d with | .struct _ | .array _ _ => true | _ => false) = true) (hi : (P.info? ty).map (·.size) = some cs.size)
    (h : wpList P ops Q rest (a.put o.dst (.agg cs)) w) : wpList P ops Q (o :: rest) a w :=
  wpList_plain hgd fun _ hK => by
    unfold Oper.wp execOp
    simp only [ho, hx, Instr.loadAt, Instr.sureAddr, Sem.run_bind, Sem.run_pure, Result.andThen_ok, run_loadVar_cells w b off ty cs d hc hu hd hi]
    exact hK _ _ h
/-- a new box is filled -/
theorem wpList_box_row {ops : Array Oper} {rest : List Oper} {o : Oper} {a : Act} {w : World} {Q : Exit → Act → World → Prop} (hgd : o.guard = none) (ty : TypeId) (x y : Operand) (ho : o.op = .store ty x y)
    (Z cells : Array Value) (t : TypeId) (hx : a.eval x = .pointer (some ⟨w.heap.size, 0, none⟩)) (hy : a.eval y = .agg cells) (hi : (P.info? ty).map (·.size) = some cells.size)
    (hold : Z.size = cells.size) (h1 : cells.all (·.oneCell') = true)
    (h : ∀ w2, Chg [] w w2 → w.heap.size < w2.heap.size → (∀ j, w2.cell? ⟨w.heap.size, j, none⟩ = cells[j]?) → wpList P ops Q rest (a.put o.dst undef) w2) :
    wpList P ops Q (o :: rest) a (w.alloc (.cells Z t)) :=
  wpList_store_row hgd ty x y ho w.heap.size cells hx hy t Z (heap_alloc_new _ _) hi hold h1
    (h _ (((Chg.refl [] w).alloc _).setRow (.inr (Nat.le_refl _)) _) (by simp) fun j => cell_setRow_same _ _ _ Z cells t (0, 0) (heap_alloc_new _ _))
end

/-! which deeds are late -/
def badN (x : Int) : Bool := decide (x < 0) || decide (1099511627776 < x)
def badD (d : Dd) : Bool := badN d.steps || badN d.ahead || badN d.frm || badN d.to
def lateD (own turn : Int) (d : Dd) : Bool := if d.tag = 2 then decide (0 ≤ d.mark) && decide ((d.ahead + 1) * turn < d.to - d.frm) else decide (own < d.steps)
def fstLate (p : Dd → Bool) : List Dd → Nat → Int
  | [], _ => -1
  | d :: l, k => if p d then (k : Int) else fstLate p l (k + 1)
theorem fst_hit (p : Dd → Bool) : ∀ (l : List Dd) (s k : Nat) (d : Dd), l[k]? = some d → p d = true → (∀ j x, j < k → l[j]? = some x → p x = false) → fstLate p l s = ((s + k : Nat) : Int)
  | [], _, _, _, h, _, _ => by simp at h
  | x :: l, s, 0, d, h, hp, _ => by simp at h; subst h; simp [fstLate, hp]
  | x :: l, s, k + 1, d, h, hp, hn => by
    have h0 := hn 0 x (by omega) rfl
    rw [fstLate, if_neg (by simp [h0]), fst_hit p l (s + 1) k d (by simpa using h) hp fun j y hj hy => hn (j + 1) y (by omega) (by simpa using hy)]
    omega
theorem fst_none (p : Dd → Bool) : ∀ (l : List Dd) (s : Nat), (∀ x ∈ l, p x = false) → fstLate p l s = -1
  | [], _, _ => rfl
  | x :: l, s, h => by rw [fstLate, if_neg (by simp [h x (by simp)])]; exact fst_none p l (s + 1) fun y hy => h y (by simp [hy])

def lateI (c t f r : Int) (l : List Dd) : Int := if okC c t f r then (if l.any badD then 0 else fstLate (lateD (readB c t f r) (writeB c t f r)) l 0) else 0
def lateE (c t f r : Int) (l : List Dd) : Int := if okC c t f r then (if l.any badD then 170 else 0) else 1

def Dd.arr (d : Dd) : Array Value := #[.int .i64 d.i0, .int .i64 d.i1, .int .i64 d.i2, .int .i64 d.tag, .slice d.a0 d.n0 d.c0, .int .i64 d.mark, .int .i64 d.num, .slice d.a1 d.n1 d.c1, .slice d.a2 d.n2 d.c2, .slice d.a3 d.n3 d.c3, .int .i64 d.e0, .int .i64 d.e1, .int .i64 d.e2, .int .i64 d.beg, .int .i64 d.fin, .int .i64 d.steps, .int .i64 d.ahead, .int .i64 d.frm, .int .i64 d.to]
theorem Dd.arr_row (d : Dd) (j : Nat) : d.arr[j]? = d.row[j]? := by
  show d.row.toArray[j]? = _
  simp
theorem Dd.arr_one (d : Dd) : d.arr.all (·.oneCell') = true := by simp [Dd.arr, Value.oneCell']
theorem size63 (cs : Array Value) (h : cs.size = 19) : (Try.prog.info? 63).map (·.size) = some cs.size := by rw [h]; kernel_rfl

theorem deedAt {w : World} {v : Value} {l : List Dd} (h : Rd w 19 v (l.map Dd.row)) {k : Nat} (hk : k < l.length) :
    ∃ b off c d, v = .slice (some ⟨b, off, none⟩) l.length c ∧ b < w.heap.size ∧ l[k]? = some d ∧ ∀ j, j < d.arr.size → w.cell? ⟨b, off + k * 19 + j, none⟩ = d.arr[j]? := by
  obtain ⟨b, off, c, e, hb, hc⟩ := h.blk (by simp; omega)
  simp only [List.length_map] at e hc
  refine ⟨b, off, c, l[k], e, hb, List.getElem?_eq_getElem hk, fun j hj => ?_⟩
  have := hc k j hk hj
  rw [this, Dd.arr_row]
  simp [List.getD, List.getElem?_map, List.getElem?_eq_getElem hk]

end Go.Proofs.Ytldhlkkclmifmaa
