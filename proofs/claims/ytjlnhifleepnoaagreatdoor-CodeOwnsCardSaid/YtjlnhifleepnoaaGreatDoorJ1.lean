import Derived.Test.YtjlnhifleepnoaaGreatDoorK15
import Derived.Test.YtjlnhifleepnoaaGreatDoorC1
import Derived.Deep.AppendLies
set_option linter.unusedVariables false
set_option linter.unusedSimpArgs false
namespace Go.Proofs.YtjlnhifleepnoaaGreatDoor
open Go.RowKit

/-- The cells of a row of instructions. -/
def flat (l : List Ins) : List Value := (l.map Ins.row).flatten
theorem flat_len (l : List Ins) : (flat l).length = l.length * 3 := by
  induction l with
  | nil => rfl
  | cons p l ih => simp [flat, Ins.row] at *; omega
theorem flat_app (l m : List Ins) : flat (l ++ m) = flat l ++ flat m := by simp [flat]
theorem flat_at (l : List Ins) (i j : Nat) (hi : i < l.length) (hj : j < 3) : (flat l)[i * 3 + j]? = ((l.map Ins.row).getD i [])[j]? := by
  induction l generalizing i with
  | nil => simp at hi
  | cons p l ih =>
    cases i with
    | zero =>
      have h : flat (p :: l) = p.row ++ flat l := by simp [flat]
      rw [h, List.getElem?_append_left (by simp [Ins.row]; omega)]
      simp
    | succ i =>
      have h : flat (p :: l) = p.row ++ flat l := by simp [flat]
      have hl : p.row.length = 3 := rfl
      rw [h, List.getElem?_append_right (by omega), hl, show (i + 1) * 3 + j - 3 = i * 3 + j by omega, ih i (by simpa using hi)]
      simp

theorem under27 : Tryz.prog.underlying 23 = some (.slice 33) := by kernel_rfl
theorem info41 : (Tryz.prog.info? 33).map (fun i => (i.zero, i.size, i.bytes)) = some (some (.agg #[.int .i64 0, .int .i64 0, .float .f64 0]), 3, 24) := by kernel_rfl

/-- v owns, from block B on, a row that holds the instructions l. -/
def OwnC (w : World) (B : Nat) (v : Value) (l : List Ins) : Prop := w.ownsRow B 33 3 v l.length (flat l)
theorem OwnC.nil (w : World) (B : Nat) : OwnC w B (.slice none 0 0) [] := ⟨rfl, .inl ⟨rfl, rfl⟩⟩
theorem OwnC.blk {w : World} {B : Nat} {v : Value} {l : List Ins} (h : OwnC w B v l) : ∀ k, v.ownBlock = some k → B ≤ k ∧ k < w.heap.size := fun k hk => ⟨(World.ownsRow.lt h k hk).1, (World.ownsRow.lt h k hk).2⟩
theorem OwnC.keep {w w' : World} {B : Nat} {v : Value} {l : List Ins} {S : List Nat} (h : OwnC w B v l) (c : Chg S w w') (hs : ∀ k, v.ownBlock = some k → k ∉ S) : OwnC w' B v l := by
  refine ⟨h.1, ?_⟩
  rcases h.2 with h1 | ⟨g, cap, cur, h1, hB, hg, hn⟩
  · exact .inl h1
  · exact .inr ⟨g, cap, cur, h1, hB, (c.block g (lt_of_heap hg) (hs g (by rw [h1]; rfl))).trans hg, hn⟩
theorem OwnC.keep0 {w w' : World} {B : Nat} {v : Value} {l : List Ins} (h : OwnC w B v l) (c : Chg [] w w') : OwnC w' B v l := h.keep c (by simp)
theorem OwnC.mono {w : World} {B B' : Nat} {v : Value} {l : List Ins} (h : OwnC w B v l) (hb : B' ≤ B) : OwnC w B' v l := by
  refine ⟨h.1, ?_⟩
  rcases h.2 with h1 | ⟨g, cap, cur, h1, hB, hg⟩
  · exact .inl h1
  · exact .inr ⟨g, cap, cur, h1, by omega, hg⟩
theorem OwnC.rd {w : World} {B : Nat} {v : Value} {l : List Ins} (h : OwnC w B v l) : RdC w v l := by
  rcases h.2 with ⟨h1, h2⟩ | ⟨g, cap, cur, h1, hB, hg, hn, hm, hs, ht⟩
  · exact .inl ⟨by rw [List.eq_nil_of_length_eq_zero h2]; rfl, .inl h1⟩
  · subst h1
    rcases Nat.eq_zero_or_pos l.length with h0 | h0
    · exact .inl ⟨by rw [List.eq_nil_of_length_eq_zero h0]; rfl, .inr ⟨⟨g, 0, none⟩, cap, by rw [h0]⟩⟩
    · refine .inr ⟨g, 0, cap, by simp, by simpa using h0, lt_of_heap hg, fun i j hi hj => ?_⟩
      have hown : w.ownsRow B 33 3 (.slice (some ⟨g, 0, none⟩) l.length cap) l.length (flat l) := h
      have hi' : i < l.length := by simpa using hi
      rw [Nat.zero_add, hown.cellAt (i * 3 + j) (by omega)]
      exact flat_at l i j hi' hj
theorem OwnC.form {w : World} {B : Nat} {v : Value} {l : List Ins} (h : OwnC w B v l) : ∃ a c, v = .slice a l.length c := by
  rcases h.2 with ⟨h1, h2⟩ | ⟨g, cap, cur, h1, _⟩
  · exact ⟨none, 0, by rw [h1, h2]⟩
  · exact ⟨_, _, h1⟩

def wrongE (e n : Int) : Ending := .panicked [{ v := .iface 40 (.agg #[.int .i64 e, .int .i64 n]), recovered := false }]
/-- How read ends. -/
def ReadPost (w : World) : Except (Int × Int) (Int × List Ins) → Ending → World → Prop
  | .error x, e, w' => e = wrongE x.1 x.2 ∧ Below w.heap.size w w'
  | .ok x, e, w' => ∃ v, e = .returned (.agg #[.int .i64 x.1, v]) ∧ OwnC w' w.heap.size v x.2 ∧ Below w.heap.size w w'

theorem res_of_rows {w : World} {g : Nat} {t l e a : Value} {T1 T2 T3 : TypeId} (h0 : w.heap[g]? = some (.cells #[t, l] T1 (0, 0))) (h1 : w.heap[g + 1]? = some (.cells #[e] T2 (0, 0))) (h2 : w.heap[g + 2]? = some (.cells #[a] T3 (0, 0))) : Res w g t l e a :=
  ⟨cell_of_row _ _ _ _ _ _ h0, cell_of_row _ _ _ _ _ _ h0, cell_of_row _ _ _ _ _ _ h1, cell_of_row _ _ _ _ _ _ h2, frozen_of_row _ _ _ _ _ h0, frozen_of_row _ _ _ _ _ h0, frozen_of_row _ _ _ _ _ h1, frozen_of_row _ _ _ _ _ h2⟩
theorem res_new (w : World) (t l e a : Value) (T1 T2 T3 : TypeId) : Res (((w.alloc (.cells #[t, l] T1)).alloc (.cells #[e] T2)).alloc (.cells #[a] T3)) w.heap.size t l e a := by
  refine res_of_rows (T1 := T1) (T2 := T2) (T3 := T3) ?_ ?_ ?_
  · rw [Below.heap_alloc _ _ _ (by simp; omega), Below.heap_alloc _ _ _ (by simp)]; exact heap_alloc_new _ _
  · rw [Below.heap_alloc _ _ _ (by simp)]
    simpa using heap_alloc_new (w.alloc (.cells #[t, l] T1)) (.cells #[e] T2)
  · simpa using heap_alloc_new ((w.alloc (.cells #[t, l] T1)).alloc (.cells #[e] T2)) (.cells #[a] T3)
theorem Res.below {w w' : World} {g : Nat} {t l e a : Value} (h : Res w g t l e a) (b : Below (g + 3) w w') : Res w' g t l e a := by
  obtain ⟨p0, p1, q, r, f0, f1, f2, f3⟩ := h
  exact ⟨(b.cell (by simp)).trans p0, (b.cell (by simp)).trans p1, (b.cell (by simp)).trans q, (b.cell (by simp)).trans r, (b.frozen (by simp)).trans f0, (b.frozen (by simp)).trans f1, (b.frozen (by simp)).trans f2, (b.frozen (by simp)).trans f3⟩
theorem res_set {w : World} {g : Nat} {t l e a t' l' e' a' : Value} (h : Res w g t l e a) : Res ((((w.setCell ⟨g, 0, none⟩ t').setCell ⟨g, 1, none⟩ l').setCell ⟨g + 1, 0, none⟩ e').setCell ⟨g + 2, 0, none⟩ a') g t' l' e' a' := by
  obtain ⟨p0, p1, q, r, f0, f1, f2, f3⟩ := h
  constructor <;> simp [go_sem, p0, p1, q, r, f0, f1, f2, f3]

/-- The results, read out of their cells. -/
theorem res_out {w : World} {g : Nat} {t e a : Int} {l : Value} {T : Array Value} (h : Res w g (.int .i64 t) l (.int .i64 e) (.int .i64 a)) (h2 : T[2]? = some (.pointer (some ⟨g, 0, none⟩))) (h3 : T[3]? = some (.pointer (some ⟨g + 1, 0, none⟩))) (h4 : T[4]? = some (.pointer (some ⟨g + 2, 0, none⟩))) : (results Tryz.f6 T).run Tryz.prog w = .ok (.tuple #[.agg #[.int .i64 t, l], .int .i64 e, .int .i64 a]) w := by
  obtain ⟨p0, p1, q, r, f0, f1, f2, f3⟩ := h
  simp [results, Tryz.f6, Tryz.results6, go_sem, p0, p1, q, r, h2, h3, h4]

def CodePost (w : World) : Except (Int × Int) (Int × List Ins) → Ending → World → Prop
  | .error x, e, w' => e = .returned (.tuple #[.agg #[.int .i64 0, .slice none 0 0], .int .i64 x.1, .int .i64 x.2]) ∧ Below w.heap.size w w'
  | .ok x, e, w' => ∃ v, e = .returned (.tuple #[.agg #[.int .i64 x.1, v], .int .i64 0, .int .i64 0]) ∧ OwnC w' w.heap.size v x.2 ∧ Below w.heap.size w w'
end Go.Proofs.YtjlnhifleepnoaaGreatDoor
