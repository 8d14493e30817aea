import Derived.Test.YtldhlkkclmifmaaFrame
import Derived.Deep.Slices
import Derived.Deep.Fields
set_option linter.unusedVariables false
set_option linter.unusedSimpArgs false
namespace Go.Proofs.Ytldhlkkclmifmaa
open Go.ChangeShapes Go.WideShapes Go.ChangeAt Go.RowKit Go.Deep

/-- The slice v reads as these rows of cells, 'size' cells each. -/
def Rd (w : World) (size : Nat) (v : Value) (rows : List (List Value)) : Prop :=
  (rows = [] ∧ (v = .slice none 0 0 ∨ ∃ a c, v = .slice (some a) 0 c)) ∨
  ∃ b off c, v = .slice (some ⟨b, off, none⟩) rows.length c ∧ 0 < rows.length ∧ b < w.heap.size ∧ ∀ i j, i < rows.length → j < size → w.cell? ⟨b, off + i * size + j, none⟩ = (rows.getD i [])[j]?

theorem Rd.slice {w size v l} (h : Rd w size v l) : ∃ a c, v = .slice a l.length c := by
  rcases h with ⟨rfl, h | ⟨a, c, h⟩⟩ | ⟨b, off, c, h, _⟩
  · exact ⟨_, _, h⟩
  · exact ⟨_, _, h⟩
  · exact ⟨_, _, h⟩
theorem Rd.blk {w size v l} (h : Rd w size v l) (hl : 0 < l.length) : ∃ b off c, v = .slice (some ⟨b, off, none⟩) l.length c ∧ b < w.heap.size ∧ ∀ i j, i < l.length → j < size → w.cell? ⟨b, off + i * size + j, none⟩ = (l.getD i [])[j]? := by
  rcases h with ⟨rfl, _⟩ | ⟨b, off, c, h, _, hb, hc⟩
  · simp at hl
  · exact ⟨b, off, c, h, hb, hc⟩
theorem Rd.keep {w w' : World} {size : Nat} {v : Value} {l : List (List Value)} {S : List Nat} (h : Rd w size v l) (c : Chg S w w') (hs : ∀ k, v.ownBlock = some k → k ∉ S) : Rd w' size v l := by
  rcases h with h | ⟨b, off, k, rfl, hl, hb, hc⟩
  · exact .inl h
  · refine .inr ⟨b, off, k, rfl, hl, Nat.lt_of_lt_of_le hb c.size, fun i j hi hj => ?_⟩
    rw [World.cell?_of_block (w := w) (c.block b hb (hs b rfl))]
    exact hc i j hi hj
theorem Rd.keep0 {w w' : World} {size : Nat} {v : Value} {l : List (List Value)} (h : Rd w size v l) (c : Chg [] w w') : Rd w' size v l := h.keep c (by simp)

/-- A slice that came in, read element by element. -/
theorem rd_open {H : Type} {enc : TypeId × Value → H} {P : Program} {W : World} {t e size : Nat} {cs : List Value} {x : DataW H × List MemPlace} {fuel : Nat} {G : List Value → Prop}
    (hu : P.underlying t = some (.slice e)) (hc : P.cellsOf e = size) (hpos : 0 < size) (h : DataW.trod enc P W 0 (fun _ => true) true fuel t cs = some x)
    (hG : ∀ n cs y, cs.length = size → DataW.trod enc P W 0 (fun _ => true) true n e cs = some y → G cs) :
    ∃ v rows, cs = [v] ∧ Rd W size v rows ∧ (∀ r ∈ rows, G r ∧ r.length = size) ∧ rows.length ≤ 9223372036854775807 ∧ ((x.1 = .nil ∧ rows = []) ∨ ∃ el sp, x.1 = .slice el sp ∧ el.length = rows.length) := by
  rcases open_slice hu h with ⟨rfl, rfl⟩ | ⟨a, len, cap, m, n, D, Pl, rfl, _, hl, hm, hmm, rfl, hx⟩
  · exact ⟨_, [], rfl, .inl ⟨rfl, .inl rfl⟩, by simp, by simp, .inl ⟨rfl, rfl⟩⟩
  · simp only [if_true] at hmm
    subst hmm
    rw [hc] at hx
    obtain ⟨R, hR⟩ := choose_lt (α := List Value) (p := fun i r => W.cells? 0 (a.add (i * size)) size = some r ∧ DataW.trod enc P W 0 (fun _ => true) true n e r = some (D i, Pl i)) hx
    have hlen : ((List.range len).map R).length = len := by simp
    refine ⟨_, (List.range len).map R, rfl, ?_, ?_, by rw [hlen]; unfold maxLen at hm; omega, .inr ⟨_, _, rfl, by simp⟩⟩
    · rcases Nat.eq_zero_or_pos len with h0 | h0
      · subst h0; exact .inl ⟨rfl, .inr ⟨a, m, rfl⟩⟩
      · obtain ⟨b, off, spot⟩ := a
        have h00 := World.cells?_some (hR 0 (by omega)).1
        have hcell0 := h00.2.2 0 hpos
        have hsome : ∃ u, W.cell? ((⟨b, off, spot⟩ : Addr).add (0 * size) |>.add 0) = some u := ⟨_, by rw [hcell0, List.getElem?_eq_getElem (by rw [h00.2.1]; exact hpos)]⟩
        obtain ⟨u, hu0⟩ := hsome
        have hspot : spot = none := by simpa [Addr.add] using World.cell?_spot hu0
        subst hspot
        refine .inr ⟨b, off, m, by rw [hlen], by omega, ?_, fun i j hi hj => ?_⟩
        · have := block_lt_of_cell hu0; simpa [Addr.add] using this
        · have hi' : i < len := by omega
          have h1 := World.cells?_some (hR i (by omega)).1
          have h2 := h1.2.2 j hj
          rw [Addr.add_lit, Addr.add_lit] at h2
          rw [h2]
          simp [List.getD, hi']
    · intro r hr
      obtain ⟨i, hi, rfl⟩ := List.mem_map.1 hr
      have hi' : i < m := by have := List.mem_range.1 hi; omega
      have h1 := World.cells?_some (hR i hi').1
      exact ⟨hG n _ _ h1.2.1 (hR i hi').2, h1.2.1⟩

theorem two_ints {H : Type} {enc : TypeId × Value → H} {P : Program} {W : World} {t n : Nat} {cs : List Value} {y : DataW H × List MemPlace} {f0 f1 : Field}
    (hu : P.underlying t = some (.struct #[f0, f1])) (hl : cs.length = 2) (o0 : f0.offset = 0) (o1 : f1.offset = 1) (c0 : P.cellsOf f0.type = 1) (c1 : P.cellsOf f1.type = 1) (u0 : P.underlying f0.type = some (.int .i64)) (u1 : P.underlying f1.type = some (.int .i64))
    (h : DataW.trod enc P W 0 (fun _ => true) true n t cs = some y) : ∃ p q : Int, cs = [.int .i64 p, .int .i64 q] ∧ (Lit.int .i64 p).wf = true ∧ (Lit.int .i64 q).wf = true := by
  obtain ⟨xs, m, _, _, _, hlen, hf⟩ := DataW.trod_struct hu h
  match cs, hl with
  | [v0, v1], _ =>
    have g0 := hf 0 f0 rfl
    have g1 := hf 1 f1 rfl
    rw [o0, c0] at g0
    rw [o1, c1] at g1
    simp at g0 g1
    obtain ⟨y0, hy0⟩ : ∃ y, xs[0]? = some y := ⟨xs[0]'(by simp [hlen]), List.getElem?_eq_getElem _⟩
    obtain ⟨y1, hy1⟩ : ∃ y, xs[1]? = some y := ⟨xs[1]'(by simp [hlen]), List.getElem?_eq_getElem _⟩
    rw [hy0] at g0
    rw [hy1] at g1
    obtain ⟨p, e0, _, w0⟩ := DataW.trod_int u0 g0
    obtain ⟨q, e1, _, w1⟩ := DataW.trod_int u1 g1
    simp at e0 e1
    subst e0 e1
    exact ⟨p, q, rfl, w0, w1⟩

end Go.Proofs.Ytldhlkkclmifmaa
