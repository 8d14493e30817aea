import Derived.Test.YtjlnhifleepnoaaDoorFR
import Derived.Deep.Slices
import Derived.Deep.Fields
import Derived.Laws.Cover2
set_option linter.unusedVariables false
set_option linter.unusedSimpArgs false
namespace Go.Proofs.YtjlnhifleepnoaaDoor
open Go.ChangeShapes Go.WideShapes Go.ChangeAt Go.RowKit Go.Deep

theorem laidOut : laidOutB Tryd.prog = true := by kernel_rfl
theorem trod_float {H : Type} {enc : TypeId × Value → H} {P : Program} {w : World} {base : Nat} {spare : Nat → Bool} {held : Bool} {t : TypeId} {fuel : Nat} {cs : List Value} {x : DataW H × List MemPlace} {k : FloatKind} (ht : P.underlying t = some (.float k)) (h : DataW.trod enc P w base spare held fuel t cs = some x) :
    ∃ b, cs = [.float k b] ∧ x = (.lit (.float k b), []) ∧ (Lit.float k b).wf = true := by
  cases fuel with
  | zero => simp [DataW.trod] at h
  | succ n =>
    unfold DataW.trod at h
    rw [ht] at h
    split at h <;> simp_all

/-- A slice that came in, read element by element. -/
theorem rd_open {H : Type} {enc : TypeId × Value → H} {P : Program} {W : World} {t e size : Nat} {cs : List Value} {x : DataW H × List MemPlace} {fuel : Nat} {G : List Value → Prop}
    (hu : P.underlying t = some (.slice e)) (hc : P.cellsOf e = size) (hpos : 0 < size) (h : DataW.trod enc P W 0 (fun _ => true) true fuel t cs = some x)
    (hG : ∀ n cs y, cs.length = size → DataW.trod enc P W 0 (fun _ => true) true n e cs = some y → G cs) :
    ∃ v rows, cs = [v] ∧ Rd W size v rows ∧ (∀ r ∈ rows, G r ∧ r.length = size) ∧ rows.length ≤ 9223372036854775807 ∧ ((x.1 = .nil ∧ rows = []) ∨ ∃ el sp, x.1 = .slice el sp ∧ el.length = rows.length) := by
  rcases open_slice hu h with ⟨rfl, rfl⟩ | ⟨a, len, cap, m, n, D, Pl, rfl, _, hl, hm, hmm, rfl, hx⟩
  · exact ⟨_, [], rfl, .inl ⟨rfl, .inl rfl⟩, by simp, by simp, .inl ⟨rfl, rfl⟩⟩
  · simp only [if_true] at hmm
    subst hmm
    rw [hc] at hx
    obtain ⟨R, hR⟩ := choose_lt (α := List Value) (p := fun i r => W.cells? 0 (a.add (i * size)) size = some r ∧ DataW.trod enc P W 0 (fun _ => true) true n e r = some (D i, Pl i)) hx
    have hlen : ((List.range len).map R).length = len := by simp
    refine ⟨_, (List.range len).map R, rfl, ?_, ?_, by rw [hlen]; unfold maxLen at hm; omega, .inr ⟨_, _, rfl, by simp⟩⟩
    · rcases Nat.eq_zero_or_pos len with h0 | h0
      · subst h0; exact .inl ⟨rfl, .inr ⟨a, m, rfl⟩⟩
      · obtain ⟨b, off, spot⟩ := a
        have h00 := World.cells?_some (hR 0 (by omega)).1
        have hcell0 := h00.2.2 0 hpos
        have hsome : ∃ u, W.cell? ((⟨b, off, spot⟩ : Addr).add (0 * size) |>.add 0) = some u := ⟨_, by rw [hcell0, List.getElem?_eq_getElem (by rw [h00.2.1]; exact hpos)]⟩
        obtain ⟨u, hu0⟩ := hsome
        have hspot : spot = none := by simpa [Addr.add] using World.cell?_spot hu0
        subst hspot
        refine .inr ⟨b, off, m, by rw [hlen], by omega, ?_, fun i j hi hj => ?_⟩
        · have := block_lt_of_cell hu0; simpa [Addr.add] using this
        · have hi' : i < len := by omega
          have h1 := World.cells?_some (hR i (by omega)).1
          have h2 := h1.2.2 j hj
          rw [Addr.add_lit, Addr.add_lit] at h2
          rw [h2]
          simp [List.getD, hi']
    · intro r hr
      obtain ⟨i, hi, rfl⟩ := List.mem_map.1 hr
      have hi' : i < m := by have := List.mem_range.1 hi; omega
      have h1 := World.cells?_some (hR i hi').1
      exact ⟨hG n _ _ h1.2.1 (hR i hi').2, h1.2.1⟩

set_option maxRecDepth 100000 in
theorem ins_cells {H : Type} {enc : TypeId × Value → H} {W : World} {n : Nat} {cs : List Value} {y : DataW H × List MemPlace} (hl : cs.length = 3)
    (h : DataW.trod enc Tryd.prog W 0 (fun _ => true) true n 41 cs = some y) : ∃ p : Ins, cs = p.row ∧ p.x < 18446744073709551616 := by
  obtain ⟨xs, m, _, _, _, hlen, hf⟩ := DataW.trod_struct Tryd.underlying41 h
  match cs, hl with
  | [v0, v1, v2], _ =>
    have g0 : DataW.trod enc Tryd.prog W 0 (fun _ => true) true m 3 ((List.drop 0 [v0, v1, v2]).take (Tryd.prog.cellsOf 3)) = xs[0]? := hf 0 _ rfl
    have g1 : DataW.trod enc Tryd.prog W 0 (fun _ => true) true m 3 ((List.drop 1 [v0, v1, v2]).take (Tryd.prog.cellsOf 3)) = xs[1]? := hf 1 _ rfl
    have g2 : DataW.trod enc Tryd.prog W 0 (fun _ => true) true m 39 ((List.drop 2 [v0, v1, v2]).take (Tryd.prog.cellsOf 39)) = xs[2]? := hf 2 _ rfl
    have c3 : Tryd.prog.cellsOf 3 = 1 := by kernel_rfl
    have c39 : Tryd.prog.cellsOf 39 = 1 := by kernel_rfl
    rw [c3] at g0 g1
    rw [c39] at g2
    simp only [List.drop_zero, List.drop_succ_cons, List.take_succ_cons, List.take_zero, List.drop_nil] at g0 g1 g2
    obtain ⟨y0, hy0⟩ : ∃ y, xs[0]? = some y := ⟨xs[0]'(by simp [hlen]), List.getElem?_eq_getElem _⟩
    obtain ⟨y1, hy1⟩ : ∃ y, xs[1]? = some y := ⟨xs[1]'(by simp [hlen]), List.getElem?_eq_getElem _⟩
    obtain ⟨y2, hy2⟩ : ∃ y, xs[2]? = some y := ⟨xs[2]'(by simp [hlen]), List.getElem?_eq_getElem _⟩
    rw [hy0] at g0
    rw [hy1] at g1
    rw [hy2] at g2
    obtain ⟨p, e0, _, w0⟩ := DataW.trod_int Tryd.underlying3 g0
    obtain ⟨q, e1, _, w1⟩ := DataW.trod_int Tryd.underlying3 g1
    obtain ⟨x, e2, _, w2⟩ := trod_float Tryd.underlying39 g2
    simp at e0 e1 e2
    subst e0 e1 e2
    exact ⟨⟨p, q, x⟩, rfl, by simpa [Lit.wf] using w2⟩

theorem rows_ins : ∀ rows : List (List Value), (∀ r ∈ rows, ∃ p : Ins, r = p.row ∧ p.x < 18446744073709551616) → ∃ l : List Ins, rows = l.map Ins.row ∧ ∀ p ∈ l, p.x < 18446744073709551616
  | [], _ => ⟨[], rfl, by simp⟩
  | r :: rows, h => by
    obtain ⟨l, rfl, hl⟩ := rows_ins rows fun x hx => h x (by simp [hx])
    obtain ⟨p, rfl, h1⟩ := h r (by simp)
    exact ⟨p :: l, rfl, fun x hx => by
      rcases List.mem_cons.1 hx with rfl | hx
      · exact h1
      · exact hl x hx⟩

/-- A program that came in. -/
def InProg (w : World) (v : Value) : Prop := ∃ (tag : Int) (sl : Value) (l : List Ins), v = .agg #[.int .i64 tag, sl] ∧ RdC w sl l ∧ (∀ p ∈ l, p.x < 18446744073709551616) ∧ l.length * 24 ≤ 140737488351232

theorem bytes41 : Tryd.prog.bytesOf 41 = 24 := by kernel_rfl
set_option maxRecDepth 100000 in
theorem open_prog {H : Type} {enc : TypeId × Value → H} {W : World} {base : Nat} {v : Value} {d : DataW H} {p : List MemPlace} {ts : List TypeId} {ds : List (DataW H)} {j : Nat}
    (hv : Value.okWide Tryd.prog W .any base 29 v) (h : DataW.Trod enc Tryd.prog W 0 (fun _ => true) true 29 v d p)
    (hsz : (DataW.weightsEach Tryd.prog ts ds).all (· ≤ reachBytes) = true) (ht : ts[j]? = some 29) (hd : ds[j]? = some d) : InProg W v := by
  obtain ⟨cs, rfl, hs⟩ := okWide_struct Tryd.underlying29 hv
  obtain ⟨fuel, hf⟩ := h
  obtain ⟨y0, y1, n, hdp, hl, g0, g1⟩ := trod_struct2 Tryd.underlying29 hf
  simp only [Prod.mk.injEq] at hdp
  obtain ⟨rfl, rfl⟩ := hdp
  have c3 : Tryd.prog.cellsOf 3 = 1 := by kernel_rfl
  have c27 : Tryd.prog.cellsOf 27 = 1 := by kernel_rfl
  have c29 : Tryd.prog.cellsOf 29 = 2 := by kernel_rfl
  obtain ⟨cs⟩ := cs
  rw [c29] at hs
  match cs, hs with
  | [a, b], _ =>
    simp only [c3, c27] at g0 g1
    simp [Value.cells] at g0 g1
    obtain ⟨tag, e0, _, w0⟩ := DataW.trod_int Tryd.underlying3 g0
    obtain ⟨u, rows, hcs, hrd, hG, hlen, hx⟩ := rd_open (G := fun r => ∃ p : Ins, r = p.row ∧ p.x < 18446744073709551616) Tryd.underlying27 (size := 3) (by kernel_rfl) (by decide) g1
      (fun n cs y hl hy => ins_cells hl hy)
    simp at e0 hcs
    subst e0 hcs
    obtain ⟨l, rfl, hlx⟩ := rows_ins rows fun r hr => (hG r hr).1
    refine ⟨tag, _, l, rfl, hrd, hlx, ?_⟩
    rcases hx with ⟨_, h0⟩ | ⟨el, sp, hel, he⟩
    · have : l = [] := by simpa using h0
      simp [this]
    · have hreach := List.all_eq_true.1 hsz _ (DataW.weights_mem_each ht hd ((el.length + sp.length) * Tryd.prog.bytesOf 41) (by simp [DataW.weights, DataW.weightsEach, Tryd.underlying29, hel, Tryd.underlying27]))
      rw [bytes41, he, List.length_map] at hreach
      simp [reachBytes] at hreach
      have := of_decide_eq_true hreach
      omega
end Go.Proofs.YtjlnhifleepnoaaDoor
