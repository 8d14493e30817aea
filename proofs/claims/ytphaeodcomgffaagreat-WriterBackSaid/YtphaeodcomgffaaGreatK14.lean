import Derived.Test.YtphaeodcomgffaaGreatK11
set_option linter.unusedVariables false
set_option linter.unusedSimpArgs false
namespace Go.Proofs.YtphaeodcomgffaaGreat
open Go.RowKit

/-- The cells of the document's table. -/
def drowsC : Array Value := #[.string ⟨#[]⟩, .int .i64 (0), .int .i64 (0), .int .i64 0, .int .i64 0, .string ⟨#[112, 117, 115, 104]⟩, .int .i64 (0), .int .i64 (0), .int .i64 0, .int .i64 1, .string ⟨#[100, 114, 111, 112]⟩, .int .i64 (0), .int .i64 (0), .int .i64 1, .int .i64 0, .string ⟨#[100, 117, 112]⟩, .int .i64 (0), .int .i64 (0), .int .i64 1, .int .i64 2, .string ⟨#[115, 119, 97, 112]⟩, .int .i64 (0), .int .i64 (0), .int .i64 2, .int .i64 2, .string ⟨#[112, 105, 99, 107]⟩, .int .i64 (0), .int .i64 (63), .int .i64 0, .int .i64 1, .string ⟨#[97, 114, 103]⟩, .int .i64 (0), .int .i64 (7), .int .i64 0, .int .i64 1, .string ⟨#[103, 101, 116]⟩, .int .i64 (0), .int .i64 (7), .int .i64 0, .int .i64 1, .string ⟨#[115, 101, 116]⟩, .int .i64 (0), .int .i64 (7), .int .i64 1, .int .i64 0, .string ⟨#[]⟩, .int .i64 (1), .int .i64 (8), .int .i64 1, .int .i64 1, .string ⟨#[]⟩, .int .i64 (1), .int .i64 (12), .int .i64 2, .int .i64 1, .string ⟨#[106, 117, 109, 112]⟩, .int .i64 (-1), .int .i64 (-1), .int .i64 0, .int .i64 0, .string ⟨#[105, 102]⟩, .int .i64 (-1), .int .i64 (-1), .int .i64 1, .int .i64 0, .string ⟨#[117, 110, 108, 101, 115, 115]⟩, .int .i64 (-1), .int .i64 (-1), .int .i64 1, .int .i64 0, .string ⟨#[99, 97, 108, 108]⟩, .int .i64 (-1), .int .i64 (-1), .int .i64 0, .int .i64 0, .string ⟨#[114, 101, 116]⟩, .int .i64 (0), .int .i64 (0), .int .i64 0, .int .i64 0, .string ⟨#[114, 101, 97, 100]⟩, .int .i64 (0), .int .i64 (0), .int .i64 1, .int .i64 1, .string ⟨#[119, 114, 105, 116, 101]⟩, .int .i64 (0), .int .i64 (0), .int .i64 2, .int .i64 0, .string ⟨#[101, 109, 105, 116]⟩, .int .i64 (0), .int .i64 (0), .int .i64 1, .int .i64 0, .string ⟨#[97, 98, 111, 114, 116]⟩, .int .i64 (0), .int .i64 (99), .int .i64 0, .int .i64 0, .string ⟨#[104, 97, 108, 116]⟩, .int .i64 (0), .int .i64 (0), .int .i64 0, .int .i64 0]
/-- The least and the greatest number of an operation; -1: a place. -/
def loHi : List (Int × Int) := [(0, 0), (0, 0), (0, 0), (0, 0), (0, 0), (0, 63), (0, 7), (0, 7), (0, 7), (1, 8), (1, 12), (-1, -1), (-1, -1), (-1, -1), (-1, -1), (0, 0), (0, 0), (0, 0), (0, 0), (0, 99), (0, 0)]
def lhAt (op : Int) : Int × Int := loHi.getD op.toNat (0, 0)

set_option maxRecDepth 100000 in
set_option maxHeartbeats 4000000 in
theorem drows_walk (w : World) : Calls Tryz.prog 177 #[] w fun e w' => e = .returned (.slice (some ⟨w.heap.size, 0, none⟩) 21 21) ∧ ∃ T, w' = w.alloc (.cells drowsC T) := by
  go_enter Tryz.func177, Tryz.ntmps177
  go_wp2
  go_ret
  exact ⟨rfl, _, rfl⟩
theorem dcell (i : Nat) (hi : i < 21) : drowsC[i * 5]? = some (.string ⟨(rowAt (i : Int)).1.toArray⟩) ∧ drowsC[i * 5 + 1]? = some (.int .i64 (lhAt (i : Int)).1) ∧ drowsC[i * 5 + 2]? = some (.int .i64 (lhAt (i : Int)).2) ∧ drowsC[i * 5 + 3]? = some (.int .i64 (rowAt (i : Int)).2.2.1) ∧ drowsC[i * 5 + 4]? = some (.int .i64 (rowAt (i : Int)).2.2.2) := by
  rcases (by omega : i = 0 ∨ i = 1 ∨ i = 2 ∨ i = 3 ∨ i = 4 ∨ i = 5 ∨ i = 6 ∨ i = 7 ∨ i = 8 ∨ i = 9 ∨ i = 10 ∨ i = 11 ∨ i = 12 ∨ i = 13 ∨ i = 14 ∨ i = 15 ∨ i = 16 ∨ i = 17 ∨ i = 18 ∨ i = 19 ∨ i = 20) with rfl | rfl | rfl | rfl | rfl | rfl | rfl | rfl | rfl | rfl | rfl | rfl | rfl | rfl | rfl | rfl | rfl | rfl | rfl | rfl | rfl <;> exact ⟨rfl, rfl, rfl, rfl, rfl⟩
theorem dcell_at (w : World) (T : TypeId) (i : Nat) (hi : i < 21) : (w.alloc (.cells drowsC T)).cell? ⟨w.heap.size, i * 5, none⟩ = some (.string ⟨(rowAt (i : Int)).1.toArray⟩) ∧ (w.alloc (.cells drowsC T)).cell? ⟨w.heap.size, i * 5 + 1, none⟩ = some (.int .i64 (lhAt (i : Int)).1) ∧ (w.alloc (.cells drowsC T)).cell? ⟨w.heap.size, i * 5 + 2, none⟩ = some (.int .i64 (lhAt (i : Int)).2) ∧ (w.alloc (.cells drowsC T)).cell? ⟨w.heap.size, i * 5 + 3, none⟩ = some (.int .i64 (rowAt (i : Int)).2.2.1) ∧ (w.alloc (.cells drowsC T)).cell? ⟨w.heap.size, i * 5 + 4, none⟩ = some (.int .i64 (rowAt (i : Int)).2.2.2) := by
  have g := fun j => cell_of_row (w.alloc (.cells drowsC T)) w.heap.size j _ _ _ (heap_alloc_new w (.cells drowsC T))
  obtain ⟨a, b, c, d, e⟩ := dcell i hi
  exact ⟨(g _).trans a, (g _).trans b, (g _).trans c, (g _).trans d, (g _).trans e⟩

set_option maxRecDepth 100000 in
set_option maxHeartbeats 1000000 in
/-- The document's Effect. -/
theorem reffect_walk (op : Int) (w : World) : Calls Tryz.prog 141 #[.int .i64 op] w fun e w' => e = .returned (.tuple #[.int .i64 (effT op), .int .i64 (effL op), .int .i64 (effE op)]) ∧ Below w.heap.size w w' := by
  unfold effT effL effE
  by_cases h : inOp op
  case neg =>
    rw [if_neg h, if_neg h, if_neg h]
    unfold inOp at h
    rcases (by omega : op < 1 ∨ 20 < op) with h1 | h1
    · go_enter Tryz.func141, Tryz.ntmps141
      go_wp2
      go_ret3
      exact ⟨rfl, Below.refl _ _⟩
    · have h2 : ¬ op < 1 := by omega
      go_enter Tryz.func141, Tryz.ntmps141
      go_wp2
      go_ret3
      exact ⟨rfl, Below.refl _ _⟩
  rw [if_pos h, if_pos h, if_pos h]
  obtain ⟨h1, h2⟩ := h
  obtain ⟨i, rfl⟩ : ∃ i : Nat, op = (i : Int) := ⟨op.toNat, by omega⟩
  have h1' : ¬ (i : Int) < 1 := by omega
  have h2' : ¬ (20 : Int) < i := by omega
  have h3' : (i : Int) < 21 := by omega
  go_enter Tryz.func141, Tryz.ntmps141
  go_wp2_with (go_at_call 177; refine (drows_walk _).mono ?_; rintro e w1 ⟨rfl, T, hT⟩; obtain ⟨d0, d1, d2, d3, d4⟩ := dcell_at w T i (by omega); rw [← hT] at d0 d1 d2 d3 d4; have C1 := Lib.hid (show Chg [] w w1 from (by subst hT; exact (Chg.refl _ _).alloc _)); clear hT)
  go_region
  all_goals go_wp2
  all_goals go_ret3
  all_goals exact ⟨rfl, below_of_chg (by first | exact C1.out.alloc _ | exact (C1.out.alloc _).drew)⟩
end Go.Proofs.YtphaeodcomgffaaGreat
set_option linter.unusedVariables false
set_option linter.unusedSimpArgs false
namespace Go.Proofs.YtphaeodcomgffaaGreat
open Go.RowKit

theorem below_alloc (w : World) (o : Obj) : Below w.heap.size w (w.alloc o) := below_of_chg ((Chg.refl _ _).alloc _)
theorem zrow {wr W : World} {g : Nat} {o : Obj} (c : Chg [] wr W) (h : wr.heap[g]? = some o) : W.heap[g]? = some o := (c.block _ (lt_of_heap h) (by simp)).trans h
theorem below_drew (w : World) : Below w.heap.size w w.drew := below_of_chg (Chg.refl _ _).drew

theorem old_row {W w1 : World} {cs : Array Value} {T : TypeId} (b : Below (W.alloc (.cells cs T)).drew.heap.size (W.alloc (.cells cs T)).drew w1) : w1.heap[W.heap.size]? = some (.cells cs T (0, 0)) :=
  (b.block _ (by simp)).trans (heap_alloc_new W _)
theorem row4 {w1 : World} {g : Nat} {c0 c1 c2 c3 : Value} {T : TypeId} (h : w1.heap[g]? = some (.cells #[c0, c1, c2, c3] T (0, 0))) : (w1.cell? ⟨g, 0, none⟩ = some c0 ∧ w1.cell? ⟨g, 1, none⟩ = some c1 ∧ w1.cell? ⟨g, 2, none⟩ = some c2 ∧ w1.cell? ⟨g, 3, none⟩ = some c3) ∧ w1.frozen? ⟨g, 0, none⟩ = false ∧ w1.frozen? ⟨g, 1, none⟩ = false ∧ w1.frozen? ⟨g, 2, none⟩ = false ∧ w1.frozen? ⟨g, 3, none⟩ = false :=
  ⟨⟨cell_of_row _ _ _ _ _ _ h, cell_of_row _ _ _ _ _ _ h, cell_of_row _ _ _ _ _ _ h, cell_of_row _ _ _ _ _ _ h⟩, frozen_of_row _ _ _ _ _ h, frozen_of_row _ _ _ _ _ h, frozen_of_row _ _ _ _ _ h, frozen_of_row _ _ _ _ _ h⟩

/-- An instruction's box and its row's. -/
structure LBox (w W : World) (g : Nat) (a b c r0 r1 : Value) : Prop where
  r0 : W.cell? ⟨g, 0, none⟩ = some r0
  r1 : W.cell? ⟨g, 1, none⟩ = some r1
  x0 : W.cell? ⟨w.heap.size, 0, none⟩ = some a
  x1 : W.cell? ⟨w.heap.size, 1, none⟩ = some b
  x2 : W.cell? ⟨w.heap.size, 2, none⟩ = some c
  bw : Below w.heap.size w W
theorem lboxA {w w1 : World} {a b c r0 r1 r2 r3 : Value} {T T2 : TypeId} (b1 : Below (w.alloc (.cells #[a, b, c] T)).drew.heap.size (w.alloc (.cells #[a, b, c] T)).drew w1) : LBox w (w1.alloc (.cells #[r0, r1, r2, r3] T2)) w1.heap.size a b c r0 r1 := by
  have hx : w1.heap[w.heap.size]? = some (.cells #[a, b, c] T (0, 0)) := old_row b1
  have hx2 : (w1.alloc (.cells #[r0, r1, r2, r3] T2)).heap[w.heap.size]? = some (.cells #[a, b, c] T (0, 0)) := ((below_alloc w1 (.cells #[r0, r1, r2, r3] T2)).block _ (lt_of_heap hx)).trans hx
  refine ⟨cell_of_row _ _ _ _ _ _ (heap_alloc_new _ _), cell_of_row _ _ _ _ _ _ (heap_alloc_new _ _), cell_of_row _ _ _ _ _ _ hx2, cell_of_row _ _ _ _ _ _ hx2, cell_of_row _ _ _ _ _ _ hx2, ?_⟩
  have c1 : Chg [] w (w.alloc (.cells #[a, b, c] T)).drew := ((Chg.refl [] w).alloc _).drew
  exact below_of_chg ((c1.trans (Chg.of_below b1)).alloc _)
theorem lboxB {w w1 : World} {a b c z0 z1 z2 z3 r0 r1 r2 r3 : Value} {T T2 : TypeId} (b1 : Below ((w.alloc (.cells #[a, b, c] T)).alloc (.cells #[z0, z1, z2, z3] T2)).drew.heap.size ((w.alloc (.cells #[a, b, c] T)).alloc (.cells #[z0, z1, z2, z3] T2)).drew w1) :
    LBox w ((((w1.setCell ⟨w.heap.size + 1, 0, none⟩ r0).setCell ⟨w.heap.size + 1, 1, none⟩ r1).setCell ⟨w.heap.size + 1, 2, none⟩ r2).setCell ⟨w.heap.size + 1, 3, none⟩ r3) (w.heap.size + 1) a b c r0 r1 := by
  have hz : w1.heap[w.heap.size + 1]? = some (.cells #[z0, z1, z2, z3] T2 (0, 0)) := by
    have := old_row b1
    simpa using this
  have hx0 : ((w.alloc (.cells #[a, b, c] T)).alloc (.cells #[z0, z1, z2, z3] T2)).drew.heap[w.heap.size]? = some (.cells #[a, b, c] T (0, 0)) :=
    ((below_alloc (w.alloc (.cells #[a, b, c] T)) (.cells #[z0, z1, z2, z3] T2)).block _ (by simp)).trans (heap_alloc_new _ _)
  have hx : w1.heap[w.heap.size]? = some (.cells #[a, b, c] T (0, 0)) := (b1.block _ (lt_of_heap hx0)).trans hx0
  have s1 := heap_put (cs' := #[r0, z1, z2, z3]) hz (i := 0) (v := r0) rfl
  have s2 := heap_put (cs' := #[r0, r1, z2, z3]) s1 (i := 1) (v := r1) rfl
  have s3 := heap_put (cs' := #[r0, r1, r2, z3]) s2 (i := 2) (v := r2) rfl
  have s4 := heap_put (cs' := #[r0, r1, r2, r3]) s3 (i := 3) (v := r3) rfl
  have c1 : Chg [] w ((w.alloc (.cells #[a, b, c] T)).alloc (.cells #[z0, z1, z2, z3] T2)).drew := (((Chg.refl [] w).alloc _).alloc _).drew
  have c2 : Chg [w.heap.size + 1] w1 ((((w1.setCell ⟨w.heap.size + 1, 0, none⟩ r0).setCell ⟨w.heap.size + 1, 1, none⟩ r1).setCell ⟨w.heap.size + 1, 2, none⟩ r2).setCell ⟨w.heap.size + 1, 3, none⟩ r3) :=
    ((((Chg.refl [w.heap.size + 1] w1).setCell (.inl (by simp)) _).setCell (.inl (by simp)) _).setCell (.inl (by simp)) _).setCell (.inl (by simp)) _
  have hx4 := (c2.block _ (lt_of_heap hx) (by simp)).trans hx
  refine ⟨cell_of_row _ _ _ _ _ _ s4, cell_of_row _ _ _ _ _ _ s4, cell_of_row _ _ _ _ _ _ hx4, cell_of_row _ _ _ _ _ _ hx4, cell_of_row _ _ _ _ _ _ hx4, ?_⟩
  have c3 := (c1.trans (Chg.of_below b1))
  exact below_of_chg ((((c3.setCell (.inr (by simp)) _).setCell (.inr (by simp)) _).setCell (.inr (by simp)) _).setCell (.inr (by simp)) _)


/-- The document's May. -/
def mayD (p : Ins) (len : Int) : Bool :=
  if p.op < 1 ∨ 20 < p.op ∨ (p.op ≠ 1 ∧ fx p.x ≠ 0) then false
  else if (lhAt p.op).1 < 0 then decide (0 ≤ p.n) && decide (p.n < len)
  else decide ((lhAt p.op).1 ≤ p.n) && decide (p.n ≤ (lhAt p.op).2)
theorem may_same (p : Ins) (len : Int) : mayD p len = mayS p len := by
  obtain ⟨op, n, x⟩ := p
  unfold mayD mayS
  simp only
  by_cases h : op < 1 ∨ 20 < op ∨ (op ≠ 1 ∧ fx x ≠ 0)
  · have hS : op ≤ 0 ∨ 20 < op ∨ (op ≠ 1 ∧ fx x ≠ 0) := by
      rcases h with h | h | h
      · left; omega
      · right; left; exact h
      · right; right; exact h
    rw [if_pos h, if_pos hS]
  · have hS : ¬ (op ≤ 0 ∨ 20 < op ∨ (op ≠ 1 ∧ fx x ≠ 0)) := by
      rintro (h1 | h1 | h1)
      · exact h (.inl (by omega))
      · exact h (.inr (.inl h1))
      · exact h (.inr (.inr h1))
    rw [if_neg h, if_neg hS]
    clear hS
    obtain ⟨i, rfl⟩ : ∃ i : Nat, op = (i : Int) := ⟨op.toNat, by omega⟩
    have key : ∀ i : Nat, 1 ≤ i → i ≤ 20 → (most (i : Int) = -2 ∧ lhAt (i : Int) = (0, 0)) ∨ (most (i : Int) = -1 ∧ lhAt (i : Int) = (-1, -1)) ∨ ((i = 9 ∨ i = 10) ∧ lhAt (i : Int) = (1, most (i : Int)) ∧ 0 ≤ most (i : Int)) ∨ (i ≠ 9 ∧ i ≠ 10 ∧ lhAt (i : Int) = (0, most (i : Int)) ∧ 0 ≤ most (i : Int)) := by
      intro i h1 h2
      rcases (by omega : i = 1 ∨ i = 2 ∨ i = 3 ∨ i = 4 ∨ i = 5 ∨ i = 6 ∨ i = 7 ∨ i = 8 ∨ i = 9 ∨ i = 10 ∨ i = 11 ∨ i = 12 ∨ i = 13 ∨ i = 14 ∨ i = 15 ∨ i = 16 ∨ i = 17 ∨ i = 18 ∨ i = 19 ∨ i = 20) with rfl | rfl | rfl | rfl | rfl | rfl | rfl | rfl | rfl | rfl | rfl | rfl | rfl | rfl | rfl | rfl | rfl | rfl | rfl | rfl <;> decide
    rcases key i (by omega) (by omega) with ⟨h1, h2⟩ | ⟨h1, h2⟩ | ⟨h0, h2, h3⟩ | ⟨h0, h0', h2, h3⟩
    · simp only [h1, h2]
      rw [Bool.eq_iff_iff]
      simp; omega
    · simp only [h1, h2]
      simp
    · have g1 : ¬ most (i : Int) = -2 := by omega
      have g2 : ¬ most (i : Int) = -1 := by omega
      have g3 : (i : Int) = 9 ∨ (i : Int) = 10 := by omega
      simp only [h2, g1, g2, g3, if_false, if_true]
      simp
    · have g1 : ¬ most (i : Int) = -2 := by omega
      have g2 : ¬ most (i : Int) = -1 := by omega
      have g3 : ¬ ((i : Int) = 9 ∨ (i : Int) = 10) := by omega
      simp only [h2, g1, g2, g3, if_false, if_true]
      simp

theorem heap_size_a (w : World) (o : Obj) : (w.alloc o).heap.size = w.heap.size + 1 := by simp
theorem heap_size_ad (w : World) (o : Obj) : (w.alloc o).drew.heap.size = w.heap.size + 1 := by simp
theorem heap_size_aad (w : World) (o o2 : Obj) : ((w.alloc o).alloc o2).drew.heap.size = w.heap.size + 2 := by simp
theorem row5 {w1 : World} {g : Nat} {c0 c1 c2 c3 c4 : Value} {T : TypeId} (h : w1.heap[g]? = some (.cells #[c0, c1, c2, c3, c4] T (0, 0))) : (w1.cell? ⟨g, 0, none⟩ = some c0 ∧ w1.cell? ⟨g, 1, none⟩ = some c1 ∧ w1.cell? ⟨g, 2, none⟩ = some c2 ∧ w1.cell? ⟨g, 3, none⟩ = some c3 ∧ w1.cell? ⟨g, 4, none⟩ = some c4) ∧ w1.frozen? ⟨g, 0, none⟩ = false ∧ w1.frozen? ⟨g, 1, none⟩ = false ∧ w1.frozen? ⟨g, 2, none⟩ = false ∧ w1.frozen? ⟨g, 3, none⟩ = false ∧ w1.frozen? ⟨g, 4, none⟩ = false :=
  ⟨⟨cell_of_row _ _ _ _ _ _ h, cell_of_row _ _ _ _ _ _ h, cell_of_row _ _ _ _ _ _ h, cell_of_row _ _ _ _ _ _ h, cell_of_row _ _ _ _ _ _ h⟩, frozen_of_row _ _ _ _ _ h, frozen_of_row _ _ _ _ _ h, frozen_of_row _ _ _ _ _ h, frozen_of_row _ _ _ _ _ h, frozen_of_row _ _ _ _ _ h⟩
theorem below_eq {W w1 : World} {o : Obj} (h : w1 = W.alloc o) : Below W.heap.size W w1 := by subst h; exact below_alloc _ _

set_option maxRecDepth 100000 in
set_option maxHeartbeats 24000000 in
theorem rmay_walk (p : Ins) (len : Int) (w : World) : Calls Tryz.prog 172 #[p.v, .int .i64 len] w fun e w' => e = .returned (.bool (mayS p len)) ∧ Below w.heap.size w w' := by
  rw [← may_same]
  obtain ⟨op, n, x⟩ := p
  unfold Ins.v
  have BW := rbits_walk x
  by_cases h1 : op < 1
  · have e : mayD ⟨op, n, x⟩ len = false := by unfold mayD; rw [if_pos (.inl h1)]
    rw [e]
    go_enter Tryz.func172, Tryz.ntmps172
    go_wp2
    go_ret
    exact ⟨rfl, below_of_chg ((Chg.refl _ _).alloc _)⟩
  by_cases h2 : 20 < op
  · have e : mayD ⟨op, n, x⟩ len = false := by unfold mayD; rw [if_pos (.inr (.inl h2))]
    rw [e]
    go_enter Tryz.func172, Tryz.ntmps172
    go_wp2
    go_ret
    exact ⟨rfl, below_of_chg ((Chg.refl _ _).alloc _)⟩
  by_cases h3 : op ≠ 1 ∧ fx x ≠ 0
  · have e : mayD ⟨op, n, x⟩ len = false := by unfold mayD; rw [if_pos (.inr (.inr h3))]
    rw [e]
    obtain ⟨h4, h5⟩ := h3
    have h6 : ¬ (fx x : Int) = 0 := by omega
    have t6 : ((fx x : Int) == 0) = false := by simpa using h6
    have t7 : ((fx x : Int) != 0) = true := by simpa using h6
    go_enter Tryz.func172, Tryz.ntmps172
    go_wp2_with (go_at_call 135; refine (BW _).mono ?_; rintro e w' ⟨rfl, rfl⟩)
    go_ret
    exact ⟨rfl, below_of_chg ((Chg.refl _ _).alloc _)⟩
  have e : mayD ⟨op, n, x⟩ len = (if (lhAt op).1 < 0 then decide (0 ≤ n) && decide (n < len) else decide ((lhAt op).1 ≤ n) && decide (n ≤ (lhAt op).2)) := by
    unfold mayD
    rw [if_neg]
    rintro (h | h | h)
    · exact h1 h
    · exact h2 h
    · exact h3 h
  rw [e]
  clear e
  have SW2 : op ≠ 1 → fx x = 0 := fun h => by
    by_cases h6 : fx x = 0
    · exact h6
    · exact absurd ⟨h, h6⟩ h3
  clear h3
  obtain ⟨i, rfl⟩ : ∃ i : Nat, op = (i : Int) := ⟨op.toNat, by omega⟩
  have hi : i < 21 := by omega
  have hi' : (i : Int) < 21 := by omega
  obtain ⟨lo, hlo⟩ : ∃ lo, lo = (lhAt (i : Int)).1 := ⟨_, rfl⟩
  obtain ⟨hg, hhg⟩ : ∃ hg, hg = (lhAt (i : Int)).2 := ⟨_, rfl⟩
  obtain ⟨wd, hwd⟩ : ∃ wd : ByteArray, wd = ⟨(rowAt (i : Int)).1.toArray⟩ := ⟨_, rfl⟩
  obtain ⟨tk, htk⟩ : ∃ tk, tk = (rowAt (i : Int)).2.2.1 := ⟨_, rfl⟩
  obtain ⟨ly, hly⟩ : ∃ ly, ly = (rowAt (i : Int)).2.2.2 := ⟨_, rfl⟩
  have DC := fun (w : World) (T : TypeId) => dcell_at w T i hi
  rw [← hlo, ← hhg, ← hwd, ← htk, ← hly] at DC
  rw [← hlo, ← hhg]
  clear hlo hhg hwd htk hly
  by_cases ho : (i : Int) = 1
  · obtain rfl : i = 1 := by omega
    have DC1 : ∀ (w : World) (T : TypeId), (w.alloc (.cells drowsC T)).cell? ⟨w.heap.size, 5, none⟩ = some (.string wd) ∧ (w.alloc (.cells drowsC T)).cell? ⟨w.heap.size, 6, none⟩ = some (.int .i64 lo) ∧ (w.alloc (.cells drowsC T)).cell? ⟨w.heap.size, 7, none⟩ = some (.int .i64 hg) ∧ (w.alloc (.cells drowsC T)).cell? ⟨w.heap.size, 8, none⟩ = some (.int .i64 tk) ∧ (w.alloc (.cells drowsC T)).cell? ⟨w.heap.size, 9, none⟩ = some (.int .i64 ly) := DC
    clear SW2 h1 h2 hi hi' BW ho
    show Calls Tryz.prog 172 #[.agg #[.int .i64 1, .int .i64 n, .float .f64 x], .int .i64 len] w _
    go_enter Tryz.func172, Tryz.ntmps172
    go_wp2
    refine wp_region_noPanic ?_
    go_region_with (first | (go_at_call 177; refine (drows_walk _).mono ?_; rintro e w1 ⟨rfl, T, hT⟩; obtain ⟨d0, d1, d2, d3, d4⟩ := DC1 _ T; rw [← hT] at d0 d1 d2 d3 d4; simp only [heap_size_ad, heap_size_a] at d0 d1 d2 d3 d4; have lt2 := block_lt_of_cell d0; simp only at lt2; have b1 := below_eq hT; have k0 : w1.cell? ⟨w.heap.size, 0, none⟩ = some (.int .i64 1) := (World.cell?_of_block (b1.block _ (by first | (simp; done) | (simp; omega)))).trans (by simp); have k1 : w1.cell? ⟨w.heap.size, 1, none⟩ = some (.int .i64 n) := (World.cell?_of_block (b1.block _ (by first | (simp; done) | (simp; omega)))).trans (by simp); have k0a := fun o : Obj => (World.cell?_alloc_some w1 _ o (by rw [k0]; rfl)).trans k0; have k1a := fun o : Obj => (World.cell?_alloc_some w1 _ o (by rw [k1]; rfl)).trans k1; have d0a := fun o : Obj => (World.cell?_alloc_some w1 _ o (by rw [d0]; rfl)).trans d0; have d1a := fun o : Obj => (World.cell?_alloc_some w1 _ o (by rw [d1]; rfl)).trans d1; have d2a := fun o : Obj => (World.cell?_alloc_some w1 _ o (by rw [d2]; rfl)).trans d2; have d3a := fun o : Obj => (World.cell?_alloc_some w1 _ o (by rw [d3]; rfl)).trans d3; have d4a := fun o : Obj => (World.cell?_alloc_some w1 _ o (by rw [d4]; rfl)).trans d4; have lt1 := b1.size; simp at lt1; (try (obtain ⟨⟨z0, z1, z2, z3, z4⟩, y0, y1, y2, y3, y4⟩ := row5 (old_row b1); simp at z0 z1 z2 z3 z4 y0 y1 y2 y3 y4)); clear hT))
    all_goals refine NoPanic.normal ?_
    all_goals have B0 := Lib.hid b1
    all_goals clear b1
    all_goals go_wp2
    all_goals go_ret
    all_goals refine ⟨?_, below_of_chg (by first | exact ((((Chg.refl [] w).alloc _).drew.trans (Chg.of_below B0.out)).alloc _) | exact (((((((((Chg.refl [] w).alloc _).alloc _).drew.trans (Chg.of_below B0.out)).setCell (.inr (by simp)) _).setCell (.inr (by simp)) _).setCell (.inr (by simp)) _).setCell (.inr (by simp)) _).setCell (.inr (by simp)) _))⟩
    all_goals refine congrArg (fun b => Ending.returned (Value.bool b)) ?_
    all_goals clear d0a d1a d2a d3a d4a k0a k1a d0 d1 d2 d3 d4 k0 k1 B0 DC
    all_goals first | rfl | (rw [Bool.eq_iff_iff]; simp only [Bool.and_eq_true, decide_eq_true_eq, beq_iff_eq, Bool.false_eq_true]; omega) | (simp; omega) | (simp [*]; done)
  · have t1 : ((i : Int) == 1) = false := by simpa using ho
    rw [SW2 ho] at BW
    clear SW2
    go_enter Tryz.func172, Tryz.ntmps172
    go_wp2_with (go_at_call 135; refine (BW _).mono ?_; rintro e w' ⟨rfl, rfl⟩)
    refine wp_region_noPanic ?_
    go_region_with (first | (go_at_call 177; refine (drows_walk _).mono ?_; rintro e w1 ⟨rfl, T, hT⟩; obtain ⟨d0, d1, d2, d3, d4⟩ := DC _ T; rw [← hT] at d0 d1 d2 d3 d4; simp only [heap_size_ad, heap_size_a] at d0 d1 d2 d3 d4; have lt2 := block_lt_of_cell d0; simp only at lt2; have b1 := below_eq hT; have k0 : w1.cell? ⟨w.heap.size, 0, none⟩ = some (.int .i64 (i : Int)) := (World.cell?_of_block (b1.block _ (by first | (simp; done) | (simp; omega)))).trans (by simp); have k1 : w1.cell? ⟨w.heap.size, 1, none⟩ = some (.int .i64 n) := (World.cell?_of_block (b1.block _ (by first | (simp; done) | (simp; omega)))).trans (by simp); have k0a := fun o : Obj => (World.cell?_alloc_some w1 _ o (by rw [k0]; rfl)).trans k0; have k1a := fun o : Obj => (World.cell?_alloc_some w1 _ o (by rw [k1]; rfl)).trans k1; have d0a := fun o : Obj => (World.cell?_alloc_some w1 _ o (by rw [d0]; rfl)).trans d0; have d1a := fun o : Obj => (World.cell?_alloc_some w1 _ o (by rw [d1]; rfl)).trans d1; have d2a := fun o : Obj => (World.cell?_alloc_some w1 _ o (by rw [d2]; rfl)).trans d2; have d3a := fun o : Obj => (World.cell?_alloc_some w1 _ o (by rw [d3]; rfl)).trans d3; have d4a := fun o : Obj => (World.cell?_alloc_some w1 _ o (by rw [d4]; rfl)).trans d4; have lt1 := b1.size; simp at lt1; (try (obtain ⟨⟨z0, z1, z2, z3, z4⟩, y0, y1, y2, y3, y4⟩ := row5 (old_row b1); simp at z0 z1 z2 z3 z4 y0 y1 y2 y3 y4)); clear hT))
    all_goals refine NoPanic.normal ?_
    all_goals have B0 := Lib.hid b1
    all_goals clear b1
    all_goals go_wp2
    all_goals go_ret
    all_goals refine ⟨?_, below_of_chg (by first | exact ((((Chg.refl [] w).alloc _).drew.trans (Chg.of_below B0.out)).alloc _) | exact (((((((((Chg.refl [] w).alloc _).alloc _).drew.trans (Chg.of_below B0.out)).setCell (.inr (by simp)) _).setCell (.inr (by simp)) _).setCell (.inr (by simp)) _).setCell (.inr (by simp)) _).setCell (.inr (by simp)) _))⟩
    all_goals refine congrArg (fun b => Ending.returned (Value.bool b)) ?_
    all_goals clear d0a d1a d2a d3a d4a k0a k1a d0 d1 d2 d3 d4 k0 k1 B0 DC
    all_goals first | rfl | (rw [Bool.eq_iff_iff]; simp only [Bool.and_eq_true, decide_eq_true_eq, beq_iff_eq, Bool.false_eq_true]; omega) | (simp; omega) | (simp [*]; done)
end Go.Proofs.YtphaeodcomgffaaGreat
set_option linter.unusedVariables false
set_option linter.unusedSimpArgs false
namespace Go.Proofs.YtphaeodcomgffaaGreat
open Go.RowKit

theorem rmay_at (op n len : Int) (x : Nat) (w : World) (r : Bool) (h : mayS ⟨op, n, x⟩ len = r) : Calls Tryz.prog 172 #[.agg #[.int .i64 op, .int .i64 n, .float .f64 x], .int .i64 len] w fun e w' => e = .returned (.bool r) ∧ Below w.heap.size w w' := by
  subst h
  exact rmay_walk ⟨op, n, x⟩ len w

set_option maxRecDepth 100000 in
set_option maxHeartbeats 1000000 in
theorem rcheck_walk (tag : Int) (v : Value) (l : List Ins) (w : World) (h : RdC w v l) : Calls Tryz.prog 136 #[.agg #[.int .i64 tag, v]] w fun e w' => e = .returned (.int .i64 (checkS tag l)) ∧ Below w.heap.size w w' := by
  obtain ⟨a, c, rfl⟩ := h.slice
  obtain ⟨r, hr⟩ : ∃ r, r = checkS tag l := ⟨_, rfl⟩
  rw [← hr]
  have fin : ∀ w', Chg [] w w' → ¬ okP tag l → Ending.returned (.int .i64 50) = Ending.returned (.int .i64 r) ∧ Below w.heap.size w w' := fun w' c hn => by
    refine ⟨?_, below_of_chg c⟩
    rw [hr]
    unfold checkS
    rw [if_neg hn]
  have good : ∀ w', Chg [] w w' → okP tag l → Ending.returned (.int .i64 0) = Ending.returned (.int .i64 r) ∧ Below w.heap.size w w' := fun w' c hn => by
    refine ⟨?_, below_of_chg c⟩
    rw [hr]
    unfold checkS
    rw [if_pos hn]
  clear hr
  by_cases h1 : tag = 1 ∨ tag = 2
  case neg =>
    have k1 : ¬ tag = 1 := fun e => h1 (.inl e)
    have k2 : ¬ tag = 2 := fun e => h1 (.inr e)
    go_enter Tryz.func136, Tryz.ntmps136
    go_wp2
    go_ret
    exact fin _ ((Chg.refl _ _).alloc _) (fun q => h1 q.1)
  by_cases h2 : 1 ≤ l.length ∧ l.length ≤ 1024
  case neg =>
    have hno : ¬ okP tag l := fun q => h2 ⟨q.2.1, q.2.2.1⟩
    obtain ⟨n, hn⟩ : ∃ n, n = l.length := ⟨_, rfl⟩
    rw [← hn] at h h2 ⊢
    have FIN := Lib.hid fin
    have HNO := Lib.hid hno
    clear fin good hno hn
    rcases (by omega : n = 0 ∨ 1024 < n) with rfl | h3
    · rcases h1 with rfl | rfl
      all_goals
        go_enter Tryz.func136, Tryz.ntmps136
        go_wp2
        go_ret
        exact FIN.out _ ((Chg.refl _ _).alloc _) HNO.out
    · have h3' : (1024 : Int) < n := by omega
      have h4' : ¬ (n : Int) < 1 := by omega
      rcases h1 with rfl | rfl
      all_goals
        go_enter Tryz.func136, Tryz.ntmps136
        go_wp2
        go_ret
        exact FIN.out _ ((Chg.refl _ _).alloc _) HNO.out
  obtain ⟨n, hn⟩ : ∃ n, n = l.length := ⟨_, rfl⟩
  have HN := Lib.hid hn
  rw [← hn] at h h2 ⊢
  obtain ⟨h2, h3⟩ := h2
  have h3' : ¬ (1024 : Int) < n := by omega
  have h4' : ¬ (n : Int) < 1 := by omega
  have RD := Lib.hid h
  have FIN := Lib.hid fin
  have GOOD := Lib.hid good
  have H1 := Lib.hid h1
  have H2 := Lib.hid h2
  have H3 := Lib.hid h3
  clear h fin good hn h2 h3
  rcases h1 with rfl | rfl
  all_goals
    go_enter Tryz.func136, Tryz.ntmps136
    go_wp2
    go_loopw [28] (fun i wr => ∃ k : Nat, i = .int .i64 k ∧ k ≤ n ∧ Chg [] w wr ∧ wr.cell? ⟨w.heap.size, 1, none⟩ = some (.slice a n c) ∧ ∀ j (hj : j < l.length), j < k → mayS l[j] n = true) (fun i _ => n - (intOf i).toNat)
    case atStart => exact ⟨0, rfl, by omega, (Chg.refl _ _).alloc _, cell_of_row _ _ _ _ _ _ (heap_alloc_new _ _), fun j _ h => by omega⟩
    case round =>
      obtain ⟨k, rfl, hk, hchg, hbox, hall⟩ := hrel
      have CH := Lib.hid hchg
      have ALL := Lib.hid hall
      clear hchg hall
      by_cases h : k < n
      · have h' : (k : Int) < n := by omega
        have hkl : k < l.length := by have := HN.out; omega
        obtain ⟨b, off, rfl, -, c0, c1, c2⟩ := (RD.out.keep0 CH.out).at hkl
        obtain ⟨q, hq⟩ : ∃ q, q = l[k] := ⟨_, rfl⟩
        rw [← hq] at c0 c1 c2
        have HQ := Lib.hid hq
        clear hq
        obtain ⟨op, nn, x⟩ := q
        simp only at c0 c1 c2
        have BX := Lib.hid hbox
        have hlt := block_lt_of_cell hbox
        have sf := run_store_float
        cases hm : mayS ⟨op, nn, x⟩ n
        · go_wp2_with (go_at_call 172; refine (rmay_at _ _ _ _ _ _ hm).mono ?_; rintro e w3 ⟨rfl, b3⟩; have B3 := Lib.hid b3; clear b3)
          go_ret
          refine FIN.out _ ((CH.out.alloc _).trans (Chg.of_below B3.out)) (fun ok => ?_)
          have := ok.2.2.2 l[k] (List.getElem_mem hkl)
          rw [← HQ.out, ← HN.out, hm] at this
          cases this
        · go_wp2_with (go_at_call 172; refine (rmay_at _ _ _ _ _ _ hm).mono ?_; rintro e w3 ⟨rfl, b3⟩; have B3 := Lib.hid b3; clear b3)
          go_roundw
          case rel =>
            refine ⟨k + 1, by go_num, by omega, (CH.out.alloc _).trans (Chg.of_below B3.out), ?_, fun j hj hjk => ?_⟩
            · rw [World.cell?_of_block (w := wr) ((((Chg.refl [] wr).alloc _).trans (Chg.of_below B3.out)).block _ hlt (by simp))]
              exact BX.out
            · rcases Nat.lt_succ_iff_lt_or_eq.1 hjk with h5 | rfl
              · exact ALL.out j hj h5
              · rw [← HQ.out]; exact hm
          case measure => simp [intOf]; omega
      · obtain rfl : k = n := by omega
        have h' : ¬ (k : Int) < k := by omega
        go_wp2
        go_ret
        refine GOOD.out _ CH.out ⟨by simp, by rw [← HN.out]; exact H2.out, by rw [← HN.out]; exact H3.out, fun p hp => ?_⟩
        obtain ⟨j, hj, rfl⟩ := List.getElem_of_mem hp
        rw [← HN.out]
        exact ALL.out j hj (by rw [HN.out]; exact hj)
end Go.Proofs.YtphaeodcomgffaaGreat
