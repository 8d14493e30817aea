import Derived.Test.YtldhlkkclmifmaaA2
namespace Go.Proofs.Ytldhlkkclmifmaa
open Go.RowKit

/-- Only the blocks in S (and new ones) may have turned. -/
structure Chg (S : List Nat) (w w' : World) : Prop where
  os : w'.os = w.os
  tape : w'.tape = w.tape
  output : w'.output = w.output
  size : w.heap.size ≤ w'.heap.size
  block : ∀ k, k < w.heap.size → k ∉ S → w'.heap[k]? = w.heap[k]?

theorem Chg.refl (S : List Nat) (w : World) : Chg S w w := ⟨rfl, rfl, rfl, Nat.le_refl _, fun _ _ _ => rfl⟩
theorem Chg.trans {S : List Nat} {a b c : World} (h : Chg S a b) (k : Chg S b c) : Chg S a c :=
  ⟨k.os.trans h.os, k.tape.trans h.tape, k.output.trans h.output, Nat.le_trans h.size k.size, fun i hi hs => (k.block i (Nat.lt_of_lt_of_le hi h.size) hs).trans (h.block i hi hs)⟩
theorem Chg.mono {S S' : List Nat} {a b : World} (h : Chg S a b) (hs : ∀ x ∈ S, x ∈ S' ∨ a.heap.size ≤ x) : Chg S' a b :=
  ⟨h.os, h.tape, h.output, h.size, fun i hi hn => h.block i hi fun hx => by rcases hs i hx with h1 | h1; exact hn h1; omega⟩
theorem Chg.drewN {S : List Nat} {a b : World} (h : Chg S a b) (n : Nat) : Chg S a (b.drewN n) := ⟨h.os, h.tape, h.output, h.size, h.block⟩
theorem Chg.drew {S : List Nat} {a b : World} (h : Chg S a b) : Chg S a b.drew := ⟨h.os, h.tape, h.output, h.size, h.block⟩
theorem Chg.alloc {S : List Nat} {a b : World} (h : Chg S a b) (o : Obj) : Chg S a (b.alloc o) :=
  h.trans ⟨rfl, rfl, rfl, by simp, fun k hk _ => Below.heap_alloc _ _ _ hk⟩
theorem Chg.setCell {S : List Nat} {a b : World} (h : Chg S a b) {p : Addr} (hp : p.block ∈ S ∨ a.heap.size ≤ p.block) (u : Value) : Chg S a (b.setCell p u) :=
  ⟨h.os, h.tape, h.output, by simpa [World.setCell] using h.size, fun k hk hn => by
    rw [Below.heap_setCell _ _ _ _ (by rintro rfl; rcases hp with hp | hp; exact hn hp; omega)]; exact h.block k hk hn⟩
theorem Chg.of_below {S : List Nat} {w w' : World} (h : Below w.heap.size w w') : Chg S w w' := ⟨h.os, h.tape, h.output, h.size, fun k hk _ => h.block k hk⟩
theorem Chg.below {S : List Nat} {w w' : World} {B : Nat} (h : Chg S w w') (hB : B ≤ w.heap.size) (hs : ∀ x ∈ S, B ≤ x) : Below B w w' :=
  ⟨h.os, h.tape, h.output, h.size, fun k hk => h.block k (by omega) fun hx => by have := hs k hx; omega⟩
theorem Chg.grown {S : List Nat} {a w w' : World} {row : Option Nat} (h : Chg S a w) (hg : w.grownBy w' row) (hr : ∀ k, row = some k → k ∈ S ∨ a.heap.size ≤ k) : Chg S a w' :=
  ⟨hg.os.trans h.os, hg.tape.trans h.tape, hg.output.trans h.output, Nat.le_trans h.size hg.size, fun k hk hn =>
    (hg.block k (Nat.lt_of_lt_of_le hk h.size) (fun e => by rcases hr k e.symm with h1 | h1; exact hn h1; omega)).trans (h.block k hk hn)⟩
theorem Chg.setRow {S : List Nat} {a b : World} (h : Chg S a b) {g : Nat} (hp : g ∈ S ∨ a.heap.size ≤ g) (cs : Array Value) : Chg S a (b.setRow g cs) :=
  ⟨h.os, h.tape, h.output, by simpa using h.size, fun k hk hn => by
    rw [setRow_other _ _ _ _ (by rintro rfl; rcases hp with hp | hp; exact hn hp; omega)]; exact h.block k hk hn⟩
theorem lt_of_heap {w : World} {b : Nat} {o : Obj} (h : w.heap[b]? = some o) : b < w.heap.size := by
  rcases Nat.lt_or_ge b w.heap.size with h' | h'
  · exact h'
  · simp [Array.getElem?_eq_none h'] at h
/-- A store into a block that is known whole. -/
theorem heap_put {w : World} {g i : Nat} {cs cs' : Array Value} {t : TypeId} {v : Value} (hg : w.heap[g]? = some (.cells cs t (0, 0))) (he : cs.setIfInBounds i v = cs') :
    (w.setCell ⟨g, i, none⟩ v).heap[g]? = some (.cells cs' t (0, 0)) := by subst he; exact heap_setCell_same w g i cs t v hg

def rcells (L S : Nat → Bool) (n over : Int) : Array Value := #[.bool (L 0), .bool (L 1), .bool (L 2), .bool (L 3), .bool (L 4), .bool (L 5), .bool (L 6), .bool (L 7), .bool (S 0), .bool (S 1), .bool (S 2), .bool (S 3), .bool (S 4), .bool (S 5), .bool (S 6), .bool (S 7), .int .i64 n, .int .i64 over]

def RIs (w : World) (b : Nat) (L S : Nat → Bool) (n over : Int) : Prop := w.heap[b]? = some (.cells (rcells L S n over) 57 (0,0))

def allEq (L S : Nat → Bool) : Bool := (List.range 8).all fun i => S i == L i
def noneOf (L : Nat → Bool) : Bool := (List.range 8).all fun i => L i == false
def lookS (L S : Nat → Bool) : Nat → Bool := if allEq L S && !noneOf L then fun _ => false else S
def lookN (L S : Nat → Bool) (over : Int) : Int := if allEq L S && !noneOf L then over + 1 else over
def upd (L : Nat → Bool) (t : Nat) (v : Bool) : Nat → Bool := fun i => if i = t then v else L i

theorem eight (L : Nat → Bool) : ∀ i < 8, (#[.bool (L 0), .bool (L 1), .bool (L 2), .bool (L 3), .bool (L 4), .bool (L 5), .bool (L 6), .bool (L 7)] : Array Value)[i]? = some (.bool (L i))
  | 0, _ | 1, _ | 2, _ | 3, _ | 4, _ | 5, _ | 6, _ | 7, _ => rfl
theorem rcells_L (L S : Nat → Bool) (n over : Int) : ∀ i < 8, (rcells L S n over)[i]? = some (.bool (L i))
  | 0, _ | 1, _ | 2, _ | 3, _ | 4, _ | 5, _ | 6, _ | 7, _ => rfl
theorem rcells_S (L S : Nat → Bool) (n over : Int) : ∀ i < 8, (rcells L S n over)[8 + i]? = some (.bool (S i))
  | 0, _ | 1, _ | 2, _ | 3, _ | 4, _ | 5, _ | 6, _ | 7, _ => rfl
theorem rcells_setL (L S : Nat → Bool) (n over : Int) (v : Bool) : ∀ i < 8, (rcells L S n over).setIfInBounds i (.bool v) = rcells (upd L i v) S n over
  | 0, _ | 1, _ | 2, _ | 3, _ | 4, _ | 5, _ | 6, _ | 7, _ => rfl
theorem rcells_setS (L S : Nat → Bool) (n over : Int) (v : Bool) : ∀ i < 8, (rcells L S n over).setIfInBounds (8 + i) (.bool v) = rcells L (upd S i v) n over
  | 0, _ | 1, _ | 2, _ | 3, _ | 4, _ | 5, _ | 6, _ | 7, _ => rfl
theorem rcells_clear (L S : Nat → Bool) (n over m : Int) : (((((((((rcells L S n over).setIfInBounds 8 (.bool false)).setIfInBounds 9 (.bool false)).setIfInBounds 10 (.bool false)).setIfInBounds 11 (.bool false)).setIfInBounds 12 (.bool false)).setIfInBounds 13 (.bool false)).setIfInBounds 14 (.bool false)).setIfInBounds 15 (.bool false)).setIfInBounds 17 (.int .i64 m) = rcells L (fun _ => false) n m := by simp [rcells]
theorem eql8 (L S : Nat → Bool) (w : World) : (binOp .eql 55 (.agg #[.bool (S 0), .bool (S 1), .bool (S 2), .bool (S 3), .bool (S 4), .bool (S 5), .bool (S 6), .bool (S 7)]) (.agg #[.bool (L 0), .bool (L 1), .bool (L 2), .bool (L 3), .bool (L 4), .bool (L 5), .bool (L 6), .bool (L 7)])).run Try.prog w = .ok (.bool (allEq L S)) w :=
  run_eql_bools w 55 4 8 _ _ S L (by kernel_rfl) (by kernel_rfl) (by kernel_rfl) (eight S) (eight L)
theorem neq8 (L : Nat → Bool) (w : World) : (binOp .neq 55 (.agg #[.bool (L 0), .bool (L 1), .bool (L 2), .bool (L 3), .bool (L 4), .bool (L 5), .bool (L 6), .bool (L 7)]) (.agg #[.bool false, .bool false, .bool false, .bool false, .bool false, .bool false, .bool false, .bool false])).run Try.prog w = .ok (.bool (!noneOf L)) w :=
  run_neq_bools w 55 4 8 _ _ L (fun _ => false) (by kernel_rfl) (by kernel_rfl) (by kernel_rfl) (eight L) (eight fun _ => false)

theorem RIs.cell {w : World} {b : Nat} {L S n over} (h : RIs w b L S n over) : ∀ o, w.cell? ⟨b, o, none⟩ = (rcells L S n over)[o]? := fun o => cell_of_row w b o _ _ _ h
theorem RIs.free {w : World} {b : Nat} {L S n over} (h : RIs w b L S n over) : ∀ o, w.frozen? ⟨b, o, none⟩ = false := fun o => frozen_of_row w b o _ _ h
theorem RIs.keep {w w' : World} {b : Nat} {L S n over} {X : List Nat} (h : RIs w b L S n over) (c : Chg X w w') (hb : b ∉ X) : RIs w' b L S n over := (c.block b (lt_of_heap h) hb).trans h
theorem RIs.lt {w : World} {b : Nat} {L S n over} (h : RIs w b L S n over) : b < w.heap.size := lt_of_heap h

def LookPost (w : World) (b : Nat) (L S : Nat → Bool) (n over : Int) (e : Ending) (w' : World) : Prop := e = .returned (.tuple #[]) ∧ Chg [b] w w' ∧ RIs w' b L (lookS L S) n (lookN L S over)

set_option maxHeartbeats 400000 in
theorem look_any (w : World) (b : Nat) (L S : Nat → Bool) (n over : Int)
   (h : RIs w b L S n over) (h3 : -9223372036854775808 ≤ over) (h4 : over < 9223372036854775807) :
    Calls Try.prog 37 #[.pointer (some ⟨b, 0, none⟩)] w (LookPost w b L S n over) := by
  have hc := h.cell
  have hf := h.free
  have H := Lib.hid h; clear h
  unfold rcells at hc
  have e1 := eql8 L S
  have e2 := neq8 L
  cases h1 : allEq L S
  · rw [h1] at e1
    have H1 := Lib.hid h1; clear h1
    go_enter Try.func37, Try.ntmps37
    go_wp2
    go_quiet (fail)
    go_wp2
    go_end0
    refine ⟨rfl, (Chg.refl _ _).drewN _, ?_⟩
    simp only [lookS, lookN, H1.out]
    exact H.out
  · rw [h1] at e1
    have H1 := Lib.hid h1; clear h1
    cases h2 : noneOf L
    · rw [h2] at e2
      have H2 := Lib.hid h2; clear h2
      go_enter Try.func37, Try.ntmps37
      go_wp2
      go_quiet (fail)
      go_wp2
      go_end0
      refine ⟨rfl, by (repeat with_reducible refine Chg.setCell ?_ (.inl (by simp)) _); exact (Chg.refl _ _).drewN _, ?_⟩
      simp only [lookS, lookN, H1.out, H2.out]
      have k0 : (w.drewN nq).heap[b]? = some (.cells (rcells L S n over) 57 (0,0)) := H.out
      have k1 := heap_setCell_same _ b 8 _ _ (.bool false) k0
      have k2 := heap_setCell_same _ b 9 _ _ (.bool false) k1
      have k3 := heap_setCell_same _ b 10 _ _ (.bool false) k2
      have k4 := heap_setCell_same _ b 11 _ _ (.bool false) k3
      have k5 := heap_setCell_same _ b 12 _ _ (.bool false) k4
      have k6 := heap_setCell_same _ b 13 _ _ (.bool false) k5
      have k7 := heap_setCell_same _ b 14 _ _ (.bool false) k6
      have k8 := heap_setCell_same _ b 15 _ _ (.bool false) k7
      have k9 := heap_setCell_same _ b 17 _ _ (.int .i64 (over + 1)) k8
      rw [rcells_clear] at k9
      exact k9
    · rw [h2] at e2
      have H2 := Lib.hid h2; clear h2
      go_enter Try.func37, Try.ntmps37
      go_wp2
      go_quiet (fail)
      go_wp2
      go_end0
      refine ⟨rfl, (Chg.refl _ _).drewN _, ?_⟩
      simp only [lookS, lookN, H1.out, H2.out]
      exact H.out

end Go.Proofs.Ytldhlkkclmifmaa
