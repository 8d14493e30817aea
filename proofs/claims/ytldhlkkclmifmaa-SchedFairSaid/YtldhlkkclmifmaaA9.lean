import Derived.Test.YtldhlkkclmifmaaA8
set_option linter.unusedVariables false
set_option linter.unusedSimpArgs false
namespace Go.Proofs.Ytldhlkkclmifmaa
open Go.RowKit

theorem slice_of_own {w : World} {B : Nat} {v : Value} {l : List Int} (h : OwnI w B v l) : ∃ a c, v = .slice a l.length c := h.rd.slice

set_option maxHeartbeats 400000 in
theorem numbers_walk (w : World) :
    Calls Try.prog 3 #[] w fun e w' => e = .returned (.bool true) ∧ Below w.heap.size w w' := by
  go_enter Try.func3, Try.ntmps3
  go_wp2_with fail
  refine (new_bad 9 _ (by omega)).mono ?_; rintro e w' ⟨rfl, rfl⟩
  go_wp2_with fail
  refine (new_at _ 8 (by omega) (by omega)).mono ?_; rintro e w1 ⟨rfl, c1, r1⟩; have C1 := Lib.hid c1; clear c1; have R1 := Lib.hid r1; clear r1
  go_wp2_with fail
  refine (due_at _ _ _ _ 8 _ R1.out (by omega) (by omega)).mono ?_; rintro e w2 ⟨v, rfl, own, c2⟩
  obtain ⟨a, c, rfl⟩ := slice_of_own own
  clear own
  have C2 := Lib.hid c2; clear c2
  have hl : (dueL (liveN 8) none8 (Int.toNat 8)).length = 8 := by decide
  rw [hl]
  go_wp2
  go_ret
  exact ⟨rfl, (C1.out.trans C2.out).below (Nat.le_refl _) (by simp)⟩

def LivePost (w : World) (e : Ending) (w' : World) : Prop := e = .returned (.bool true) ∧ Chg [] w w'

theorem Chg.also {S : List Nat} {w a b : World} (g : Chg [] w a) (h : Chg S a b) (hS : ∀ x ∈ S, w.heap.size ≤ x) : Chg [] w b :=
  ⟨h.os.trans g.os, h.tape.trans g.tape, h.output.trans g.output, Nat.le_trans g.size h.size, fun k hk _ => (h.block k (Nat.lt_of_lt_of_le hk g.size) fun hx => by have := hS k hx; omega).trans (g.block k hk (by simp))⟩
theorem RdI.one {w : World} {x : Int} {T : TypeId} : RdI (w.alloc (.cells #[.int .i64 x] T)) (.slice (some ⟨w.heap.size, 0, none⟩) 1 1) [x] :=
  .inr ⟨w.heap.size, 0, 1, rfl, by simp, fun i hi => by
    obtain rfl : i = 0 := by simpa using hi
    exact cell_of_row _ _ _ _ _ _ (heap_alloc_new _ _)⟩
theorem RIs.of_eq {w : World} {b : Nat} {L S L' S' : Nat → Bool} {n over over' : Int} (h : RIs w b L S n over) (h1 : L = L') (h2 : ∀ i < 8, S i = S' i) (h3 : over = over') : RIs w b L' S' n over' := by
  subst h1 h3
  unfold RIs rcells at *
  rwa [← h2 0 (by omega), ← h2 1 (by omega), ← h2 2 (by omega), ← h2 3 (by omega), ← h2 4 (by omega), ← h2 5 (by omega), ← h2 6 (by omega), ← h2 7 (by omega)]
set_option maxHeartbeats 1000000 in
theorem live_any (w : World) : Calls Try.prog 13 #[] w (LivePost w) := by
  go_enter Try.func13, Try.ntmps13
  go_wp2_with fail
  refine (new_at _ 2 (by omega) (by omega)).mono ?_; rintro e w1 ⟨rfl, c1, r1⟩; have C1 := Lib.hid c1; clear c1; have R1 := Lib.hid r1; clear r1
  go_wp2_with fail
  refine (step_at _ _ _ _ _ _ 1 R1.out (by omega) (by omega) (by omega) (by omega) (by omega)).mono ?_; rintro e w2 ⟨rfl, c2, r2⟩; have C2 := Lib.hid c2; clear c2; have R2 := Lib.hid r2; clear r2
  go_wp2_with fail
  refine (due_at _ _ _ _ 2 _ R2.out (by omega) (by omega)).mono ?_; rintro e w3 ⟨v3, rfl, own3, c3⟩; have C3 := Lib.hid c3; clear c3; have O3 := Lib.hid own3; clear own3
  have R3 := Lib.hid (R2.out.keep C3.out (by simp))
  go_wp2_with fail
  refine (step_at _ _ _ _ _ _ 0 R3.out (by omega) (by omega) (by omega) (by decide) (by decide)).mono ?_; rintro e w4 ⟨rfl, c4, r4⟩; have C4 := Lib.hid c4; clear c4; have R4 := Lib.hid r4; clear r4
  go_wp2_with fail
  refine (step_bad _ _ _ _ _ _ 2 R4.out (by omega)).mono ?_; rintro e w5 ⟨rfl, rfl⟩
  have R4' : Hid (RIs w4 w.heap.size (liveN 2) none8 2 1) := R4.out.of_eq rfl (by decide) (by decide)
  have L1 := Lib.hid R1.out.lt
  clear R4 R3 R2 R1
  go_wp2_with fail
  refine (fold_any _ _ [-1] 3 RdI.one (by omega) (by omega) (by simp) (by simp)).mono ?_; rintro e w6 ⟨v6, rfl, own6, c6⟩
  have O6 := Lib.hid own6; clear own6
  have c4' : Chg [] w w4 := ((C1.out.also C2.out (by simp)).also C3.out (by simp)).also C4.out (by simp)
  have c6' : Chg [] w4 w6 := ((Chg.refl _ _).alloc _).trans c6
  have C6 := Lib.hid (c4'.trans c6')
  have R6 := Lib.hid (R4'.out.keep c6' (by simp))
  have D3 : Hid (RdI w6 v3 [0]) := ((O3.out.keep C4.out (by
      intro k hk
      have h1 := (O3.out.blk k hk).1
      have h3 := C2.out.size
      have h4 := L1.out
      simp
      omega)).keep0 c6').rd
  clear c4' c6' c6 C1 C2 C3 C4 R4' O3
  have O6' : Hid (RdI w6 v6 [2]) := O6.out.rd
  clear O6
  go_wp2_with fail
  refine (same_any _ _ _ [0] [0] (D3.out.keep0 ((Chg.refl _ _).alloc _)) RdI.one (by simp) (by simp)).mono ?_; rintro e w7 ⟨rfl, n7, rfl⟩
  rw [show decide ([(0 : Int)] = [0]) = true from rfl]
  have c7 : Chg [] w6 ((w6.alloc (.cells #[.int .i64 0] 3)).drewN n7) := ((Chg.refl _ _).alloc _).drewN _
  generalize ((w6.alloc (.cells #[.int .i64 0] 3)).drewN n7) = w7 at *
  have R7 := Lib.hid (R6.out.keep c7 (by simp))
  have C7 := Lib.hid (C6.out.trans c7)
  have O7 := Lib.hid (O6'.out.keep0 c7)
  clear c7 C6 R6 O6' D3
  go_wp2_with fail
  refine (over_any _ _ _ _ _ _ R7.out).mono ?_; rintro e w8 ⟨rfl, rfl⟩
  go_wp2_with fail
  refine (same_any _ _ _ [2] [2] (O7.out.keep0 ((Chg.refl _ _).alloc _)) RdI.one (by simp) (by simp)).mono ?_; rintro e w9 ⟨rfl, n9, rfl⟩
  rw [show decide ([(2 : Int)] = [2]) = true from rfl]
  go_wp2
  go_ret
  exact ⟨rfl, (C7.out.alloc _).drewN _⟩

end Go.Proofs.Ytldhlkkclmifmaa
