import Derived.Test.YtldhlkkclmifmaaE4
set_option linter.unusedVariables false
set_option linter.unusedSimpArgs false
namespace Go.Proofs.Ytldhlkkclmifmaa
open Go.RowKit

theorem rdue_ref (w : World) (rb : Nat) (n : Int) (s : ST) (D : List Nat) (h : Ref w rb n s D) (h0 : 0 ≤ n) (hn : n ≤ 8) :
    Calls Try.prog 30 #[.pointer (some ⟨rb, 0, none⟩)] w (DuePost w (dueL s.L s.S n.toNat)) := by
  obtain ⟨g, vS, fl, st, h1, _⟩ := h
  exact rdue_any w rb n s g vS fl st h1 h0 hn

/-- the two sides' states agree -/
def Both (w wr : World) (n : Int) (rb b : Nat) (s : ST) : Prop :=
  ∃ D, RIst wr b n s ∧ Ref wr rb n s D ∧ b ∉ D ∧ s.Inv n ∧ Chg [] w wr ∧ w.heap.size ≤ b ∧ ∀ x ∈ D, w.heap.size ≤ x

theorem Both.isChg {w wr : World} {n : Int} {rb b : Nat} {s : ST} (h : Both w wr n rb b s) : Chg [] w wr := by
  obtain ⟨_, _, _, _, _, h, _⟩ := h; exact h
theorem Both.isLt {w wr : World} {n : Int} {rb b : Nat} {s : ST} (h : Both w wr n rb b s) : b < wr.heap.size := by
  obtain ⟨_, h, _⟩ := h; exact RIs.lt h
theorem Both.chg {w wr w' : World} {n : Int} {rb b : Nat} {s : ST} (h : Both w wr n rb b s) (c : Chg [] wr w') : Both w w' n rb b s := by
  obtain ⟨D, h1, h2, h3, h4, h5, h6, h7⟩ := h
  exact ⟨D, h1.keep c (by simp), h2.keep c (by simp), h3, h4, h5.trans c, h6, h7⟩
theorem Both.up {w wr w1 w2 : World} {n : Int} {rb b : Nat} {s s' : ST} {r : Value} {e : Ending} {D : List Nat} (h2 : Ref wr rb n s D) (h3 : b ∉ D) (hi : s'.Inv n) (h5 : Chg [] w wr) (h6 : w.heap.size ≤ b) (h7 : ∀ x ∈ D, w.heap.size ≤ x)
    (c1 : Chg [b] wr w1) (r1 : RIst w1 b n s') (u : RefUp w1 rb n s' D r e w2) : Both w w2 n rb b s' := by
  obtain ⟨_, D', g1, g2, g3⟩ := u
  refine ⟨D', r1.keep g2 h3, g1, fun hb => ?_, hi, (h5.also c1 (by simp; exact h6)).also g2 h7, h6, fun x hx => ?_⟩
  · rcases g3 b hb with h | h
    · exact h3 h
    · have := r1.lt; omega
  · rcases g3 x hx with h | h
    · exact h7 x h
    · have := h5.size; have := c1.size; omega

set_option maxRecDepth 100000 in
set_option maxHeartbeats 4000000 in
theorem plays_walk (w : World) (n : Int) (v : Value) (l : List (Int × Int)) (h : Rd w 2 v (l.map opRow)) (hr : l.length * 16 ≤ 140737488351232) (h1 : 1 ≤ n) (h8 : n ≤ 8) :
    Calls Try.prog 10 #[.int .i64 n, v] w fun e w' => e = .returned (.bool true) ∧ Below w.heap.size w w' := by
  have H := Lib.hid h; clear h
  obtain ⟨a0, c0, e0⟩ := H.out.slice
  rw [List.length_map] at e0
  go_enter Try.func10, Try.ntmps10
  go_wp2_with fail
  refine (live_any _).mono ?_; rintro e w1 ⟨rfl, c1⟩
  have C1 := Lib.hid c1; clear c1
  go_wp2_with fail
  refine (new_at _ n h1 h8).mono ?_; rintro e w2 ⟨rfl, c2, r2⟩
  have C2 := Lib.hid (C1.out.trans c2)
  have R2 := Lib.hid (show RIst w2 w1.heap.size n ⟨liveN n, none8, 0⟩ from r2)
  have hb := C1.out.size
  have hbl := R2.out.lt
  generalize w1.heap.size = b at *
  clear c2 r2 C1
  go_wp2_with fail
  refine (rnew_at n _ h1 h8).mono ?_; rintro e w3 ⟨rb, D, rfl, c3, r3, d3⟩
  have START := Lib.hid (show Both w w3 n rb b ⟨liveN n, none8, 0⟩ from ⟨D, R2.out.keep c3 (by simp), r3, fun hx => by have := d3 b hx; omega, ST.Inv.start h1, C2.out.trans c3, hb, fun x hx => by have := d3 x hx; have := C2.out.size; omega⟩)
  clear c3 r3 d3 C2 R2 hbl hb
  subst e0
  go_wp2_with fail
  go_loopw [6, 46] (fun r i wr => ∃ (k b : Nat) (s : ST), k ≤ l.length ∧ i = .int .i64 k ∧ r = .pointer (some ⟨b, 0, none⟩) ∧ 0 ≤ s.o ∧ s.o ≤ k ∧ Both w wr n rb b s) (fun _ i _ => l.length - (intOf i).toNat)
  case atStart => exact ⟨0, b, _, Nat.zero_le _, rfl, rfl, Int.le_refl _, Int.le_refl _, START.out⟩
  case round =>
    clear START
    obtain ⟨k, b, s, hk, rfl, rfl, o1, o2, hB⟩ := hrel
    have hso : s.o < 9223372036854775807 := by omega
    by_cases hkn : k < l.length
    · have hch := hB
      obtain ⟨D0, _, _, _, _, hchg, _, _⟩ := hch
      obtain ⟨b', off, c', p, q, e, hb', hp, x0, x1⟩ := opAt (H.out.keep0 hchg) hkn
      simp only [Value.slice.injEq, true_and] at e
      obtain ⟨rfl, rfl⟩ := e
      have BB := Lib.hid (hB.chg (w' := wr.alloc (.cells #[.int .i64 p, .int .i64 q] 44)) ((Chg.refl [] wr).alloc _))
      have LB := Lib.hid hB.isLt
      clear hB hchg hp
      have CASES : p = 1 ∨ p = 2 ∨ p = 3 ∨ p = 4 ∨ p = 5 ∨ (p ≠ 1 ∧ p ≠ 2 ∧ p ≠ 3 ∧ p ≠ 4 ∧ p ≠ 5) := by omega
      rcases CASES with rfl | rfl | rfl | rfl | rfl | ⟨p1, p2, p3, p4, p5⟩
      · as_aux_lemma =>
          obtain ⟨D, r1, f1, b1, i1, c1, s1, d1⟩ := BB.out
          have R1 := Lib.hid r1
          have F1 := Lib.hid f1
          have B1 := Lib.hid b1
          have I1 := Lib.hid i1
          have C1 := Lib.hid c1
          have D1 := Lib.hid d1
          clear r1 f1 b1 i1 c1 d1 BB
          go_wp2_with fail
          refine (step_st _ _ _ _ _ R1.out h8 o1 hso).mono ?_; rintro e w4 ⟨rfl, c4, r4⟩
          have st := I1.out.step h8 q
          have C4 := Lib.hid c4
          have R4 := Lib.hid r4
          have F4 := Lib.hid (F1.out.keep c4 (fun x hx => by simp; exact fun e => B1.out (e ▸ hx)))
          have ST1 := Lib.hid st
          have hlb : b < wr.heap.size := LB.out
          have gx : w4.cell? ⟨wr.heap.size, 1, none⟩ = some (.int .i64 q) := cell_of_row w4 _ 1 _ _ _ ((c4.block wr.heap.size (by simp) (by simp; omega)).trans (heap_alloc_new wr _))
          clear c4 r4 st hlb
          go_wp2_with fail
          refine (rstep_any _ _ _ _ _ F4.out I1.out (by omega) h8 o1 hso _).mono ?_; intro e w5 up
          have UP := Lib.hid up
          obtain rfl := up.1
          have NX := Lib.hid (Both.up F1.out B1.out ST1.out.1 C1.out s1 D1.out C4.out R4.out UP.out)
          have q1 := ST1.out.2.1
          have q2 := ST1.out.2.2
          clear up
          generalize tCode n q = C at *
          have nb : (C != C) = false := by simp
          go_wp2
          go_roundw
          case rel => exact ⟨k + 1, b, _, by omega, by go_num, rfl, by omega, by omega, NX.out⟩
          case measure => simp [intOf]; omega
      · as_aux_lemma =>
          obtain ⟨D, r1, f1, b1, i1, c1, s1, d1⟩ := BB.out
          have R1 := Lib.hid r1
          have F1 := Lib.hid f1
          have B1 := Lib.hid b1
          have I1 := Lib.hid i1
          have C1 := Lib.hid c1
          have D1 := Lib.hid d1
          clear r1 f1 b1 i1 c1 d1 BB
          go_wp2_with fail
          refine (fin_st _ _ _ _ _ R1.out h8 o1 hso).mono ?_; rintro e w4 ⟨rfl, c4, r4⟩
          have st := I1.out.fin h8 q
          have C4 := Lib.hid c4
          have R4 := Lib.hid r4
          have F4 := Lib.hid (F1.out.keep c4 (fun x hx => by simp; exact fun e => B1.out (e ▸ hx)))
          have ST1 := Lib.hid st
          have hlb : b < wr.heap.size := LB.out
          have gx : w4.cell? ⟨wr.heap.size, 1, none⟩ = some (.int .i64 q) := cell_of_row w4 _ 1 _ _ _ ((c4.block wr.heap.size (by simp) (by simp; omega)).trans (heap_alloc_new wr _))
          clear c4 r4 st hlb
          go_wp2_with fail
          refine (rfin_any _ _ _ _ _ F4.out I1.out (by omega) h8 o1 hso _).mono ?_; intro e w5 up
          have UP := Lib.hid up
          obtain rfl := up.1
          have NX := Lib.hid (Both.up F1.out B1.out ST1.out.1 C1.out s1 D1.out C4.out R4.out UP.out)
          have q1 := ST1.out.2.1
          have q2 := ST1.out.2.2
          clear up
          generalize tCode n q = C at *
          have nb : (C != C) = false := by simp
          go_wp2
          go_roundw
          case rel => exact ⟨k + 1, b, _, by omega, by go_num, rfl, by omega, by omega, NX.out⟩
          case measure => simp [intOf]; omega
      · as_aux_lemma =>
          obtain ⟨D, r1, f1, b1, i1, c1, s1, d1⟩ := BB.out
          have R1 := Lib.hid r1
          have F1 := Lib.hid f1
          have B1 := Lib.hid b1
          have I1 := Lib.hid i1
          have C1 := Lib.hid c1
          have D1 := Lib.hid d1
          clear r1 f1 b1 i1 c1 d1 BB
          go_wp2_with fail
          refine (rdue_ref _ _ _ _ _ F1.out (by omega) h8).mono ?_; rintro e w4 ⟨v4, rfl, own4, c4⟩
          have R4 := Lib.hid (show RIst w4 b n s from R1.out.keep c4 (by simp))
          have F4 := Lib.hid (F1.out.keep c4 (by simp))
          have O4 := Lib.hid own4
          have NX4 := Lib.hid (show Both w w4 n rb b s from Both.chg ⟨D, R1.out, F1.out, B1.out, I1.out, C1.out, s1, D1.out⟩ c4)
          have hdl := dueL_le s.L s.S n.toNat
          clear own4 c4 R1 F1
          go_wp2_with fail
          refine (over_st _ _ _ _ R4.out).mono ?_; rintro e w5 ⟨rfl, rfl⟩
          go_wp2_with fail
          refine (rover_any _ _ _ _ _ F4.out).mono ?_; rintro e w5 ⟨rfl, rfl⟩
          have nb : (s.o != s.o) = false := by simp
          go_wp2_with fail
          refine (due_st _ _ _ _ R4.out (by omega) h8).mono ?_; rintro e w6 ⟨v6, rfl, own6, c6⟩
          have O6 := Lib.hid own6
          have O46 := Lib.hid (O4.out.keep0 c6)
          have NX6 := Lib.hid (NX4.out.chg c6)
          clear own6 c6
          go_wp2_with fail
          refine (same_any _ _ _ _ _ O6.out.rd O46.out.rd (by omega) (by omega)).mono ?_; rintro e w9 ⟨rfl, n9, rfl⟩
          rw [show decide (dueL s.L s.S n.toNat = dueL s.L s.S n.toNat) = true from by simp]
          have NX := Lib.hid (NX6.out.chg ((Chg.refl [] w6).drewN n9))
          go_wp2
          go_roundw
          case rel => exact ⟨k + 1, b, s, by omega, by go_num, rfl, by omega, by omega, NX.out⟩
          case measure => simp [intOf]; omega
      · as_aux_lemma =>
          obtain ⟨D, r1, f1, b1, i1, c1, s1, d1⟩ := BB.out
          have R1 := Lib.hid r1
          have F1 := Lib.hid f1
          have B1 := Lib.hid b1
          have I1 := Lib.hid i1
          have C1 := Lib.hid c1
          have D1 := Lib.hid d1
          clear r1 f1 b1 i1 c1 d1 BB
          go_wp2_with fail
          refine (clone_any _ _ _ _ _ _ R1.out).mono ?_; rintro e w4 ⟨c, rfl, hc, c4, r4⟩
          have R4 := Lib.hid (show RIst w4 b n s from R1.out.keep c4 (by simp))
          have RC := Lib.hid (show RIst w4 c n s from r4)
          have F4 := Lib.hid (F1.out.keep c4 (by simp))
          have C4 := Lib.hid c4
          have hbc : b < c := by have := R1.out.lt; omega
          have DC := Lib.hid (show ∀ x ∈ D, x < c from fun x hx => by have := F1.out.lt x hx; omega)
          clear c4 r4
          go_wp2_with fail
          refine (stir_any _ _ _ _ R4.out I1.out h8 o1 (by omega)).mono ?_; rintro e w5 ⟨rfl, c5⟩
          have NX := Lib.hid (show Both w w5 n rb c s from ⟨D, RC.out.keep c5 (by simp; omega), F4.out.keep c5 (fun x hx => by simp; exact fun e => B1.out (e ▸ hx)), fun hx => by have := DC.out c hx; omega, I1.out, (C1.out.trans C4.out).also c5 (by simp; omega), by omega, D1.out⟩)
          clear c5
          go_wp2
          go_roundw
          case rel => exact ⟨k + 1, c, s, by omega, by go_num, rfl, by omega, by omega, NX.out⟩
          case measure => simp [intOf]; omega
      · as_aux_lemma =>
          obtain ⟨D, r1, f1, b1, i1, c1, s1, d1⟩ := BB.out
          have R1 := Lib.hid r1
          have F1 := Lib.hid f1
          have B1 := Lib.hid b1
          have I1 := Lib.hid i1
          have C1 := Lib.hid c1
          have D1 := Lib.hid d1
          clear r1 f1 b1 i1 c1 d1 BB
          go_wp2_with fail
          refine (clone_any _ _ _ _ _ _ R1.out).mono ?_; rintro e w4 ⟨c, rfl, hc, c4, r4⟩
          have R4 := Lib.hid (show RIst w4 b n s from R1.out.keep c4 (by simp))
          have RC := Lib.hid (show RIst w4 c n s from r4)
          have F4 := Lib.hid (F1.out.keep c4 (by simp))
          have C4 := Lib.hid c4
          have hbc : b < c := by have := R1.out.lt; omega
          have DC := Lib.hid (show ∀ x ∈ D, x < c from fun x hx => by have := F1.out.lt x hx; omega)
          clear c4 r4
          go_wp2_with fail
          refine (stir_any _ _ _ _ RC.out I1.out h8 o1 (by omega)).mono ?_; rintro e w5 ⟨rfl, c5⟩
          have NX := Lib.hid (show Both w w5 n rb b s from ⟨D, R4.out.keep c5 (by simp; omega), F4.out.keep c5 (fun x hx => by simp; have := DC.out x hx; omega), B1.out, I1.out, (C1.out.trans C4.out).also c5 (by simp; omega), by omega, D1.out⟩)
          clear c5
          go_wp2
          go_roundw
          case rel => exact ⟨k + 1, b, s, by omega, by go_num, rfl, by omega, by omega, NX.out⟩
          case measure => simp [intOf]; omega
      · as_aux_lemma =>
          have q1 : (p == 1) = false := by simp [p1]
          have q2 : (p == 2) = false := by simp [p2]
          have q3 : (p == 3) = false := by simp [p3]
          have q4 : (p == 4) = false := by simp [p4]
          have q5 : (p == 5) = false := by simp [p5]
          clear p1 p2 p3 p4 p5
          go_wp2
          go_roundw
          case rel => exact ⟨k + 1, b, s, by omega, by go_num, rfl, by omega, by omega, BB.out⟩
          case measure => simp [intOf]; omega
    · have e : k = l.length := by omega
      subst e
      obtain ⟨D, r1, f1, b1, i1, c1, s1, d1⟩ := hB
      have R1 := Lib.hid r1
      have F1 := Lib.hid f1
      have C1 := Lib.hid c1
      have hdl := dueL_le s.L s.S n.toNat
      clear r1 f1 b1 i1 c1 s1 d1 hk hkn
      go_wp2_with fail
      refine (rdue_ref _ _ _ _ _ F1.out (by omega) h8).mono ?_; rintro e w4 ⟨v4, rfl, own4, c4⟩
      have R4 := Lib.hid (show RIst w4 b n s from R1.out.keep c4 (by simp))
      have F4 := Lib.hid (F1.out.keep c4 (by simp))
      have O4 := Lib.hid own4
      have C4 := Lib.hid (C1.out.trans c4)
      clear own4 c4 R1 F1
      go_wp2_with fail
      refine (over_st _ _ _ _ R4.out).mono ?_; rintro e w5 ⟨rfl, rfl⟩
      go_wp2_with fail
      refine (rover_any _ _ _ _ _ F4.out).mono ?_; rintro e w5 ⟨rfl, rfl⟩
      have nb : (s.o == s.o) = true := by simp
      go_wp2_with fail
      refine (due_st _ _ _ _ R4.out (by omega) h8).mono ?_; rintro e w6 ⟨v6, rfl, own6, c6⟩
      have O6 := Lib.hid own6
      have O46 := Lib.hid (O4.out.keep0 c6)
      have C6 := Lib.hid (C4.out.trans c6)
      clear own6 c6
      go_wp2_with fail
      refine (same_any _ _ _ _ _ O6.out.rd O46.out.rd (by omega) (by omega)).mono ?_; rintro e w9 ⟨rfl, n9, rfl⟩
      rw [show decide (dueL s.L s.S n.toNat = dueL s.L s.S n.toNat) = true from by simp]
      go_wp2
      go_ret
      exact ⟨rfl, (C6.out.drewN n9).below (Nat.le_refl _) (by simp)⟩

set_option maxRecDepth 100000 in
set_option maxHeartbeats 1000000 in
theorem plays_bad (w : World) (n : Int) (v : Value) (h : n < 1 ∨ 8 < n) :
    Calls Try.prog 10 #[.int .i64 n, v] w fun e w' => e = .returned (.bool true) ∧ Below w.heap.size w w' := by
  go_enter Try.func10, Try.ntmps10
  go_wp2_with fail
  refine (live_any _).mono ?_; rintro e w1 ⟨rfl, c1⟩
  have C1 := Lib.hid c1; clear c1
  go_wp2_with fail
  refine (new_bad n _ h).mono ?_; rintro e w2 ⟨rfl, rfl⟩
  go_wp2_with fail
  refine (rnew_bad n _ h).mono ?_; rintro e w2 ⟨rfl, rfl⟩
  go_wp2
  go_ret
  exact ⟨rfl, C1.out.below (Nat.le_refl _) (by simp)⟩

theorem plays_all (w : World) (n : Int) (v : Value) (hn : -9223372036854775808 ≤ n ∧ n ≤ 9223372036854775807) (h : InOps w v) :
    Calls Try.prog 10 #[.int .i64 n, v] w fun e w' => e = .returned (.bool true) ∧ Below w.heap.size w w' := by
  by_cases hb : n < 1 ∨ 8 < n
  · exact plays_bad w n v hb
  · obtain ⟨l, h1, h2, h3⟩ := h
    exact plays_walk w n v l h1 h3 (by omega) (by omega)

end Go.Proofs.Ytldhlkkclmifmaa
