import Derived.Test.YtldhlkkclmifmaaI4
set_option linter.unusedVariables false
set_option linter.unusedSimpArgs false
namespace Go.Proofs.Ytldhlkkclmifmaa
open Go.RowKit

theorem cfg_two {w w1 : World} {c t f r c' t' f' r' : Int} (c1 : Chg [] ((w.alloc (.cells #[.int .i64 c, .int .i64 t, .int .i64 f, .int .i64 r] 34)).alloc (.cells #[.int .i64 c', .int .i64 t', .int .i64 f', .int .i64 r'] 34)) w1) :
    (∀ o, w1.cell? ⟨w.heap.size, o, none⟩ = (#[.int .i64 c, .int .i64 t, .int .i64 f, .int .i64 r] : Array Value)[o]?) ∧ (∀ o, w1.cell? ⟨w.heap.size + 1, o, none⟩ = (#[.int .i64 c', .int .i64 t', .int .i64 f', .int .i64 r'] : Array Value)[o]?) := by
  have h0 := (c1.block w.heap.size (by simp; omega) (by simp)).trans ((Below.heap_alloc _ _ _ (by simp)).trans (heap_alloc_new w _))
  have h1 := heap_alloc_new (w.alloc (.cells #[.int .i64 c, .int .i64 t, .int .i64 f, .int .i64 r] 34)) (.cells #[.int .i64 c', .int .i64 t', .int .i64 f', .int .i64 r'] 34)
  rw [World.size_alloc] at h1
  have h2 := (c1.block (w.heap.size + 1) (by simp) (by simp)).trans h1
  exact ⟨fun o => cell_of_row w1 _ o _ _ _ h0, fun o => cell_of_row w1 _ o _ _ _ h2⟩

set_option maxRecDepth 100000 in
set_option maxHeartbeats 4000000 in
theorem grow_all (w : World) (u v : Value) (h : InCfg u) (h' : InCfg v) : Calls Try.prog 6 #[u, v] w fun e w' => e = .returned (.bool true) ∧ Below w.heap.size w w' := by
  obtain ⟨c, t, f, r, rfl, ⟨i1, i2⟩, ⟨i3, i4⟩, ⟨i5, i6⟩, i7, i8⟩ := h
  obtain ⟨c', t', f', r', rfl, ⟨j1, j2⟩, ⟨j3, j4⟩, ⟨j5, j6⟩, j7, j8⟩ := h'
  by_cases k1 : okC c t f r
  · by_cases k2 : okC c' t' f' r'
    · as_aux_lemma =>
        have A1 := Lib.hid (show readB c t f r = f * 4 + 6 from if_pos k1)
        have A2 := Lib.hid (show errB c t f r = 0 from if_pos k1)
        have A3 := Lib.hid (show writeB c t f r = f + (f * 4 + 6) + t + 3 * r + 8 from if_pos k1)
        obtain ⟨p1, p2, p3, p4, p5, p6, p7, p8⟩ := k1
        have B1 := Lib.hid (show readB c' t' f' r' = f' * 4 + 6 from if_pos k2)
        have B2 := Lib.hid (show errB c' t' f' r' = 0 from if_pos k2)
        have B3 := Lib.hid (show writeB c' t' f' r' = f' + (f' * 4 + 6) + t' + 3 * r' + 8 from if_pos k2)
        obtain ⟨q1, q2, q3, q4, q5, q6, q7, q8⟩ := k2
        by_cases m1 : f ≤ f'
        · by_cases m2 : t ≤ t'
          · by_cases m3 : r ≤ r'
            · as_aux_lemma =>
                go_enter Try.func6, Try.ntmps6
                go_wp2_with fail
                refine (blive_any _).mono ?_; rintro e w1 ⟨rfl, d1⟩
                have d1 := (Chg.of_below d1 : Chg [] _ w1)
                obtain ⟨e1, e2⟩ := cfg_two d1
                have C1 := Lib.hid ((((Chg.refl [] w).alloc _).alloc _).trans d1)
                have X1 := Lib.hid d1
                clear d1
                go_wp2_with fail
                refine (reader_any _ c t f r).mono ?_; rintro e w2 ⟨rfl, d2⟩
                rw [A1.out, A2.out]
                have X2 := Lib.hid (X1.out.trans d2)
                have C2 := Lib.hid (C1.out.trans d2)
                clear e1 e2 d2
                obtain ⟨e1, e2⟩ := cfg_two X2.out
                go_wp2_with fail
                refine (writer_any _ c t f r).mono ?_; rintro e w3 ⟨rfl, d3⟩
                rw [A3.out, A2.out]
                have X3 := Lib.hid (X2.out.trans d3)
                have C3 := Lib.hid (C2.out.trans d3)
                clear e1 e2 d3
                obtain ⟨e1, e2⟩ := cfg_two X3.out
                go_wp2_with fail
                refine (reader_any _ c' t' f' r').mono ?_; rintro e w4 ⟨rfl, d4⟩
                rw [B1.out, B2.out]
                have X4 := Lib.hid (X3.out.trans d4)
                have C4 := Lib.hid (C3.out.trans d4)
                clear e1 e2 d4
                obtain ⟨e1, e2⟩ := cfg_two X4.out
                go_wp2_with fail
                refine (writer_any _ c' t' f' r').mono ?_; rintro e w5 ⟨rfl, d5⟩
                rw [B3.out, B2.out]
                have X5 := Lib.hid (X4.out.trans d5)
                have C5 := Lib.hid (C4.out.trans d5)
                clear e1 e2 d5
                obtain ⟨e1, e2⟩ := cfg_two X5.out
                clear X1 X2 X3 X4 C1 C2 C3 C4
                go_wp2
                go_ret
                first | exact ⟨rfl, C5.out.below (Nat.le_refl _) (by simp)⟩ | exact ⟨by simp; omega, C5.out.below (Nat.le_refl _) (by simp)⟩
            · as_aux_lemma =>
                go_enter Try.func6, Try.ntmps6
                go_wp2_with fail
                refine (blive_any _).mono ?_; rintro e w1 ⟨rfl, d1⟩
                have d1 := (Chg.of_below d1 : Chg [] _ w1)
                obtain ⟨e1, e2⟩ := cfg_two d1
                have C1 := Lib.hid ((((Chg.refl [] w).alloc _).alloc _).trans d1)
                have X1 := Lib.hid d1
                clear d1
                go_wp2_with fail
                refine (reader_any _ c t f r).mono ?_; rintro e w2 ⟨rfl, d2⟩
                rw [A1.out, A2.out]
                have X2 := Lib.hid (X1.out.trans d2)
                have C2 := Lib.hid (C1.out.trans d2)
                clear e1 e2 d2
                obtain ⟨e1, e2⟩ := cfg_two X2.out
                go_wp2_with fail
                refine (writer_any _ c t f r).mono ?_; rintro e w3 ⟨rfl, d3⟩
                rw [A3.out, A2.out]
                have X3 := Lib.hid (X2.out.trans d3)
                have C3 := Lib.hid (C2.out.trans d3)
                clear e1 e2 d3
                obtain ⟨e1, e2⟩ := cfg_two X3.out
                go_wp2_with fail
                refine (reader_any _ c' t' f' r').mono ?_; rintro e w4 ⟨rfl, d4⟩
                rw [B1.out, B2.out]
                have X4 := Lib.hid (X3.out.trans d4)
                have C4 := Lib.hid (C3.out.trans d4)
                clear e1 e2 d4
                obtain ⟨e1, e2⟩ := cfg_two X4.out
                go_wp2_with fail
                refine (writer_any _ c' t' f' r').mono ?_; rintro e w5 ⟨rfl, d5⟩
                rw [B3.out, B2.out]
                have X5 := Lib.hid (X4.out.trans d5)
                have C5 := Lib.hid (C4.out.trans d5)
                clear e1 e2 d5
                obtain ⟨e1, e2⟩ := cfg_two X5.out
                clear X1 X2 X3 X4 C1 C2 C3 C4
                go_wp2
                go_ret
                first | exact ⟨rfl, C5.out.below (Nat.le_refl _) (by simp)⟩ | exact ⟨by simp; omega, C5.out.below (Nat.le_refl _) (by simp)⟩
          · as_aux_lemma =>
              go_enter Try.func6, Try.ntmps6
              go_wp2_with fail
              refine (blive_any _).mono ?_; rintro e w1 ⟨rfl, d1⟩
              have d1 := (Chg.of_below d1 : Chg [] _ w1)
              obtain ⟨e1, e2⟩ := cfg_two d1
              have C1 := Lib.hid ((((Chg.refl [] w).alloc _).alloc _).trans d1)
              have X1 := Lib.hid d1
              clear d1
              go_wp2_with fail
              refine (reader_any _ c t f r).mono ?_; rintro e w2 ⟨rfl, d2⟩
              rw [A1.out, A2.out]
              have X2 := Lib.hid (X1.out.trans d2)
              have C2 := Lib.hid (C1.out.trans d2)
              clear e1 e2 d2
              obtain ⟨e1, e2⟩ := cfg_two X2.out
              go_wp2_with fail
              refine (writer_any _ c t f r).mono ?_; rintro e w3 ⟨rfl, d3⟩
              rw [A3.out, A2.out]
              have X3 := Lib.hid (X2.out.trans d3)
              have C3 := Lib.hid (C2.out.trans d3)
              clear e1 e2 d3
              obtain ⟨e1, e2⟩ := cfg_two X3.out
              go_wp2_with fail
              refine (reader_any _ c' t' f' r').mono ?_; rintro e w4 ⟨rfl, d4⟩
              rw [B1.out, B2.out]
              have X4 := Lib.hid (X3.out.trans d4)
              have C4 := Lib.hid (C3.out.trans d4)
              clear e1 e2 d4
              obtain ⟨e1, e2⟩ := cfg_two X4.out
              go_wp2_with fail
              refine (writer_any _ c' t' f' r').mono ?_; rintro e w5 ⟨rfl, d5⟩
              rw [B3.out, B2.out]
              have X5 := Lib.hid (X4.out.trans d5)
              have C5 := Lib.hid (C4.out.trans d5)
              clear e1 e2 d5
              obtain ⟨e1, e2⟩ := cfg_two X5.out
              clear X1 X2 X3 X4 C1 C2 C3 C4
              go_wp2
              go_ret
              first | exact ⟨rfl, C5.out.below (Nat.le_refl _) (by simp)⟩ | exact ⟨by simp; omega, C5.out.below (Nat.le_refl _) (by simp)⟩
        · as_aux_lemma =>
            go_enter Try.func6, Try.ntmps6
            go_wp2_with fail
            refine (blive_any _).mono ?_; rintro e w1 ⟨rfl, d1⟩
            have d1 := (Chg.of_below d1 : Chg [] _ w1)
            obtain ⟨e1, e2⟩ := cfg_two d1
            have C1 := Lib.hid ((((Chg.refl [] w).alloc _).alloc _).trans d1)
            have X1 := Lib.hid d1
            clear d1
            go_wp2_with fail
            refine (reader_any _ c t f r).mono ?_; rintro e w2 ⟨rfl, d2⟩
            rw [A1.out, A2.out]
            have X2 := Lib.hid (X1.out.trans d2)
            have C2 := Lib.hid (C1.out.trans d2)
            clear e1 e2 d2
            obtain ⟨e1, e2⟩ := cfg_two X2.out
            go_wp2_with fail
            refine (writer_any _ c t f r).mono ?_; rintro e w3 ⟨rfl, d3⟩
            rw [A3.out, A2.out]
            have X3 := Lib.hid (X2.out.trans d3)
            have C3 := Lib.hid (C2.out.trans d3)
            clear e1 e2 d3
            obtain ⟨e1, e2⟩ := cfg_two X3.out
            go_wp2_with fail
            refine (reader_any _ c' t' f' r').mono ?_; rintro e w4 ⟨rfl, d4⟩
            rw [B1.out, B2.out]
            have X4 := Lib.hid (X3.out.trans d4)
            have C4 := Lib.hid (C3.out.trans d4)
            clear e1 e2 d4
            obtain ⟨e1, e2⟩ := cfg_two X4.out
            go_wp2_with fail
            refine (writer_any _ c' t' f' r').mono ?_; rintro e w5 ⟨rfl, d5⟩
            rw [B3.out, B2.out]
            have X5 := Lib.hid (X4.out.trans d5)
            have C5 := Lib.hid (C4.out.trans d5)
            clear e1 e2 d5
            obtain ⟨e1, e2⟩ := cfg_two X5.out
            clear X1 X2 X3 X4 C1 C2 C3 C4
            go_wp2
            go_ret
            first | exact ⟨rfl, C5.out.below (Nat.le_refl _) (by simp)⟩ | exact ⟨by simp; omega, C5.out.below (Nat.le_refl _) (by simp)⟩
    · as_aux_lemma =>
        have A1 := Lib.hid (show readB c t f r = f * 4 + 6 from if_pos k1)
        have A2 := Lib.hid (show errB c t f r = 0 from if_pos k1)
        have A3 := Lib.hid (show writeB c t f r = f + (f * 4 + 6) + t + 3 * r + 8 from if_pos k1)
        obtain ⟨p1, p2, p3, p4, p5, p6, p7, p8⟩ := k1
        have B1 := Lib.hid (show readB c' t' f' r' = 0 from if_neg k2)
        have B2 := Lib.hid (show errB c' t' f' r' = 1 from if_neg k2)
        have B3 := Lib.hid (show writeB c' t' f' r' = 0 from if_neg k2)
        clear k2
        go_enter Try.func6, Try.ntmps6
        go_wp2_with fail
        refine (blive_any _).mono ?_; rintro e w1 ⟨rfl, d1⟩
        have d1 := (Chg.of_below d1 : Chg [] _ w1)
        obtain ⟨e1, e2⟩ := cfg_two d1
        have C1 := Lib.hid ((((Chg.refl [] w).alloc _).alloc _).trans d1)
        have X1 := Lib.hid d1
        clear d1
        go_wp2_with fail
        refine (reader_any _ c t f r).mono ?_; rintro e w2 ⟨rfl, d2⟩
        rw [A1.out, A2.out]
        have X2 := Lib.hid (X1.out.trans d2)
        have C2 := Lib.hid (C1.out.trans d2)
        clear e1 e2 d2
        obtain ⟨e1, e2⟩ := cfg_two X2.out
        go_wp2_with fail
        refine (writer_any _ c t f r).mono ?_; rintro e w3 ⟨rfl, d3⟩
        rw [A3.out, A2.out]
        have X3 := Lib.hid (X2.out.trans d3)
        have C3 := Lib.hid (C2.out.trans d3)
        clear e1 e2 d3
        obtain ⟨e1, e2⟩ := cfg_two X3.out
        go_wp2_with fail
        refine (reader_any _ c' t' f' r').mono ?_; rintro e w4 ⟨rfl, d4⟩
        rw [B1.out, B2.out]
        have X4 := Lib.hid (X3.out.trans d4)
        have C4 := Lib.hid (C3.out.trans d4)
        clear e1 e2 d4
        obtain ⟨e1, e2⟩ := cfg_two X4.out
        go_wp2_with fail
        refine (writer_any _ c' t' f' r').mono ?_; rintro e w5 ⟨rfl, d5⟩
        rw [B3.out, B2.out]
        have X5 := Lib.hid (X4.out.trans d5)
        have C5 := Lib.hid (C4.out.trans d5)
        clear e1 e2 d5
        obtain ⟨e1, e2⟩ := cfg_two X5.out
        clear X1 X2 X3 X4 C1 C2 C3 C4
        go_wp2
        go_ret
        first | exact ⟨rfl, C5.out.below (Nat.le_refl _) (by simp)⟩ | exact ⟨by simp; omega, C5.out.below (Nat.le_refl _) (by simp)⟩
  · by_cases k2 : okC c' t' f' r'
    · as_aux_lemma =>
        have A1 := Lib.hid (show readB c t f r = 0 from if_neg k1)
        have A2 := Lib.hid (show errB c t f r = 1 from if_neg k1)
        have A3 := Lib.hid (show writeB c t f r = 0 from if_neg k1)
        clear k1
        have B1 := Lib.hid (show readB c' t' f' r' = f' * 4 + 6 from if_pos k2)
        have B2 := Lib.hid (show errB c' t' f' r' = 0 from if_pos k2)
        have B3 := Lib.hid (show writeB c' t' f' r' = f' + (f' * 4 + 6) + t' + 3 * r' + 8 from if_pos k2)
        obtain ⟨q1, q2, q3, q4, q5, q6, q7, q8⟩ := k2
        go_enter Try.func6, Try.ntmps6
        go_wp2_with fail
        refine (blive_any _).mono ?_; rintro e w1 ⟨rfl, d1⟩
        have d1 := (Chg.of_below d1 : Chg [] _ w1)
        obtain ⟨e1, e2⟩ := cfg_two d1
        have C1 := Lib.hid ((((Chg.refl [] w).alloc _).alloc _).trans d1)
        have X1 := Lib.hid d1
        clear d1
        go_wp2_with fail
        refine (reader_any _ c t f r).mono ?_; rintro e w2 ⟨rfl, d2⟩
        rw [A1.out, A2.out]
        have X2 := Lib.hid (X1.out.trans d2)
        have C2 := Lib.hid (C1.out.trans d2)
        clear e1 e2 d2
        obtain ⟨e1, e2⟩ := cfg_two X2.out
        go_wp2_with fail
        refine (writer_any _ c t f r).mono ?_; rintro e w3 ⟨rfl, d3⟩
        rw [A3.out, A2.out]
        have X3 := Lib.hid (X2.out.trans d3)
        have C3 := Lib.hid (C2.out.trans d3)
        clear e1 e2 d3
        obtain ⟨e1, e2⟩ := cfg_two X3.out
        go_wp2_with fail
        refine (reader_any _ c' t' f' r').mono ?_; rintro e w4 ⟨rfl, d4⟩
        rw [B1.out, B2.out]
        have X4 := Lib.hid (X3.out.trans d4)
        have C4 := Lib.hid (C3.out.trans d4)
        clear e1 e2 d4
        obtain ⟨e1, e2⟩ := cfg_two X4.out
        go_wp2_with fail
        refine (writer_any _ c' t' f' r').mono ?_; rintro e w5 ⟨rfl, d5⟩
        rw [B3.out, B2.out]
        have X5 := Lib.hid (X4.out.trans d5)
        have C5 := Lib.hid (C4.out.trans d5)
        clear e1 e2 d5
        obtain ⟨e1, e2⟩ := cfg_two X5.out
        clear X1 X2 X3 X4 C1 C2 C3 C4
        go_wp2
        go_ret
        first | exact ⟨rfl, C5.out.below (Nat.le_refl _) (by simp)⟩ | exact ⟨by simp; omega, C5.out.below (Nat.le_refl _) (by simp)⟩
    · as_aux_lemma =>
        have A1 := Lib.hid (show readB c t f r = 0 from if_neg k1)
        have A2 := Lib.hid (show errB c t f r = 1 from if_neg k1)
        have A3 := Lib.hid (show writeB c t f r = 0 from if_neg k1)
        clear k1
        have B1 := Lib.hid (show readB c' t' f' r' = 0 from if_neg k2)
        have B2 := Lib.hid (show errB c' t' f' r' = 1 from if_neg k2)
        have B3 := Lib.hid (show writeB c' t' f' r' = 0 from if_neg k2)
        clear k2
        go_enter Try.func6, Try.ntmps6
        go_wp2_with fail
        refine (blive_any _).mono ?_; rintro e w1 ⟨rfl, d1⟩
        have d1 := (Chg.of_below d1 : Chg [] _ w1)
        obtain ⟨e1, e2⟩ := cfg_two d1
        have C1 := Lib.hid ((((Chg.refl [] w).alloc _).alloc _).trans d1)
        have X1 := Lib.hid d1
        clear d1
        go_wp2_with fail
        refine (reader_any _ c t f r).mono ?_; rintro e w2 ⟨rfl, d2⟩
        rw [A1.out, A2.out]
        have X2 := Lib.hid (X1.out.trans d2)
        have C2 := Lib.hid (C1.out.trans d2)
        clear e1 e2 d2
        obtain ⟨e1, e2⟩ := cfg_two X2.out
        go_wp2_with fail
        refine (writer_any _ c t f r).mono ?_; rintro e w3 ⟨rfl, d3⟩
        rw [A3.out, A2.out]
        have X3 := Lib.hid (X2.out.trans d3)
        have C3 := Lib.hid (C2.out.trans d3)
        clear e1 e2 d3
        obtain ⟨e1, e2⟩ := cfg_two X3.out
        go_wp2_with fail
        refine (reader_any _ c' t' f' r').mono ?_; rintro e w4 ⟨rfl, d4⟩
        rw [B1.out, B2.out]
        have X4 := Lib.hid (X3.out.trans d4)
        have C4 := Lib.hid (C3.out.trans d4)
        clear e1 e2 d4
        obtain ⟨e1, e2⟩ := cfg_two X4.out
        go_wp2_with fail
        refine (writer_any _ c' t' f' r').mono ?_; rintro e w5 ⟨rfl, d5⟩
        rw [B3.out, B2.out]
        have X5 := Lib.hid (X4.out.trans d5)
        have C5 := Lib.hid (C4.out.trans d5)
        clear e1 e2 d5
        obtain ⟨e1, e2⟩ := cfg_two X5.out
        clear X1 X2 X3 X4 C1 C2 C3 C4
        go_wp2
        go_ret
        first | exact ⟨rfl, C5.out.below (Nat.le_refl _) (by simp)⟩ | exact ⟨by simp; omega, C5.out.below (Nat.le_refl _) (by simp)⟩

end Go.Proofs.Ytldhlkkclmifmaa
