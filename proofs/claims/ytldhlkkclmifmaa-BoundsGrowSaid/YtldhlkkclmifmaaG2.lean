import Derived.Test.YtldhlkkclmifmaaG1
set_option linter.unusedVariables false
set_option linter.unusedSimpArgs false
namespace Go.Proofs.Ytldhlkkclmifmaa
open Go.RowKit

theorem size65 (cs : Array Value) (h : cs.size = 6) : (Try.prog.info? 65).map (·.size) = some cs.size := by rw [h]; kernel_rfl
def readB (c t f r : Int) : Int := if okC c t f r then f * 4 + 6 else 0
def errB (c t f r : Int) : Int := if okC c t f r then 0 else 1
def writeB (c t f r : Int) : Int := if okC c t f r then f + (f * 4 + 6) + t + 3 * r + 8 else 0

theorem two_eq {a b e : Int} (h : a = b) : Ending.returned (.tuple #[.int .i64 a, .int .i64 e]) = .returned (.tuple #[.int .i64 b, .int .i64 e]) := by rw [h]
theorem cfg_keep {w w1 : World} {c t f r : Int} (c1 : Chg [] (w.alloc (.cells #[.int .i64 c, .int .i64 t, .int .i64 f, .int .i64 r] 34)) w1) :
    (∀ o, w1.cell? ⟨w.heap.size, o, none⟩ = (#[.int .i64 c, .int .i64 t, .int .i64 f, .int .i64 r] : Array Value)[o]?) ∧ w.heap.size < w1.heap.size := by
  have g0 := (c1.block w.heap.size (by simp) (by simp)).trans (heap_alloc_new w _)
  exact ⟨fun o => cell_of_row w1 _ o _ _ _ g0, lt_of_heap g0⟩

theorem cfg_keep2 {w w1 : World} {c t f r : Int} {v : Array Value} {o' : Obj} (e0 : ∀ o, w1.cell? ⟨w.heap.size, o, none⟩ = (#[.int .i64 c, .int .i64 t, .int .i64 f, .int .i64 r] : Array Value)[o]?) (hlt : w.heap.size < w1.heap.size) :
    ∀ o, ((w1.alloc o').setRow w1.heap.size v).cell? ⟨w.heap.size, o, none⟩ = (#[.int .i64 c, .int .i64 t, .int .i64 f, .int .i64 r] : Array Value)[o]? := fun o => by
  rw [cell_setRow_other _ _ _ _ (by simp; omega), World.cell?_of_block (w := w1) (Below.heap_alloc _ _ _ hlt)]; exact e0 o

set_option maxHeartbeats 1000000 in
theorem reader_any (w : World) (c t f r : Int) : Calls Try.prog 18 #[.agg #[.int .i64 c, .int .i64 t, .int .i64 f, .int .i64 r]] w (IntErr w (readB c t f r) (errB c t f r)) := by
  by_cases h : okC c t f r
  · have E1 := Lib.hid (show readB c t f r = f * 4 + 6 from if_pos h)
    have E2 := Lib.hid (show errB c t f r = 0 from if_pos h)
    have h' := h
    obtain ⟨h1, h2, h3, h4, h5, h6, h7, h8⟩ := h
    go_enter Try.func18, Try.ntmps18
    go_wp2_with fail
    refine (place_ok _ c t f r h').mono ?_; rintro e w1 ⟨⟨v, rfl, hv, hone⟩, c1⟩
    obtain ⟨e0, hlt⟩ := cfg_keep c1
    have e2 := cfg_keep2 (v := v) (o' := .cells #[.int .i64 0, .int .i64 0, .int .i64 0, .int .i64 0, .int .i64 0, .int .i64 0] 65) e0 hlt
    have C1 := Lib.hid (((Chg.refl [] w).alloc _).trans c1)
    clear c1 h' e0
    go_wp2_with (refine wpList_store_row rfl 65 _ _ rfl w1.heap.size v rfl rfl 65 _ (heap_alloc_new _ _) (size65 _ hv) (by simp [hv]) hone ?_)
    go_ret2
    exact ⟨by rw [E1.out, E2.out]; first | rfl | exact two_eq (by omega), (C1.out.alloc _).setRow (.inr (by omega)) _⟩
  · have E1 := Lib.hid (show readB c t f r = 0 from if_neg h)
    have E2 := Lib.hid (show errB c t f r = 1 from if_neg h)
    go_enter Try.func18, Try.ntmps18
    go_wp2_with fail
    refine (place_bad _ c t f r h).mono ?_; rintro e w1 ⟨⟨v, rfl, hv, hone⟩, c1⟩
    have hlt := (cfg_keep c1).2
    have C1 := Lib.hid (((Chg.refl [] w).alloc _).trans c1)
    clear c1 h
    go_wp2_with (refine wpList_store_row rfl 65 _ _ rfl w1.heap.size v rfl rfl 65 _ (heap_alloc_new _ _) (size65 _ hv) (by simp [hv]) hone ?_)
    go_ret2
    exact ⟨by rw [E1.out, E2.out]; rfl, (C1.out.alloc _).setRow (.inr (by omega)) _⟩

theorem rplace_ok (w : World) (c t f r : Int) (h : okC c t f r) : Calls Try.prog 35 #[.agg #[.int .i64 c, .int .i64 t, .int .i64 f, .int .i64 r]] w (TwoPost w 0 0) := by
  have := rplace_any w c t f r; rwa [if_pos h] at this
theorem rplace_bad (w : World) (c t f r : Int) (h : ¬ okC c t f r) : Calls Try.prog 35 #[.agg #[.int .i64 c, .int .i64 t, .int .i64 f, .int .i64 r]] w (TwoPost w 0 1) := by
  have := rplace_any w c t f r; rwa [if_neg h] at this

set_option maxHeartbeats 1000000 in
theorem rreader_any (w : World) (c t f r : Int) : Calls Try.prog 19 #[.agg #[.int .i64 c, .int .i64 t, .int .i64 f, .int .i64 r]] w (IntErr w (readB c t f r) (errB c t f r)) := by
  by_cases h : okC c t f r
  · have E1 := Lib.hid (show readB c t f r = f * 4 + 6 from if_pos h)
    have E2 := Lib.hid (show errB c t f r = 0 from if_pos h)
    have h' := h
    obtain ⟨h1, h2, h3, h4, h5, h6, h7, h8⟩ := h
    go_enter Try.func19, Try.ntmps19
    go_wp2_with fail
    refine (rplace_ok _ c t f r h').mono ?_; rintro e w1 ⟨⟨v, rfl, hv, hone⟩, c1⟩
    obtain ⟨e0, hlt⟩ := cfg_keep c1
    have e2 := cfg_keep2 (v := v) (o' := .cells #[.int .i64 0, .int .i64 0, .int .i64 0, .int .i64 0, .int .i64 0, .int .i64 0] 65) e0 hlt
    have C1 := Lib.hid (((Chg.refl [] w).alloc _).trans c1)
    clear c1 h' e0
    go_wp2_with (refine wpList_store_row rfl 65 _ _ rfl w1.heap.size v rfl rfl 65 _ (heap_alloc_new _ _) (size65 _ hv) (by simp [hv]) hone ?_)
    go_ret2
    exact ⟨by rw [E1.out, E2.out]; first | rfl | exact two_eq (by omega), (C1.out.alloc _).setRow (.inr (by omega)) _⟩
  · have E1 := Lib.hid (show readB c t f r = 0 from if_neg h)
    have E2 := Lib.hid (show errB c t f r = 1 from if_neg h)
    go_enter Try.func19, Try.ntmps19
    go_wp2_with fail
    refine (rplace_bad _ c t f r h).mono ?_; rintro e w1 ⟨⟨v, rfl, hv, hone⟩, c1⟩
    have hlt := (cfg_keep c1).2
    have C1 := Lib.hid (((Chg.refl [] w).alloc _).trans c1)
    clear c1 h
    go_wp2_with (refine wpList_store_row rfl 65 _ _ rfl w1.heap.size v rfl rfl 65 _ (heap_alloc_new _ _) (size65 _ hv) (by simp [hv]) hone ?_)
    go_ret2
    exact ⟨by rw [E1.out, E2.out]; rfl, (C1.out.alloc _).setRow (.inr (by omega)) _⟩

set_option maxHeartbeats 1000000 in
theorem writer_any (w : World) (c t f r : Int) : Calls Try.prog 20 #[.agg #[.int .i64 c, .int .i64 t, .int .i64 f, .int .i64 r]] w (IntErr w (writeB c t f r) (errB c t f r)) := by
  by_cases h : okC c t f r
  · have E1 := Lib.hid (show writeB c t f r = f + (f * 4 + 6) + t + 3 * r + 8 from if_pos h)
    have E2 := Lib.hid (show errB c t f r = 0 from if_pos h)
    have E3 := Lib.hid (show readB c t f r = f * 4 + 6 from if_pos h)
    obtain ⟨h1, h2, h3, h4, h5, h6, h7, h8⟩ := h
    go_enter Try.func20, Try.ntmps20
    go_wp2_with fail
    refine (reader_any _ c t f r).mono ?_; rintro e w1 ⟨rfl, c1⟩
    obtain ⟨e0, hlt⟩ := cfg_keep c1
    have C1 := Lib.hid (((Chg.refl [] w).alloc _).trans c1)
    rw [E2.out, E3.out]
    clear c1
    go_wp2
    go_ret2
    exact ⟨by rw [E1.out, E2.out]; first | rfl | exact two_eq (by omega), C1.out⟩
  · have E1 := Lib.hid (show writeB c t f r = 0 from if_neg h)
    have E2 := Lib.hid (show errB c t f r = 1 from if_neg h)
    have E3 := Lib.hid (show readB c t f r = 0 from if_neg h)
    go_enter Try.func20, Try.ntmps20
    go_wp2_with fail
    refine (reader_any _ c t f r).mono ?_; rintro e w1 ⟨rfl, c1⟩
    have C1 := Lib.hid (((Chg.refl [] w).alloc _).trans c1)
    rw [E2.out, E3.out]
    clear c1 h
    go_wp2
    go_ret2
    exact ⟨by rw [E1.out, E2.out]; rfl, C1.out⟩

set_option maxHeartbeats 1000000 in
theorem rwriter_any (w : World) (c t f r : Int) : Calls Try.prog 21 #[.agg #[.int .i64 c, .int .i64 t, .int .i64 f, .int .i64 r]] w (IntErr w (writeB c t f r) (errB c t f r)) := by
  by_cases h : okC c t f r
  · have E1 := Lib.hid (show writeB c t f r = f + (f * 4 + 6) + t + 3 * r + 8 from if_pos h)
    have E2 := Lib.hid (show errB c t f r = 0 from if_pos h)
    have E3 := Lib.hid (show readB c t f r = f * 4 + 6 from if_pos h)
    obtain ⟨h1, h2, h3, h4, h5, h6, h7, h8⟩ := h
    go_enter Try.func21, Try.ntmps21
    go_wp2_with fail
    refine (rreader_any _ c t f r).mono ?_; rintro e w1 ⟨rfl, c1⟩
    obtain ⟨e0, hlt⟩ := cfg_keep c1
    have C1 := Lib.hid (((Chg.refl [] w).alloc _).trans c1)
    rw [E2.out, E3.out]
    clear c1
    go_wp2
    go_ret2
    exact ⟨by rw [E1.out, E2.out]; first | rfl | exact two_eq (by omega), C1.out⟩
  · have E1 := Lib.hid (show writeB c t f r = 0 from if_neg h)
    have E2 := Lib.hid (show errB c t f r = 1 from if_neg h)
    have E3 := Lib.hid (show readB c t f r = 0 from if_neg h)
    go_enter Try.func21, Try.ntmps21
    go_wp2_with fail
    refine (rreader_any _ c t f r).mono ?_; rintro e w1 ⟨rfl, c1⟩
    have C1 := Lib.hid (((Chg.refl [] w).alloc _).trans c1)
    rw [E2.out, E3.out]
    clear c1 h
    go_wp2
    go_ret2
    exact ⟨by rw [E1.out, E2.out]; rfl, C1.out⟩

end Go.Proofs.Ytldhlkkclmifmaa
