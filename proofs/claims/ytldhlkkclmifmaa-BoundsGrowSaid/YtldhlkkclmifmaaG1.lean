import Derived.Test.YtldhlkkclmifmaaA3
set_option linter.unusedVariables false
set_option linter.unusedSimpArgs false
namespace Go.Proofs.Ytldhlkkclmifmaa
open Go.RowKit

/-! bounds: what a config allows -/
def okC (c t f r : Int) : Prop := 1 ≤ c ∧ c ≤ 256 ∧ 1 ≤ t ∧ t ≤ 8 ∧ 1 ≤ f ∧ f ≤ 1024 ∧ 1 ≤ r ∧ r ≤ 32
instance (c t f r : Int) : Decidable (okC c t f r) := by unfold okC; infer_instance
def cfg (c t f r : Int) : Value := .agg #[.int .i64 c, .int .i64 t, .int .i64 f, .int .i64 r]
def TwoPost (w : World) (a e : Int) (en : Ending) (w' : World) : Prop := (∃ v, en = .returned (.tuple #[.agg v, .int .i64 e]) ∧ v.size = 6 ∧ v.all (·.oneCell') = true) ∧ Chg [] w w'
def IntErr (w : World) (a e : Int) (en : Ending) (w' : World) : Prop := en = .returned (.tuple #[.int .i64 a, .int .i64 e]) ∧ Chg [] w w'

theorem bad_cases {c t f r : Int} (h : ¬ okC c t f r) :
    c < 1 ∨ (1 ≤ c ∧ 256 < c) ∨ (1 ≤ c ∧ c ≤ 256 ∧ t < 1) ∨ (1 ≤ c ∧ c ≤ 256 ∧ 1 ≤ t ∧ 8 < t) ∨ (1 ≤ c ∧ c ≤ 256 ∧ 1 ≤ t ∧ t ≤ 8 ∧ f < 1) ∨ (1 ≤ c ∧ c ≤ 256 ∧ 1 ≤ t ∧ t ≤ 8 ∧ 1 ≤ f ∧ 1024 < f) ∨
    (1 ≤ c ∧ c ≤ 256 ∧ 1 ≤ t ∧ t ≤ 8 ∧ 1 ≤ f ∧ f ≤ 1024 ∧ r < 1) ∨ (1 ≤ c ∧ c ≤ 256 ∧ 1 ≤ t ∧ t ≤ 8 ∧ 1 ≤ f ∧ f ≤ 1024 ∧ 1 ≤ r ∧ 32 < r) := by unfold okC at h; omega

set_option maxRecDepth 100000 in
set_option maxHeartbeats 1000000 in
theorem place_bad (w : World) (c t f r : Int) (h : ¬ okC c t f r) : Calls Try.prog 34 #[.agg #[.int .i64 c, .int .i64 t, .int .i64 f, .int .i64 r]] w (TwoPost w 0 1) := by
  rcases bad_cases h with h | ⟨h, _⟩ | ⟨h, _, _⟩ | ⟨h, _, _, _⟩ | ⟨h, _, _, _, _⟩ | ⟨h, _, _, _, _, _⟩ | ⟨h, _, _, _, _, _, _⟩ | ⟨h, _, _, _, _, _, _, _⟩
  all_goals
    go_enter Try.func34, Try.ntmps34
    go_wp2
    refine bodyPost_ret (v := .tuple #[.agg #[.int .i64 0, .int .i64 0, .int .i64 0, .int .i64 0, .int .i64 0, .int .i64 0], .int .i64 1]) (by simp [results, Try.results34, go_sem]) rfl ⟨⟨_, rfl, rfl, by simp [Value.oneCell']⟩, ?_⟩
    exact ((Chg.refl _ _).alloc _).alloc _

set_option maxRecDepth 100000 in
set_option maxHeartbeats 1000000 in
theorem place_ok (w : World) (c t f r : Int) (h : okC c t f r) : Calls Try.prog 34 #[.agg #[.int .i64 c, .int .i64 t, .int .i64 f, .int .i64 r]] w (TwoPost w 0 0) := by
  obtain ⟨h1, h2, h3, h4, h5, h6, h7, h8⟩ := h
  go_enter Try.func34, Try.ntmps34
  go_wp2
  refine bodyPost_ret (v := .tuple #[.agg #[.int .i64 0, .int .i64 1, .int .i64 2, .int .i64 3, .int .i64 (3 + t), .int .i64 (3 + t + 3 * c)], .int .i64 0]) (by simp [results, Try.results34, go_sem]) rfl ⟨⟨_, rfl, rfl, by simp [Value.oneCell']⟩, ?_⟩
  exact (((Chg.refl _ _).alloc _).alloc _).alloc _

set_option maxHeartbeats 1000000 in
theorem maybe_any (w : World) (c t f r : Int) : Calls Try.prog 40 #[.agg #[.int .i64 c, .int .i64 t, .int .i64 f, .int .i64 r]] w fun e w' => e = .returned (.bool (decide (okC c t f r))) ∧ Chg [] w w' := by
  by_cases h : okC c t f r
  · rw [show decide (okC c t f r) = true from decide_eq_true h]
    obtain ⟨h1, h2, h3, h4, h5, h6, h7, h8⟩ := h
    go_enter Try.func40, Try.ntmps40
    go_wp2
    go_ret
    exact ⟨rfl, (Chg.refl _ _).alloc _⟩
  · rw [show decide (okC c t f r) = false from decide_eq_false h]
    rcases bad_cases h with h' | ⟨h', _⟩ | ⟨h', _, _⟩ | ⟨h', _, _, _⟩ | ⟨h', _, _, _, _⟩ | ⟨h', _, _, _, _, _⟩ | ⟨h', _, _, _, _, _, _⟩ | ⟨h', _, _, _, _, _, _, _⟩
    all_goals
      clear h
      go_enter Try.func40, Try.ntmps40
      go_wp2
      go_ret
      refine ⟨?_, (Chg.refl _ _).alloc _⟩
      first | rfl | (simp; omega)

set_option maxHeartbeats 1000000 in
theorem rplace_any (w : World) (c t f r : Int) : Calls Try.prog 35 #[.agg #[.int .i64 c, .int .i64 t, .int .i64 f, .int .i64 r]] w (TwoPost w 0 (if okC c t f r then 0 else 1)) := by
  by_cases h : okC c t f r
  · rw [if_pos h]
    have hd : decide (okC c t f r) = true := decide_eq_true h
    obtain ⟨h1, h2, h3, h4, h5, h6, h7, h8⟩ := h
    go_enter Try.func35, Try.ntmps35
    go_wp2_with fail
    refine (maybe_any _ c t f r).mono ?_; rintro e w1 ⟨rfl, c1⟩
    rw [hd]
    have g0 := (c1.block w.heap.size (by simp; omega) (by simp)).trans ((Below.heap_alloc _ _ _ (by simp)).trans (heap_alloc_new w _))
    have g1 := (c1.block (w.heap.size + 1) (by simp) (by simp)).trans (heap_alloc2_new w _ _)
    have e0 : ∀ o, w1.cell? ⟨w.heap.size, o, none⟩ = (#[.int .i64 c, .int .i64 t, .int .i64 f, .int .i64 r] : Array Value)[o]? := fun o => cell_of_row w1 _ o _ _ _ g0
    have e1 : ∀ o, w1.cell? ⟨w.heap.size + 1, o, none⟩ = (#[.int .i64 0, .int .i64 0, .int .i64 0, .int .i64 0, .int .i64 0, .int .i64 0] : Array Value)[o]? := fun o => cell_of_row w1 _ o _ _ _ g1
    have f1 : ∀ o, w1.frozen? ⟨w.heap.size + 1, o, none⟩ = false := fun o => frozen_of_row w1 _ o _ _ g1
    have hlt := lt_of_heap g1
    have C1 := Lib.hid (((Chg.refl [] w).alloc _).alloc _ |>.trans c1)
    clear g0 g1 c1 hd
    go_wp2
    refine bodyPost_ret (v := .tuple #[.agg #[.int .i64 0, .int .i64 1, .int .i64 2, .int .i64 3, .int .i64 (3 + t), .int .i64 (3 + t + 3 * c)], .int .i64 0]) (by simp [results, Try.results35, go_sem, e1]) rfl ⟨⟨_, rfl, rfl, by simp [Value.oneCell']⟩, ?_⟩
    repeat with_reducible refine Chg.setCell ?_ (.inr (by simp)) _
    exact C1.out
  · rw [if_neg h]
    have hd : decide (okC c t f r) = false := decide_eq_false h
    clear h
    go_enter Try.func35, Try.ntmps35
    go_wp2_with fail
    refine (maybe_any _ c t f r).mono ?_; rintro e w1 ⟨rfl, c1⟩
    rw [hd]
    have g1 := (c1.block (w.heap.size + 1) (by simp) (by simp)).trans (heap_alloc2_new w _ _)
    have e1 : ∀ o, w1.cell? ⟨w.heap.size + 1, o, none⟩ = (#[.int .i64 0, .int .i64 0, .int .i64 0, .int .i64 0, .int .i64 0, .int .i64 0] : Array Value)[o]? := fun o => cell_of_row w1 _ o _ _ _ g1
    have f1 : ∀ o, w1.frozen? ⟨w.heap.size + 1, o, none⟩ = false := fun o => frozen_of_row w1 _ o _ _ g1
    have C1 := Lib.hid (((Chg.refl [] w).alloc _).alloc _ |>.trans c1)
    clear g1 c1 hd
    go_wp2
    refine bodyPost_ret (v := .tuple #[.agg #[.int .i64 0, .int .i64 0, .int .i64 0, .int .i64 0, .int .i64 0, .int .i64 0], .int .i64 1]) (by simp [results, Try.results35, go_sem, e1]) rfl ⟨⟨_, rfl, rfl, by simp [Value.oneCell']⟩, ?_⟩
    repeat with_reducible refine Chg.setCell ?_ (.inr (by simp)) _
    exact C1.out

end Go.Proofs.Ytldhlkkclmifmaa
