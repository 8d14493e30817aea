import Derived.Test.YtphaeodcomgffaaGreatC0
import Derived.Test.YtphaeodcomgffaaGreatE2
set_option linter.unusedVariables false
set_option linter.unusedSimpArgs false
namespace Go.Proofs.YtphaeodcomgffaaGreat
open Go.RowKit

def cfgV (C : Cfg) : Value := .agg #[.int .i64 C.cells, .int .i64 C.threads, .int .i64 C.fuel, .int .i64 C.writes]
def noPlan : Value := .agg #[.int .i64 0, .int .i64 0, .int .i64 0, .int .i64 0, .int .i64 0, .int .i64 0]
theorem bad_cases {C : Cfg} (h : ¬ C.ok) :
    C.cells < 1 ∨ (256 < C.cells ∧ 1 ≤ C.cells) ∨ (C.threads < 1 ∧ 1 ≤ C.cells ∧ C.cells ≤ 256) ∨ (8 < C.threads ∧ 1 ≤ C.cells ∧ C.cells ≤ 256 ∧ 1 ≤ C.threads) ∨ (C.fuel < 1 ∧ 1 ≤ C.cells ∧ C.cells ≤ 256 ∧ 1 ≤ C.threads ∧ C.threads ≤ 8) ∨ (1024 < C.fuel ∧ 1 ≤ C.cells ∧ C.cells ≤ 256 ∧ 1 ≤ C.threads ∧ C.threads ≤ 8 ∧ 1 ≤ C.fuel) ∨
    (C.writes < 1 ∧ 1 ≤ C.cells ∧ C.cells ≤ 256 ∧ 1 ≤ C.threads ∧ C.threads ≤ 8 ∧ 1 ≤ C.fuel ∧ C.fuel ≤ 1024) ∨ (32 < C.writes ∧ 1 ≤ C.cells ∧ C.cells ≤ 256 ∧ 1 ≤ C.threads ∧ C.threads ≤ 8 ∧ 1 ≤ C.fuel ∧ C.fuel ≤ 1024 ∧ 1 ≤ C.writes) := by unfold Cfg.ok at h; omega
def planE (C : Cfg) : Value := if C.ok then .tuple #[planV C, .int .i64 0] else .tuple #[noPlan, .int .i64 1]
set_option maxRecDepth 100000 in
set_option maxHeartbeats 1000000 in
theorem mplace_walk (C : Cfg) (w : World) : Calls Tryz.prog 102 #[cfgV C] w fun e w' => e = .returned (planE C) ∧ Below w.heap.size w w' := by
  unfold planE planV noPlan cfgV
  by_cases h : C.ok
  · rw [if_pos h]
    obtain ⟨h1, h2, h3, h4, h5, h6, h7, h8⟩ := h
    go_enter Tryz.func102, Tryz.ntmps102
    go_wp2
    refine bodyPost_ret (v := .tuple #[.agg #[.int .i64 0, .int .i64 1, .int .i64 2, .int .i64 3, .int .i64 (3 + C.threads), .int .i64 (3 + C.threads + 3 * C.cells)], .int .i64 0]) (by simp [results, Tryz.results102, go_sem]) rfl ⟨rfl, below_of_chg ?_⟩
    exact (((Chg.refl _ _).alloc _).alloc _).alloc _
  · rw [if_neg h]
    rcases bad_cases h with h | ⟨h, _⟩ | ⟨h, _, _⟩ | ⟨h, _, _, _⟩ | ⟨h, _, _, _, _⟩ | ⟨h, _, _, _, _, _⟩ | ⟨h, _, _, _, _, _, _⟩ | ⟨h, _, _, _, _, _, _, _⟩
    all_goals
      go_enter Tryz.func102, Tryz.ntmps102
      go_wp2
      refine bodyPost_ret (v := .tuple #[.agg #[.int .i64 0, .int .i64 0, .int .i64 0, .int .i64 0, .int .i64 0, .int .i64 0], .int .i64 1]) (by simp [results, Tryz.results102, go_sem]) rfl ⟨rfl, below_of_chg ?_⟩
      exact ((Chg.refl _ _).alloc _).alloc _
set_option maxRecDepth 100000 in
set_option maxHeartbeats 1000000 in
theorem rmaybe_walk (C : Cfg) (w : World) : Calls Tryz.prog 111 #[cfgV C] w fun e w' => e = .returned (.bool (decide C.ok)) ∧ Chg [] w w' := by
  unfold cfgV
  by_cases h : C.ok
  · rw [show decide C.ok = true from decide_eq_true h]
    obtain ⟨h1, h2, h3, h4, h5, h6, h7, h8⟩ := h
    go_enter Tryz.func111, Tryz.ntmps111
    go_wp2
    go_ret
    exact ⟨rfl, (Chg.refl _ _).alloc _⟩
  · rw [show decide C.ok = false from decide_eq_false h]
    rcases bad_cases h with h' | ⟨h', _⟩ | ⟨h', _, _⟩ | ⟨h', _, _, _⟩ | ⟨h', _, _, _, _⟩ | ⟨h', _, _, _, _, _⟩ | ⟨h', _, _, _, _, _, _⟩ | ⟨h', _, _, _, _, _, _, _⟩
    all_goals
      clear h
      go_enter Tryz.func111, Tryz.ntmps111
      go_wp2
      go_ret
      refine ⟨?_, (Chg.refl _ _).alloc _⟩
      first | rfl | (simp; omega)
theorem two_kept {w w1 : World} {cs ds : Array Value} {t u : TypeId} (b : Chg [] ((w.alloc (.cells cs t)).alloc (.cells ds u)) w1) : w1.heap[w.heap.size]? = some (.cells cs t (0, 0)) ∧ w1.heap[w.heap.size + 1]? = some (.cells ds u (0, 0)) := by
  constructor
  · rw [b.block _ (by simp; omega) (by simp), Below.heap_alloc _ _ _ (by simp)]
    exact heap_alloc_new _ _
  · rw [b.block _ (by simp) (by simp)]
    exact alloc2_heap _ _ _ _
set_option maxRecDepth 100000 in
set_option maxHeartbeats 1000000 in
theorem rplace_walk (C : Cfg) (w : World) : Calls Tryz.prog 70 #[cfgV C] w fun e w' => e = .returned (planE C) ∧ Below w.heap.size w w' := by
  have MW := fun W => rmaybe_walk C W
  unfold planE planV noPlan
  by_cases h : C.ok
  · rw [show decide C.ok = true from decide_eq_true h] at MW
    rw [if_pos h]
    obtain ⟨h1, h2, h3, h4, h5, h6, h7, h8⟩ := h
    unfold cfgV at MW ⊢
    go_enter Tryz.func70, Tryz.ntmps70
    go_wp2_with (go_at_call 111; refine (MW _).mono ?_; rintro e w1 ⟨rfl, b1⟩; obtain ⟨z1, z2⟩ := two_kept b1; have hc1 := fun o => cell_of_row w1 _ o _ _ _ z1; have hc2 := fun o => cell_of_row w1 _ o _ _ _ z2; have hf2 := fun o => frozen_of_row w1 _ o _ _ z2; have Z2 := Lib.hid z2; have B1 := Lib.hid b1; clear z1 z2 b1)
    refine bodyPost_ret (v := .tuple #[.agg #[.int .i64 0, .int .i64 1, .int .i64 2, .int .i64 3, .int .i64 (3 + C.threads), .int .i64 (3 + C.threads + 3 * C.cells)], .int .i64 0]) (by simp [results, Tryz.results70, go_sem, hc2, hf2]) rfl ⟨rfl, below_of_chg ?_⟩
    repeat with_reducible refine Chg.setCell ?_ (.inr (Nat.le_succ _)) _
    exact (((Chg.refl _ _).alloc _).alloc _).trans B1.out
  · rw [show decide C.ok = false from decide_eq_false h] at MW
    rw [if_neg h]
    clear h
    unfold cfgV at MW ⊢
    go_enter Tryz.func70, Tryz.ntmps70
    go_wp2_with (go_at_call 111; refine (MW _).mono ?_; rintro e w1 ⟨rfl, b1⟩; obtain ⟨z1, z2⟩ := two_kept b1; have hc1 := fun o => cell_of_row w1 _ o _ _ _ z1; have hc2 := fun o => cell_of_row w1 _ o _ _ _ z2; have hf2 := fun o => frozen_of_row w1 _ o _ _ z2; have Z2 := Lib.hid z2; have B1 := Lib.hid b1; clear z1 z2 b1)
    refine bodyPost_ret (v := .tuple #[.agg #[.int .i64 0, .int .i64 0, .int .i64 0, .int .i64 0, .int .i64 0, .int .i64 0], .int .i64 1]) (by simp [results, Tryz.results70, go_sem, hc2, hf2]) rfl ⟨rfl, below_of_chg ?_⟩
    repeat with_reducible refine Chg.setCell ?_ (.inr (Nat.le_succ _)) _
    exact (((Chg.refl _ _).alloc _).alloc _).trans B1.out
end Go.Proofs.YtphaeodcomgffaaGreat
