import Derived.Test.YtphaeodcomgffaaGreatN2
import Derived.Deep.RegionLaw
set_option linter.unusedVariables false
set_option linter.unusedSimpArgs false
namespace Go.Proofs.YtphaeodcomgffaaGreat
open Go.RowKit

theorem fx_lt {x : Nat} (h : x < 18446744073709551616) : fx x < 18446744073709551616 := by
  unfold fx theNaN
  split
  · omega
  · exact h
def onesC : Array Value := #[.nilFunc, .func (.func 231) #[] #[], .func (.func 232) #[] #[], .func (.func 179) #[] #[], .func (.func 180) #[] #[], .func (.func 233) #[] #[], .func (.func 235) #[] #[], .func (.func 236) #[] #[], .func (.func 237) #[] #[]]
def twosC : Array Value := #[.nilFunc, .func (.func 238) #[] #[], .func (.func 239) #[] #[], .func (.func 240) #[] #[], .func (.func 241) #[] #[], .func (.func 242) #[] #[], .func (.func 243) #[] #[], .func (.func 244) #[] #[], .func (.func 245) #[] #[], .func (.func 246) #[] #[], .func (.func 247) #[] #[], .func (.func 248) #[] #[], .func (.func 249) #[] #[]]
set_option maxRecDepth 100000 in
theorem ones_walk (w : World) : Calls Tryz.prog 224 #[] w fun e w' => e = .returned (.slice (some ⟨w.heap.size, 0, none⟩) 9 9) ∧ w' = w.alloc (.cells onesC 165) := by
  go_enter Tryz.func224, Tryz.ntmps224
  go_wp2
  go_ret
  exact ⟨rfl, rfl⟩
set_option maxRecDepth 100000 in
theorem twos_walk (w : World) : Calls Tryz.prog 225 #[] w fun e w' => e = .returned (.slice (some ⟨w.heap.size, 0, none⟩) 13 13) ∧ w' = w.alloc (.cells twosC 247) := by
  go_enter Tryz.func225, Tryz.ntmps225
  go_wp2
  go_ret
  exact ⟨rfl, rfl⟩
set_option maxRecDepth 100000 in
set_option maxHeartbeats 1000000 in
theorem one_1 (x : Nat) (hx : fx x < 18446744073709551616) (w : World) : Calls Tryz.prog 209 #[.int .i64 1, .float .f64 x] w fun e w' => e = .returned (.tuple #[.float .f64 (oneF 1 (fx x)), .int .i64 0]) ∧ Below w.heap.size w w' := by
  have OC := neg_walk (fx x)
  obtain ⟨y, hy⟩ : ∃ y, y = oneF 1 (fx x) := ⟨_, rfl⟩
  rw [← hy] at OC ⊢
  clear hy hx
  have hc : (w.alloc (.cells onesC 165)).cell? ⟨w.heap.size, 1, none⟩ = some (.func (.func 231) #[] #[]) := cell_of_row _ _ _ _ _ _ (heap_alloc_new _ _)
  have B1 : Below w.heap.size w (w.alloc (.cells onesC 165)) := (Below.refl _ _).alloc (Nat.le_refl _) _
  go_enter Tryz.func209, Tryz.ntmps209
  go_wp2_with (go_at_call 224; refine (ones_walk _).mono ?_; rintro e w1 ⟨rfl, rfl⟩)
  generalize w.alloc (.cells onesC 165) = W at hc B1 ⊢
  refine wp_region_noPanic ?_
  go_region_law (go_simp; first | (go_at_call 231; refine (OC _).mono ?_; rintro e w5 ⟨z, q, rfl, hz, rfl⟩; have HZ := Lib.hid hz; clear hz) | (go_at_call 92; refine (fix_walk _ _).mono ?_; rintro e w5 ⟨rfl, rfl⟩))
  all_goals
    refine NoPanic.normal ?_
    go_wp2
    go_ret2
    have e := HZ.out
    subst e
    exact ⟨rfl, below_of_chg (by (repeat with_reducible first | refine Chg.drewN ?_ _ | refine Chg.drew ?_); exact Chg.of_below B1)⟩
set_option maxRecDepth 100000 in
set_option maxHeartbeats 1000000 in
theorem one_2 (x : Nat) (hx : fx x < 18446744073709551616) (w : World) : Calls Tryz.prog 209 #[.int .i64 2, .float .f64 x] w fun e w' => e = .returned (.tuple #[.float .f64 (oneF 2 (fx x)), .int .i64 0]) ∧ Below w.heap.size w w' := by
  have OC := abs_walk (fx x) hx
  obtain ⟨y, hy⟩ : ∃ y, y = oneF 2 (fx x) := ⟨_, rfl⟩
  rw [← hy] at OC ⊢
  clear hy hx
  have hc : (w.alloc (.cells onesC 165)).cell? ⟨w.heap.size, 2, none⟩ = some (.func (.func 232) #[] #[]) := cell_of_row _ _ _ _ _ _ (heap_alloc_new _ _)
  have B1 : Below w.heap.size w (w.alloc (.cells onesC 165)) := (Below.refl _ _).alloc (Nat.le_refl _) _
  go_enter Tryz.func209, Tryz.ntmps209
  go_wp2_with (go_at_call 224; refine (ones_walk _).mono ?_; rintro e w1 ⟨rfl, rfl⟩)
  generalize w.alloc (.cells onesC 165) = W at hc B1 ⊢
  refine wp_region_noPanic ?_
  go_region_law (go_simp; first | (go_at_call 232; refine (OC _).mono ?_; rintro e w5 ⟨z, q, rfl, hz, rfl⟩; have HZ := Lib.hid hz; clear hz) | (go_at_call 92; refine (fix_walk _ _).mono ?_; rintro e w5 ⟨rfl, rfl⟩))
  all_goals
    refine NoPanic.normal ?_
    go_wp2
    go_ret2
    have e := HZ.out
    subst e
    exact ⟨rfl, below_of_chg (by (repeat with_reducible first | refine Chg.drewN ?_ _ | refine Chg.drew ?_); exact Chg.of_below B1)⟩
set_option maxRecDepth 100000 in
set_option maxHeartbeats 1000000 in
theorem one_3 (x : Nat) (hx : fx x < 18446744073709551616) (w : World) : Calls Tryz.prog 209 #[.int .i64 3, .float .f64 x] w fun e w' => e = .returned (.tuple #[.float .f64 (oneF 3 (fx x)), .int .i64 0]) ∧ Below w.heap.size w w' := by
  have OC := floor_walk (fx x) (fx_fx x)
  obtain ⟨y, hy⟩ : ∃ y, y = oneF 3 (fx x) := ⟨_, rfl⟩
  rw [← hy] at OC ⊢
  clear hy hx
  have hc : (w.alloc (.cells onesC 165)).cell? ⟨w.heap.size, 3, none⟩ = some (.func (.func 179) #[] #[]) := cell_of_row _ _ _ _ _ _ (heap_alloc_new _ _)
  have B1 : Below w.heap.size w (w.alloc (.cells onesC 165)) := (Below.refl _ _).alloc (Nat.le_refl _) _
  go_enter Tryz.func209, Tryz.ntmps209
  go_wp2_with (go_at_call 224; refine (ones_walk _).mono ?_; rintro e w1 ⟨rfl, rfl⟩)
  generalize w.alloc (.cells onesC 165) = W at hc B1 ⊢
  refine wp_region_noPanic ?_
  go_region_law (go_simp; first | (go_at_call 179; refine (OC _).mono ?_; rintro e w5 ⟨z, q, rfl, hz, rfl⟩; have HZ := Lib.hid hz; clear hz) | (go_at_call 92; refine (fix_walk _ _).mono ?_; rintro e w5 ⟨rfl, rfl⟩))
  all_goals
    refine NoPanic.normal ?_
    go_wp2
    go_ret2
    have e := HZ.out
    subst e
    exact ⟨rfl, below_of_chg (by (repeat with_reducible first | refine Chg.drewN ?_ _ | refine Chg.drew ?_); exact Chg.of_below B1)⟩
set_option maxRecDepth 100000 in
set_option maxHeartbeats 1000000 in
theorem one_4 (x : Nat) (hx : fx x < 18446744073709551616) (w : World) : Calls Tryz.prog 209 #[.int .i64 4, .float .f64 x] w fun e w' => e = .returned (.tuple #[.float .f64 (oneF 4 (fx x)), .int .i64 0]) ∧ Below w.heap.size w w' := by
  have OC := sqrt_walk (fx x)
  obtain ⟨y, hy⟩ : ∃ y, y = oneF 4 (fx x) := ⟨_, rfl⟩
  rw [← hy] at OC ⊢
  clear hy hx
  have hc : (w.alloc (.cells onesC 165)).cell? ⟨w.heap.size, 4, none⟩ = some (.func (.func 180) #[] #[]) := cell_of_row _ _ _ _ _ _ (heap_alloc_new _ _)
  have B1 : Below w.heap.size w (w.alloc (.cells onesC 165)) := (Below.refl _ _).alloc (Nat.le_refl _) _
  go_enter Tryz.func209, Tryz.ntmps209
  go_wp2_with (go_at_call 224; refine (ones_walk _).mono ?_; rintro e w1 ⟨rfl, rfl⟩)
  generalize w.alloc (.cells onesC 165) = W at hc B1 ⊢
  refine wp_region_noPanic ?_
  go_region_law (go_simp; first | (go_at_call 180; refine (OC _).mono ?_; rintro e w5 ⟨z, q, rfl, hz, rfl⟩; have HZ := Lib.hid hz; clear hz) | (go_at_call 92; refine (fix_walk _ _).mono ?_; rintro e w5 ⟨rfl, rfl⟩))
  all_goals
    refine NoPanic.normal ?_
    go_wp2
    go_ret2
    have e := HZ.out
    subst e
    exact ⟨rfl, below_of_chg (by (repeat with_reducible first | refine Chg.drewN ?_ _ | refine Chg.drew ?_); exact Chg.of_below B1)⟩
set_option maxRecDepth 100000 in
set_option maxHeartbeats 1000000 in
theorem one_5 (x : Nat) (hx : fx x < 18446744073709551616) (w : World) : Calls Tryz.prog 209 #[.int .i64 5, .float .f64 x] w fun e w' => e = .returned (.tuple #[.float .f64 (oneF 5 (fx x)), .int .i64 0]) ∧ Below w.heap.size w w' := by
  have OC := not_walk (fx x)
  obtain ⟨y, hy⟩ : ∃ y, y = oneF 5 (fx x) := ⟨_, rfl⟩
  rw [← hy] at OC ⊢
  clear hy hx
  have hc : (w.alloc (.cells onesC 165)).cell? ⟨w.heap.size, 5, none⟩ = some (.func (.func 233) #[] #[]) := cell_of_row _ _ _ _ _ _ (heap_alloc_new _ _)
  have B1 : Below w.heap.size w (w.alloc (.cells onesC 165)) := (Below.refl _ _).alloc (Nat.le_refl _) _
  go_enter Tryz.func209, Tryz.ntmps209
  go_wp2_with (go_at_call 224; refine (ones_walk _).mono ?_; rintro e w1 ⟨rfl, rfl⟩)
  generalize w.alloc (.cells onesC 165) = W at hc B1 ⊢
  refine wp_region_noPanic ?_
  go_region_law (go_simp; first | (go_at_call 233; refine (OC _).mono ?_; rintro e w5 ⟨z, q, rfl, hz, rfl⟩; have HZ := Lib.hid hz; clear hz) | (go_at_call 92; refine (fix_walk _ _).mono ?_; rintro e w5 ⟨rfl, rfl⟩))
  all_goals
    refine NoPanic.normal ?_
    go_wp2
    go_ret2
    have e := HZ.out
    subst e
    exact ⟨rfl, below_of_chg (by (repeat with_reducible first | refine Chg.drewN ?_ _ | refine Chg.drew ?_); exact Chg.of_below B1)⟩
set_option maxRecDepth 100000 in
set_option maxHeartbeats 1000000 in
theorem one_6 (x : Nat) (hx : fx x < 18446744073709551616) (w : World) : Calls Tryz.prog 209 #[.int .i64 6, .float .f64 x] w fun e w' => e = .returned (.tuple #[.float .f64 (oneF 6 (fx x)), .int .i64 0]) ∧ Below w.heap.size w w' := by
  have OC := isnan_walk (fx x)
  obtain ⟨y, hy⟩ : ∃ y, y = oneF 6 (fx x) := ⟨_, rfl⟩
  rw [← hy] at OC ⊢
  clear hy hx
  have hc : (w.alloc (.cells onesC 165)).cell? ⟨w.heap.size, 6, none⟩ = some (.func (.func 235) #[] #[]) := cell_of_row _ _ _ _ _ _ (heap_alloc_new _ _)
  have B1 : Below w.heap.size w (w.alloc (.cells onesC 165)) := (Below.refl _ _).alloc (Nat.le_refl _) _
  go_enter Tryz.func209, Tryz.ntmps209
  go_wp2_with (go_at_call 224; refine (ones_walk _).mono ?_; rintro e w1 ⟨rfl, rfl⟩)
  generalize w.alloc (.cells onesC 165) = W at hc B1 ⊢
  refine wp_region_noPanic ?_
  go_region_law (go_simp; first | (go_at_call 235; refine (OC _).mono ?_; rintro e w5 ⟨z, q, rfl, hz, rfl⟩; have HZ := Lib.hid hz; clear hz) | (go_at_call 92; refine (fix_walk _ _).mono ?_; rintro e w5 ⟨rfl, rfl⟩))
  all_goals
    refine NoPanic.normal ?_
    go_wp2
    go_ret2
    have e := HZ.out
    subst e
    exact ⟨rfl, below_of_chg (by (repeat with_reducible first | refine Chg.drewN ?_ _ | refine Chg.drew ?_); exact Chg.of_below B1)⟩
set_option maxRecDepth 100000 in
set_option maxHeartbeats 1000000 in
theorem one_7 (x : Nat) (hx : fx x < 18446744073709551616) (w : World) : Calls Tryz.prog 209 #[.int .i64 7, .float .f64 x] w fun e w' => e = .returned (.tuple #[.float .f64 (oneF 7 (fx x)), .int .i64 0]) ∧ Below w.heap.size w w' := by
  have OC := sign_walk (fx x)
  obtain ⟨y, hy⟩ : ∃ y, y = oneF 7 (fx x) := ⟨_, rfl⟩
  rw [← hy] at OC ⊢
  clear hy hx
  have hc : (w.alloc (.cells onesC 165)).cell? ⟨w.heap.size, 7, none⟩ = some (.func (.func 236) #[] #[]) := cell_of_row _ _ _ _ _ _ (heap_alloc_new _ _)
  have B1 : Below w.heap.size w (w.alloc (.cells onesC 165)) := (Below.refl _ _).alloc (Nat.le_refl _) _
  go_enter Tryz.func209, Tryz.ntmps209
  go_wp2_with (go_at_call 224; refine (ones_walk _).mono ?_; rintro e w1 ⟨rfl, rfl⟩)
  generalize w.alloc (.cells onesC 165) = W at hc B1 ⊢
  refine wp_region_noPanic ?_
  go_region_law (go_simp; first | (go_at_call 236; refine (OC _).mono ?_; rintro e w5 ⟨z, q, rfl, hz, rfl⟩; have HZ := Lib.hid hz; clear hz) | (go_at_call 92; refine (fix_walk _ _).mono ?_; rintro e w5 ⟨rfl, rfl⟩))
  all_goals
    refine NoPanic.normal ?_
    go_wp2
    go_ret2
    have e := HZ.out
    subst e
    exact ⟨rfl, below_of_chg (by (repeat with_reducible first | refine Chg.drewN ?_ _ | refine Chg.drew ?_); exact Chg.of_below B1)⟩
set_option maxRecDepth 100000 in
set_option maxHeartbeats 1000000 in
theorem one_8 (x : Nat) (hx : fx x < 18446744073709551616) (w : World) : Calls Tryz.prog 209 #[.int .i64 8, .float .f64 x] w fun e w' => e = .returned (.tuple #[.float .f64 (oneF 8 (fx x)), .int .i64 0]) ∧ Below w.heap.size w w' := by
  have OC := hash_walk (fx x) (by rw [fx_fx]; exact hx)
  obtain ⟨y, hy⟩ : ∃ y, y = oneF 8 (fx x) := ⟨_, rfl⟩
  rw [← hy] at OC ⊢
  clear hy hx
  have hc : (w.alloc (.cells onesC 165)).cell? ⟨w.heap.size, 8, none⟩ = some (.func (.func 237) #[] #[]) := cell_of_row _ _ _ _ _ _ (heap_alloc_new _ _)
  have B1 : Below w.heap.size w (w.alloc (.cells onesC 165)) := (Below.refl _ _).alloc (Nat.le_refl _) _
  go_enter Tryz.func209, Tryz.ntmps209
  go_wp2_with (go_at_call 224; refine (ones_walk _).mono ?_; rintro e w1 ⟨rfl, rfl⟩)
  generalize w.alloc (.cells onesC 165) = W at hc B1 ⊢
  refine wp_region_noPanic ?_
  go_region_law (go_simp; first | (go_at_call 237; refine (OC _).mono ?_; rintro e w5 ⟨z, q, rfl, hz, rfl⟩; have HZ := Lib.hid hz; clear hz) | (go_at_call 92; refine (fix_walk _ _).mono ?_; rintro e w5 ⟨rfl, rfl⟩))
  all_goals
    refine NoPanic.normal ?_
    go_wp2
    go_ret2
    have e := HZ.out
    subst e
    exact ⟨rfl, below_of_chg (by (repeat with_reducible first | refine Chg.drewN ?_ _ | refine Chg.drew ?_); exact Chg.of_below B1)⟩
set_option maxRecDepth 100000 in
set_option maxHeartbeats 1000000 in
theorem two_1 (x y : Nat) (hx : fx x < 18446744073709551616) (hy : fx y < 18446744073709551616) (w : World) : Calls Tryz.prog 210 #[.int .i64 1, .float .f64 x, .float .f64 y] w fun e w' => e = .returned (.tuple #[.float .f64 (twoF 1 (fx x) (fx y)), .int .i64 0]) ∧ Below w.heap.size w w' := by
  have OC := add_walk (fx x) (fx y)
  obtain ⟨r, hr⟩ : ∃ r, r = twoF 1 (fx x) (fx y) := ⟨_, rfl⟩
  rw [← hr] at OC ⊢
  clear hr hx hy
  have hc : (w.alloc (.cells twosC 247)).cell? ⟨w.heap.size, 1, none⟩ = some (.func (.func 238) #[] #[]) := cell_of_row _ _ _ _ _ _ (heap_alloc_new _ _)
  have B1 : Below w.heap.size w (w.alloc (.cells twosC 247)) := (Below.refl _ _).alloc (Nat.le_refl _) _
  go_enter Tryz.func210, Tryz.ntmps210
  go_wp2_with (go_at_call 225; refine (twos_walk _).mono ?_; rintro e w1 ⟨rfl, rfl⟩)
  generalize w.alloc (.cells twosC 247) = W at hc B1 ⊢
  refine wp_region_noPanic ?_
  go_region_law (go_simp; first | (go_at_call 238; refine (OC _).mono ?_; rintro e w5 ⟨z, q, rfl, hz, rfl⟩; have HZ := Lib.hid hz; clear hz) | (go_at_call 92; refine (fix_walk _ _).mono ?_; rintro e w5 ⟨rfl, rfl⟩))
  all_goals
    refine NoPanic.normal ?_
    go_wp2
    go_ret2
    have e := HZ.out
    subst e
    exact ⟨rfl, below_of_chg (by (repeat with_reducible first | refine Chg.drewN ?_ _ | refine Chg.drew ?_); exact Chg.of_below B1)⟩
set_option maxRecDepth 100000 in
set_option maxHeartbeats 1000000 in
theorem two_2 (x y : Nat) (hx : fx x < 18446744073709551616) (hy : fx y < 18446744073709551616) (w : World) : Calls Tryz.prog 210 #[.int .i64 2, .float .f64 x, .float .f64 y] w fun e w' => e = .returned (.tuple #[.float .f64 (twoF 2 (fx x) (fx y)), .int .i64 0]) ∧ Below w.heap.size w w' := by
  have OC := sub_walk (fx x) (fx y)
  obtain ⟨r, hr⟩ : ∃ r, r = twoF 2 (fx x) (fx y) := ⟨_, rfl⟩
  rw [← hr] at OC ⊢
  clear hr hx hy
  have hc : (w.alloc (.cells twosC 247)).cell? ⟨w.heap.size, 2, none⟩ = some (.func (.func 239) #[] #[]) := cell_of_row _ _ _ _ _ _ (heap_alloc_new _ _)
  have B1 : Below w.heap.size w (w.alloc (.cells twosC 247)) := (Below.refl _ _).alloc (Nat.le_refl _) _
  go_enter Tryz.func210, Tryz.ntmps210
  go_wp2_with (go_at_call 225; refine (twos_walk _).mono ?_; rintro e w1 ⟨rfl, rfl⟩)
  generalize w.alloc (.cells twosC 247) = W at hc B1 ⊢
  refine wp_region_noPanic ?_
  go_region_law (go_simp; first | (go_at_call 239; refine (OC _).mono ?_; rintro e w5 ⟨z, q, rfl, hz, rfl⟩; have HZ := Lib.hid hz; clear hz) | (go_at_call 92; refine (fix_walk _ _).mono ?_; rintro e w5 ⟨rfl, rfl⟩))
  all_goals
    refine NoPanic.normal ?_
    go_wp2
    go_ret2
    have e := HZ.out
    subst e
    exact ⟨rfl, below_of_chg (by (repeat with_reducible first | refine Chg.drewN ?_ _ | refine Chg.drew ?_); exact Chg.of_below B1)⟩
set_option maxRecDepth 100000 in
set_option maxHeartbeats 1000000 in
theorem two_3 (x y : Nat) (hx : fx x < 18446744073709551616) (hy : fx y < 18446744073709551616) (w : World) : Calls Tryz.prog 210 #[.int .i64 3, .float .f64 x, .float .f64 y] w fun e w' => e = .returned (.tuple #[.float .f64 (twoF 3 (fx x) (fx y)), .int .i64 0]) ∧ Below w.heap.size w w' := by
  have OC := mul_walk (fx x) (fx y)
  obtain ⟨r, hr⟩ : ∃ r, r = twoF 3 (fx x) (fx y) := ⟨_, rfl⟩
  rw [← hr] at OC ⊢
  clear hr hx hy
  have hc : (w.alloc (.cells twosC 247)).cell? ⟨w.heap.size, 3, none⟩ = some (.func (.func 240) #[] #[]) := cell_of_row _ _ _ _ _ _ (heap_alloc_new _ _)
  have B1 : Below w.heap.size w (w.alloc (.cells twosC 247)) := (Below.refl _ _).alloc (Nat.le_refl _) _
  go_enter Tryz.func210, Tryz.ntmps210
  go_wp2_with (go_at_call 225; refine (twos_walk _).mono ?_; rintro e w1 ⟨rfl, rfl⟩)
  generalize w.alloc (.cells twosC 247) = W at hc B1 ⊢
  refine wp_region_noPanic ?_
  go_region_law (go_simp; first | (go_at_call 240; refine (OC _).mono ?_; rintro e w5 ⟨z, q, rfl, hz, rfl⟩; have HZ := Lib.hid hz; clear hz) | (go_at_call 92; refine (fix_walk _ _).mono ?_; rintro e w5 ⟨rfl, rfl⟩))
  all_goals
    refine NoPanic.normal ?_
    go_wp2
    go_ret2
    have e := HZ.out
    subst e
    exact ⟨rfl, below_of_chg (by (repeat with_reducible first | refine Chg.drewN ?_ _ | refine Chg.drew ?_); exact Chg.of_below B1)⟩
set_option maxRecDepth 100000 in
set_option maxHeartbeats 1000000 in
theorem two_4 (x y : Nat) (hx : fx x < 18446744073709551616) (hy : fx y < 18446744073709551616) (w : World) : Calls Tryz.prog 210 #[.int .i64 4, .float .f64 x, .float .f64 y] w fun e w' => e = .returned (.tuple #[.float .f64 (twoF 4 (fx x) (fx y)), .int .i64 0]) ∧ Below w.heap.size w w' := by
  have OC := div_walk (fx x) (fx y)
  obtain ⟨r, hr⟩ : ∃ r, r = twoF 4 (fx x) (fx y) := ⟨_, rfl⟩
  rw [← hr] at OC ⊢
  clear hr hx hy
  have hc : (w.alloc (.cells twosC 247)).cell? ⟨w.heap.size, 4, none⟩ = some (.func (.func 241) #[] #[]) := cell_of_row _ _ _ _ _ _ (heap_alloc_new _ _)
  have B1 : Below w.heap.size w (w.alloc (.cells twosC 247)) := (Below.refl _ _).alloc (Nat.le_refl _) _
  go_enter Tryz.func210, Tryz.ntmps210
  go_wp2_with (go_at_call 225; refine (twos_walk _).mono ?_; rintro e w1 ⟨rfl, rfl⟩)
  generalize w.alloc (.cells twosC 247) = W at hc B1 ⊢
  refine wp_region_noPanic ?_
  go_region_law (go_simp; first | (go_at_call 241; refine (OC _).mono ?_; rintro e w5 ⟨z, q, rfl, hz, rfl⟩; have HZ := Lib.hid hz; clear hz) | (go_at_call 92; refine (fix_walk _ _).mono ?_; rintro e w5 ⟨rfl, rfl⟩))
  all_goals
    refine NoPanic.normal ?_
    go_wp2
    go_ret2
    have e := HZ.out
    subst e
    exact ⟨rfl, below_of_chg (by (repeat with_reducible first | refine Chg.drewN ?_ _ | refine Chg.drew ?_); exact Chg.of_below B1)⟩
set_option maxRecDepth 100000 in
set_option maxHeartbeats 1000000 in
theorem two_5 (x y : Nat) (hx : fx x < 18446744073709551616) (hy : fx y < 18446744073709551616) (w : World) : Calls Tryz.prog 210 #[.int .i64 5, .float .f64 x, .float .f64 y] w fun e w' => e = .returned (.tuple #[.float .f64 (twoF 5 (fx x) (fx y)), .int .i64 0]) ∧ Below w.heap.size w w' := by
  have OC := mod_walk (fx x) (fx y)
  obtain ⟨r, hr⟩ : ∃ r, r = twoF 5 (fx x) (fx y) := ⟨_, rfl⟩
  rw [← hr] at OC ⊢
  clear hr hx hy
  have hc : (w.alloc (.cells twosC 247)).cell? ⟨w.heap.size, 5, none⟩ = some (.func (.func 242) #[] #[]) := cell_of_row _ _ _ _ _ _ (heap_alloc_new _ _)
  have B1 : Below w.heap.size w (w.alloc (.cells twosC 247)) := (Below.refl _ _).alloc (Nat.le_refl _) _
  go_enter Tryz.func210, Tryz.ntmps210
  go_wp2_with (go_at_call 225; refine (twos_walk _).mono ?_; rintro e w1 ⟨rfl, rfl⟩)
  generalize w.alloc (.cells twosC 247) = W at hc B1 ⊢
  refine wp_region_noPanic ?_
  go_region_law (go_simp; first | (go_at_call 242; refine (OC _).mono ?_; rintro e w5 ⟨z, q, rfl, hz, rfl⟩; have HZ := Lib.hid hz; clear hz) | (go_at_call 92; refine (fix_walk _ _).mono ?_; rintro e w5 ⟨rfl, rfl⟩))
  all_goals
    refine NoPanic.normal ?_
    go_wp2
    go_ret2
    have e := HZ.out
    subst e
    exact ⟨rfl, below_of_chg (by (repeat with_reducible first | refine Chg.drewN ?_ _ | refine Chg.drew ?_); exact Chg.of_below B1)⟩
set_option maxRecDepth 100000 in
set_option maxHeartbeats 1000000 in
theorem two_6 (x y : Nat) (hx : fx x < 18446744073709551616) (hy : fx y < 18446744073709551616) (w : World) : Calls Tryz.prog 210 #[.int .i64 6, .float .f64 x, .float .f64 y] w fun e w' => e = .returned (.tuple #[.float .f64 (twoF 6 (fx x) (fx y)), .int .i64 0]) ∧ Below w.heap.size w w' := by
  have OC := least_walk (fx x) (fx y) (by rw [fx_fx]; exact hx) (by rw [fx_fx]; exact hy)
  obtain ⟨r, hr⟩ : ∃ r, r = twoF 6 (fx x) (fx y) := ⟨_, rfl⟩
  rw [← hr] at OC ⊢
  clear hr hx hy
  have hc : (w.alloc (.cells twosC 247)).cell? ⟨w.heap.size, 6, none⟩ = some (.func (.func 243) #[] #[]) := cell_of_row _ _ _ _ _ _ (heap_alloc_new _ _)
  have B1 : Below w.heap.size w (w.alloc (.cells twosC 247)) := (Below.refl _ _).alloc (Nat.le_refl _) _
  go_enter Tryz.func210, Tryz.ntmps210
  go_wp2_with (go_at_call 225; refine (twos_walk _).mono ?_; rintro e w1 ⟨rfl, rfl⟩)
  generalize w.alloc (.cells twosC 247) = W at hc B1 ⊢
  refine wp_region_noPanic ?_
  go_region_law (go_simp; first | (go_at_call 243; refine (OC _).mono ?_; rintro e w5 ⟨z, q, rfl, hz, rfl⟩; have HZ := Lib.hid hz; clear hz) | (go_at_call 92; refine (fix_walk _ _).mono ?_; rintro e w5 ⟨rfl, rfl⟩))
  all_goals
    refine NoPanic.normal ?_
    go_wp2
    go_ret2
    have e := HZ.out
    subst e
    exact ⟨rfl, below_of_chg (by (repeat with_reducible first | refine Chg.drewN ?_ _ | refine Chg.drew ?_); exact Chg.of_below B1)⟩
set_option maxRecDepth 100000 in
set_option maxHeartbeats 1000000 in
theorem two_7 (x y : Nat) (hx : fx x < 18446744073709551616) (hy : fx y < 18446744073709551616) (w : World) : Calls Tryz.prog 210 #[.int .i64 7, .float .f64 x, .float .f64 y] w fun e w' => e = .returned (.tuple #[.float .f64 (twoF 7 (fx x) (fx y)), .int .i64 0]) ∧ Below w.heap.size w w' := by
  have OC := greatest_walk (fx x) (fx y) (by rw [fx_fx]; exact hx) (by rw [fx_fx]; exact hy)
  obtain ⟨r, hr⟩ : ∃ r, r = twoF 7 (fx x) (fx y) := ⟨_, rfl⟩
  rw [← hr] at OC ⊢
  clear hr hx hy
  have hc : (w.alloc (.cells twosC 247)).cell? ⟨w.heap.size, 7, none⟩ = some (.func (.func 244) #[] #[]) := cell_of_row _ _ _ _ _ _ (heap_alloc_new _ _)
  have B1 : Below w.heap.size w (w.alloc (.cells twosC 247)) := (Below.refl _ _).alloc (Nat.le_refl _) _
  go_enter Tryz.func210, Tryz.ntmps210
  go_wp2_with (go_at_call 225; refine (twos_walk _).mono ?_; rintro e w1 ⟨rfl, rfl⟩)
  generalize w.alloc (.cells twosC 247) = W at hc B1 ⊢
  refine wp_region_noPanic ?_
  go_region_law (go_simp; first | (go_at_call 244; refine (OC _).mono ?_; rintro e w5 ⟨z, q, rfl, hz, rfl⟩; have HZ := Lib.hid hz; clear hz) | (go_at_call 92; refine (fix_walk _ _).mono ?_; rintro e w5 ⟨rfl, rfl⟩))
  all_goals
    refine NoPanic.normal ?_
    go_wp2
    go_ret2
    have e := HZ.out
    subst e
    exact ⟨rfl, below_of_chg (by (repeat with_reducible first | refine Chg.drewN ?_ _ | refine Chg.drew ?_); exact Chg.of_below B1)⟩
set_option maxRecDepth 100000 in
set_option maxHeartbeats 1000000 in
theorem two_8 (x y : Nat) (hx : fx x < 18446744073709551616) (hy : fx y < 18446744073709551616) (w : World) : Calls Tryz.prog 210 #[.int .i64 8, .float .f64 x, .float .f64 y] w fun e w' => e = .returned (.tuple #[.float .f64 (twoF 8 (fx x) (fx y)), .int .i64 0]) ∧ Below w.heap.size w w' := by
  have OC := less_walk (fx x) (fx y)
  obtain ⟨r, hr⟩ : ∃ r, r = twoF 8 (fx x) (fx y) := ⟨_, rfl⟩
  rw [← hr] at OC ⊢
  clear hr hx hy
  have hc : (w.alloc (.cells twosC 247)).cell? ⟨w.heap.size, 8, none⟩ = some (.func (.func 245) #[] #[]) := cell_of_row _ _ _ _ _ _ (heap_alloc_new _ _)
  have B1 : Below w.heap.size w (w.alloc (.cells twosC 247)) := (Below.refl _ _).alloc (Nat.le_refl _) _
  go_enter Tryz.func210, Tryz.ntmps210
  go_wp2_with (go_at_call 225; refine (twos_walk _).mono ?_; rintro e w1 ⟨rfl, rfl⟩)
  generalize w.alloc (.cells twosC 247) = W at hc B1 ⊢
  refine wp_region_noPanic ?_
  go_region_law (go_simp; first | (go_at_call 245; refine (OC _).mono ?_; rintro e w5 ⟨z, q, rfl, hz, rfl⟩; have HZ := Lib.hid hz; clear hz) | (go_at_call 92; refine (fix_walk _ _).mono ?_; rintro e w5 ⟨rfl, rfl⟩))
  all_goals
    refine NoPanic.normal ?_
    go_wp2
    go_ret2
    have e := HZ.out
    subst e
    exact ⟨rfl, below_of_chg (by (repeat with_reducible first | refine Chg.drewN ?_ _ | refine Chg.drew ?_); exact Chg.of_below B1)⟩
set_option maxRecDepth 100000 in
set_option maxHeartbeats 1000000 in
theorem two_9 (x y : Nat) (hx : fx x < 18446744073709551616) (hy : fx y < 18446744073709551616) (w : World) : Calls Tryz.prog 210 #[.int .i64 9, .float .f64 x, .float .f64 y] w fun e w' => e = .returned (.tuple #[.float .f64 (twoF 9 (fx x) (fx y)), .int .i64 0]) ∧ Below w.heap.size w w' := by
  have OC := atmost_walk (fx x) (fx y)
  obtain ⟨r, hr⟩ : ∃ r, r = twoF 9 (fx x) (fx y) := ⟨_, rfl⟩
  rw [← hr] at OC ⊢
  clear hr hx hy
  have hc : (w.alloc (.cells twosC 247)).cell? ⟨w.heap.size, 9, none⟩ = some (.func (.func 246) #[] #[]) := cell_of_row _ _ _ _ _ _ (heap_alloc_new _ _)
  have B1 : Below w.heap.size w (w.alloc (.cells twosC 247)) := (Below.refl _ _).alloc (Nat.le_refl _) _
  go_enter Tryz.func210, Tryz.ntmps210
  go_wp2_with (go_at_call 225; refine (twos_walk _).mono ?_; rintro e w1 ⟨rfl, rfl⟩)
  generalize w.alloc (.cells twosC 247) = W at hc B1 ⊢
  refine wp_region_noPanic ?_
  go_region_law (go_simp; first | (go_at_call 246; refine (OC _).mono ?_; rintro e w5 ⟨z, q, rfl, hz, rfl⟩; have HZ := Lib.hid hz; clear hz) | (go_at_call 92; refine (fix_walk _ _).mono ?_; rintro e w5 ⟨rfl, rfl⟩))
  all_goals
    refine NoPanic.normal ?_
    go_wp2
    go_ret2
    have e := HZ.out
    subst e
    exact ⟨rfl, below_of_chg (by (repeat with_reducible first | refine Chg.drewN ?_ _ | refine Chg.drew ?_); exact Chg.of_below B1)⟩
set_option maxRecDepth 100000 in
set_option maxHeartbeats 1000000 in
theorem two_10 (x y : Nat) (hx : fx x < 18446744073709551616) (hy : fx y < 18446744073709551616) (w : World) : Calls Tryz.prog 210 #[.int .i64 10, .float .f64 x, .float .f64 y] w fun e w' => e = .returned (.tuple #[.float .f64 (twoF 10 (fx x) (fx y)), .int .i64 0]) ∧ Below w.heap.size w w' := by
  have OC := equal_walk (fx x) (fx y)
  obtain ⟨r, hr⟩ : ∃ r, r = twoF 10 (fx x) (fx y) := ⟨_, rfl⟩
  rw [← hr] at OC ⊢
  clear hr hx hy
  have hc : (w.alloc (.cells twosC 247)).cell? ⟨w.heap.size, 10, none⟩ = some (.func (.func 247) #[] #[]) := cell_of_row _ _ _ _ _ _ (heap_alloc_new _ _)
  have B1 : Below w.heap.size w (w.alloc (.cells twosC 247)) := (Below.refl _ _).alloc (Nat.le_refl _) _
  go_enter Tryz.func210, Tryz.ntmps210
  go_wp2_with (go_at_call 225; refine (twos_walk _).mono ?_; rintro e w1 ⟨rfl, rfl⟩)
  generalize w.alloc (.cells twosC 247) = W at hc B1 ⊢
  refine wp_region_noPanic ?_
  go_region_law (go_simp; first | (go_at_call 247; refine (OC _).mono ?_; rintro e w5 ⟨z, q, rfl, hz, rfl⟩; have HZ := Lib.hid hz; clear hz) | (go_at_call 92; refine (fix_walk _ _).mono ?_; rintro e w5 ⟨rfl, rfl⟩))
  all_goals
    refine NoPanic.normal ?_
    go_wp2
    go_ret2
    have e := HZ.out
    subst e
    exact ⟨rfl, below_of_chg (by (repeat with_reducible first | refine Chg.drewN ?_ _ | refine Chg.drew ?_); exact Chg.of_below B1)⟩
set_option maxRecDepth 100000 in
set_option maxHeartbeats 1000000 in
theorem two_11 (x y : Nat) (hx : fx x < 18446744073709551616) (hy : fx y < 18446744073709551616) (w : World) : Calls Tryz.prog 210 #[.int .i64 11, .float .f64 x, .float .f64 y] w fun e w' => e = .returned (.tuple #[.float .f64 (twoF 11 (fx x) (fx y)), .int .i64 0]) ∧ Below w.heap.size w w' := by
  have OC := tsame_walk (fx x) (fx y)
  obtain ⟨r, hr⟩ : ∃ r, r = twoF 11 (fx x) (fx y) := ⟨_, rfl⟩
  rw [← hr] at OC ⊢
  clear hr hx hy
  have hc : (w.alloc (.cells twosC 247)).cell? ⟨w.heap.size, 11, none⟩ = some (.func (.func 248) #[] #[]) := cell_of_row _ _ _ _ _ _ (heap_alloc_new _ _)
  have B1 : Below w.heap.size w (w.alloc (.cells twosC 247)) := (Below.refl _ _).alloc (Nat.le_refl _) _
  go_enter Tryz.func210, Tryz.ntmps210
  go_wp2_with (go_at_call 225; refine (twos_walk _).mono ?_; rintro e w1 ⟨rfl, rfl⟩)
  generalize w.alloc (.cells twosC 247) = W at hc B1 ⊢
  refine wp_region_noPanic ?_
  go_region_law (go_simp; first | (go_at_call 248; refine (OC _).mono ?_; rintro e w5 ⟨z, q, rfl, hz, rfl⟩; have HZ := Lib.hid hz; clear hz) | (go_at_call 92; refine (fix_walk _ _).mono ?_; rintro e w5 ⟨rfl, rfl⟩))
  all_goals
    refine NoPanic.normal ?_
    go_wp2
    go_ret2
    have e := HZ.out
    subst e
    exact ⟨rfl, below_of_chg (by (repeat with_reducible first | refine Chg.drewN ?_ _ | refine Chg.drew ?_); exact Chg.of_below B1)⟩
set_option maxRecDepth 100000 in
set_option maxHeartbeats 1000000 in
theorem two_12 (x y : Nat) (hx : fx x < 18446744073709551616) (hy : fx y < 18446744073709551616) (w : World) : Calls Tryz.prog 210 #[.int .i64 12, .float .f64 x, .float .f64 y] w fun e w' => e = .returned (.tuple #[.float .f64 (twoF 12 (fx x) (fx y)), .int .i64 0]) ∧ Below w.heap.size w w' := by
  have OC := ahead_walk (fx x) (fx y) (by rw [fx_fx]; exact hx) (by rw [fx_fx]; exact hy)
  obtain ⟨r, hr⟩ : ∃ r, r = twoF 12 (fx x) (fx y) := ⟨_, rfl⟩
  rw [← hr] at OC ⊢
  clear hr hx hy
  have hc : (w.alloc (.cells twosC 247)).cell? ⟨w.heap.size, 12, none⟩ = some (.func (.func 249) #[] #[]) := cell_of_row _ _ _ _ _ _ (heap_alloc_new _ _)
  have B1 : Below w.heap.size w (w.alloc (.cells twosC 247)) := (Below.refl _ _).alloc (Nat.le_refl _) _
  go_enter Tryz.func210, Tryz.ntmps210
  go_wp2_with (go_at_call 225; refine (twos_walk _).mono ?_; rintro e w1 ⟨rfl, rfl⟩)
  generalize w.alloc (.cells twosC 247) = W at hc B1 ⊢
  refine wp_region_noPanic ?_
  go_region_law (go_simp; first | (go_at_call 249; refine (OC _).mono ?_; rintro e w5 ⟨z, q, rfl, hz, rfl⟩; have HZ := Lib.hid hz; clear hz) | (go_at_call 92; refine (fix_walk _ _).mono ?_; rintro e w5 ⟨rfl, rfl⟩))
  all_goals
    refine NoPanic.normal ?_
    go_wp2
    go_ret2
    have e := HZ.out
    subst e
    exact ⟨rfl, below_of_chg (by (repeat with_reducible first | refine Chg.drewN ?_ _ | refine Chg.drew ?_); exact Chg.of_below B1)⟩

theorem one_walk (n : Int) (x : Nat) (h1 : 1 ≤ n) (h2 : n ≤ 8) (hx : x < 18446744073709551616) (w : World) : Calls Tryz.prog 209 #[.int .i64 n, .float .f64 x] w fun e w' => e = .returned (.tuple #[.float .f64 (oneF n (fx x)), .int .i64 0]) ∧ Below w.heap.size w w' := by
  rcases (by omega : n = 1 ∨ n = 2 ∨ n = 3 ∨ n = 4 ∨ n = 5 ∨ n = 6 ∨ n = 7 ∨ n = 8) with rfl | rfl | rfl | rfl | rfl | rfl | rfl | rfl
  · exact one_1 x (fx_lt hx) w
  · exact one_2 x (fx_lt hx) w
  · exact one_3 x (fx_lt hx) w
  · exact one_4 x (fx_lt hx) w
  · exact one_5 x (fx_lt hx) w
  · exact one_6 x (fx_lt hx) w
  · exact one_7 x (fx_lt hx) w
  · exact one_8 x (fx_lt hx) w
theorem two_walk (n : Int) (x y : Nat) (h1 : 1 ≤ n) (h2 : n ≤ 12) (hx : x < 18446744073709551616) (hy : y < 18446744073709551616) (w : World) : Calls Tryz.prog 210 #[.int .i64 n, .float .f64 x, .float .f64 y] w fun e w' => e = .returned (.tuple #[.float .f64 (twoF n (fx x) (fx y)), .int .i64 0]) ∧ Below w.heap.size w w' := by
  rcases (by omega : n = 1 ∨ n = 2 ∨ n = 3 ∨ n = 4 ∨ n = 5 ∨ n = 6 ∨ n = 7 ∨ n = 8 ∨ n = 9 ∨ n = 10 ∨ n = 11 ∨ n = 12) with rfl | rfl | rfl | rfl | rfl | rfl | rfl | rfl | rfl | rfl | rfl | rfl
  · exact two_1 x y (fx_lt hx) (fx_lt hy) w
  · exact two_2 x y (fx_lt hx) (fx_lt hy) w
  · exact two_3 x y (fx_lt hx) (fx_lt hy) w
  · exact two_4 x y (fx_lt hx) (fx_lt hy) w
  · exact two_5 x y (fx_lt hx) (fx_lt hy) w
  · exact two_6 x y (fx_lt hx) (fx_lt hy) w
  · exact two_7 x y (fx_lt hx) (fx_lt hy) w
  · exact two_8 x y (fx_lt hx) (fx_lt hy) w
  · exact two_9 x y (fx_lt hx) (fx_lt hy) w
  · exact two_10 x y (fx_lt hx) (fx_lt hy) w
  · exact two_11 x y (fx_lt hx) (fx_lt hy) w
  · exact two_12 x y (fx_lt hx) (fx_lt hy) w
end Go.Proofs.YtphaeodcomgffaaGreat
