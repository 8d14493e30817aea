import Derived.Test.YtjlnhifleepnoaaDoorK18
import Derived.Test.YtjlnhifleepnoaaDoorK11
set_option linter.unusedVariables false
set_option linter.unusedSimpArgs false
namespace Go.Proofs.YtjlnhifleepnoaaDoor
open Go.RowKit

def liveL : List Ins := [⟨1, 0, 4607182418800017408⟩, ⟨18, 0, 0⟩, ⟨20, 0, 0⟩]
def liveP : List UInt8 := "reads\npush 1\nemit\nhalt\n".toUTF8.toList
def liveT : List UInt8 := "updates\nadd\npick 3\n".toUTF8.toList
theorem live_print : (if okP 1 liveL then printS 1 liveL else []) = liveP ∧ checkS 1 liveL = 0 := by decide +kernel
theorem live_parse : codeS liveT = .ok (2, [⟨10, 1, 0⟩, ⟨5, 3, 0⟩]) := by kernel_rfl
theorem live_check : checkS 1 [] = 50 := by decide +kernel

theorem liveT_lit : S liveT = ⟨#[117, 112, 100, 97, 116, 101, 115, 10, 97, 100, 100, 10, 112, 105, 99, 107, 32, 51, 10]⟩ := by decide +kernel
theorem liveP_lit : S liveP = ⟨#[114, 101, 97, 100, 115, 10, 112, 117, 115, 104, 32, 49, 10, 101, 109, 105, 116, 10, 104, 97, 108, 116, 10]⟩ := by decide +kernel
theorem rd_live (W : World) (T : TypeId) : RdC (W.alloc (.cells #[.int .i64 1, .int .i64 0, .float .f64 4607182418800017408, .int .i64 18, .int .i64 0, .float .f64 0, .int .i64 20, .int .i64 0, .float .f64 0] T)) (.slice (some ⟨W.heap.size, 0, none⟩) 3 3) liveL := by
  refine .inr ⟨_, 0, 3, rfl, by decide, by simp, fun i j hi hj => ?_⟩
  have h := heap_alloc_new W (.cells #[.int .i64 1, .int .i64 0, .float .f64 4607182418800017408, .int .i64 18, .int .i64 0, .float .f64 0, .int .i64 20, .int .i64 0, .float .f64 0] T)
  rw [cell_of_row _ _ _ _ _ _ h, Nat.zero_add]
  have hi' : i < 3 := hi
  rcases (by omega : i = 0 ∨ i = 1 ∨ i = 2) with rfl | rfl | rfl <;> rcases (by omega : j = 0 ∨ j = 1 ∨ j = 2) with rfl | rfl | rfl <;> rfl

theorem lp_at (v : Value) (W : World) (L : Laid W) (h : RdC W v liveL) : Calls Tryd.prog 11 #[.agg #[.int .i64 1, v]] W fun e w' => e = .returned (.tuple #[.string ⟨#[114, 101, 97, 100, 115, 10, 112, 117, 115, 104, 32, 49, 10, 101, 109, 105, 116, 10, 104, 97, 108, 116, 10]⟩, .int .i64 0]) ∧ Below W.heap.size W w' := by
  have := cprint_walk 1 v liveL W L h (by decide)
  rwa [live_print.1, live_print.2, liveP_lit] at this
theorem lt_at (W : World) (L : Laid2 W) : Calls Tryd.prog 18 #[.string ⟨#[117, 112, 100, 97, 116, 101, 115, 10, 97, 100, 100, 10, 112, 105, 99, 107, 32, 51, 10]⟩] W (CodePost W (.ok (2, [⟨10, 1, 0⟩, ⟨5, 3, 0⟩]))) := by
  have := code_walk liveT W L
  rwa [live_parse, liveT_lit] at this
theorem le_at (W : World) : Calls Tryd.prog 8 #[.int .i64 4] W fun e w' => e = .returned (.tuple #[.int .i64 2, .int .i64 2, .int .i64 0]) ∧ Below W.heap.size W w' := effect_walk 4 W
theorem lc_at (W : World) : Calls Tryd.prog 14 #[.agg #[.int .i64 1, .slice none 0 0]] W fun e w' => e = .returned (.int .i64 50) ∧ Below W.heap.size W w' := check_walk 1 _ [] W (.inl ⟨rfl, .inl rfl⟩)

theorem eq_zero (W : World) : (Op.equalIn 9999 39 (.float .f64 0) (.float .f64 0)).run Tryd.prog W = .ok true W := by kernel_rfl
set_option maxRecDepth 100000 in
set_option maxHeartbeats 4000000 in
theorem live_walk (w : World) (L : Laid2 w) : Calls Tryd.prog 7 #[] w fun e w' => e = .returned (.bool true) ∧ Below w.heap.size w w' := by
  have LD := Lib.hid L
  clear L
  have sf := run_store_float
  have ez := eq_zero
  go_enter Tryd.func7, Tryd.ntmps7
  go_wp2_with (first
    | (go_at_call 11; refine (lp_at _ _ (LD.out.below (below_of_chg (((Chg.refl _ _).alloc _).alloc _))).laid ((rd_live w 41).keep0 ((Chg.refl _ _).alloc _))).mono ?_; rintro e w1 ⟨rfl, b1⟩; have C1 := Lib.hid ((((Chg.refl [] w).alloc _).alloc _).trans (Chg.of_below b1)); clear b1)
    | (go_at_call 18; refine (lt_at _ (LD.out.below (below_of_chg C1.out))).mono ?_; rintro e w2 ⟨v, rfl, o2, b2⟩; obtain ⟨g, cp, rfl, hg1, hg2⟩ := World.ownsRow.form o2 (by decide); have O2 := Lib.hid o2; have C2 := Lib.hid (C1.out.trans (Chg.of_below b2)); clear b2 o2)
    | (go_at_call 8; refine (le_at _).mono ?_; rintro e w3 ⟨rfl, b3⟩; have K3 := Lib.hid (((Chg.refl [] w2).alloc _).trans (Chg.of_below b3)); have Z3 := Lib.hid (zrow (Chg.of_below b3) (heap_alloc_new w2 (.cells #[.int .i64 2, .slice (some ⟨g, 0, none⟩) 2 cp] 29))); clear b3)
    | (go_at_call 14; refine (lc_at _).mono ?_; rintro e w4 ⟨rfl, b4⟩; have K4 := Lib.hid (K3.out.trans (Chg.of_below b4)); have z4 := zrow (Chg.of_below b4) Z3.out; have y0 := cell_of_row _ _ 0 _ _ _ z4; have y1 := cell_of_row _ _ 1 _ _ _ z4; have o4 : w4.ownsRow _ 41 3 (.slice (some ⟨g, 0, none⟩) 2 cp) 2 (flat [⟨10, 1, 0⟩, ⟨5, 3, 0⟩]) := O2.out.keep0 K4.out;
       have x0 : w4.cell? ⟨g, 0, none⟩ = some (.int .i64 10) := o4.cellAt 0 (by decide); have x1 : w4.cell? ⟨g, 1, none⟩ = some (.int .i64 1) := o4.cellAt 1 (by decide); have x2 : w4.cell? ⟨g, 2, none⟩ = some (.float .f64 0) := o4.cellAt 2 (by decide); have x3 : w4.cell? ⟨g, 3, none⟩ = some (.int .i64 5) := o4.cellAt 3 (by decide); have x4 : w4.cell? ⟨g, 4, none⟩ = some (.int .i64 3) := o4.cellAt 4 (by decide); have x5 : w4.cell? ⟨g, 5, none⟩ = some (.float .f64 0) := o4.cellAt 5 (by decide); clear z4 b4 o4))
  go_ret
  exact ⟨rfl, below_of_chg (C2.out.trans K4.out)⟩
end Go.Proofs.YtjlnhifleepnoaaDoor
