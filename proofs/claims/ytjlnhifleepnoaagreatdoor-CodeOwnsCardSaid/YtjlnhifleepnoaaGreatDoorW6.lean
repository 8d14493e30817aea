import Derived.Test.YtjlnhifleepnoaaGreatDoorK18
import Derived.Test.YtjlnhifleepnoaaGreatDoorK11
import Derived.Test.YtjlnhifleepnoaaGreatDoorD6
import Derived.Test.YtjlnhifleepnoaaGreatDoorK5
set_option linter.unusedVariables false
set_option linter.unusedSimpArgs false
namespace Go.Proofs.YtjlnhifleepnoaaGreatDoor
open Go.RowKit

def liveL : List Ins := [⟨1, 0, 4607182418800017408⟩, ⟨18, 0, 0⟩, ⟨20, 0, 0⟩]
def liveP : List UInt8 := "reads\npush 1\nemit\nhalt\n".toUTF8.toList
def liveT : List UInt8 := "updates\nadd\npick 3\n".toUTF8.toList
theorem live_print : (if okP 1 liveL then printS 1 liveL else []) = liveP ∧ checkS 1 liveL = 0 := by decide +kernel
theorem live_parse : codeS liveT = .ok (2, [⟨10, 1, 0⟩, ⟨5, 3, 0⟩]) := by kernel_rfl
theorem live_check : checkS 1 [] = 50 := by decide +kernel

theorem liveT_lit : S liveT = ⟨#[117, 112, 100, 97, 116, 101, 115, 10, 97, 100, 100, 10, 112, 105, 99, 107, 32, 51, 10]⟩ := by decide +kernel
theorem liveP_lit : S liveP = ⟨#[114, 101, 97, 100, 115, 10, 112, 117, 115, 104, 32, 49, 10, 101, 109, 105, 116, 10, 104, 97, 108, 116, 10]⟩ := by decide +kernel
theorem rd_live (W : World) (T : TypeId) : RdC (W.alloc (.cells #[.int .i64 1, .int .i64 0, .float .f64 4607182418800017408, .int .i64 18, .int .i64 0, .float .f64 0, .int .i64 20, .int .i64 0, .float .f64 0] T)) (.slice (some ⟨W.heap.size, 0, none⟩) 3 3) liveL := by
  refine .inr ⟨_, 0, 3, rfl, by decide, by simp, fun i j hi hj => ?_⟩
  have h := heap_alloc_new W (.cells #[.int .i64 1, .int .i64 0, .float .f64 4607182418800017408, .int .i64 18, .int .i64 0, .float .f64 0, .int .i64 20, .int .i64 0, .float .f64 0] T)
  rw [cell_of_row _ _ _ _ _ _ h, Nat.zero_add]
  have hi' : i < 3 := hi
  rcases (by omega : i = 0 ∨ i = 1 ∨ i = 2) with rfl | rfl | rfl <;> rcases (by omega : j = 0 ∨ j = 1 ∨ j = 2) with rfl | rfl | rfl <;> rfl

theorem lp_at (v : Value) (W : World) (L : Laid W) (h : RdC W v liveL) : Calls Tryz.prog 9 #[.agg #[.int .i64 1, v]] W fun e w' => e = .returned (.tuple #[.string ⟨#[114, 101, 97, 100, 115, 10, 112, 117, 115, 104, 32, 49, 10, 101, 109, 105, 116, 10, 104, 97, 108, 116, 10]⟩, .int .i64 0]) ∧ Below W.heap.size W w' := by
  have := cprint_walk 1 v liveL W L h (by decide)
  rwa [live_print.1, live_print.2, liveP_lit] at this
theorem lt_at (W : World) (L : Laid2 W) : Calls Tryz.prog 6 #[.string ⟨#[117, 112, 100, 97, 116, 101, 115, 10, 97, 100, 100, 10, 112, 105, 99, 107, 32, 51, 10]⟩] W (CodePost W (.ok (2, [⟨10, 1, 0⟩, ⟨5, 3, 0⟩]))) := by
  have := code_walk liveT W L
  rwa [live_parse, liveT_lit] at this
theorem le_at (W : World) : Calls Tryz.prog 10 #[.int .i64 4] W fun e w' => e = .returned (.tuple #[.int .i64 2, .int .i64 2, .int .i64 0]) ∧ Below W.heap.size W w' := effect_walk 4 W
theorem lc_at (W : World) : Calls Tryz.prog 11 #[.agg #[.int .i64 1, .slice none 0 0]] W fun e w' => e = .returned (.int .i64 50) ∧ Below W.heap.size W w' := check_walk 1 _ [] W (.inl ⟨rfl, .inl rfl⟩)

theorem eq_zero (W : World) : (Op.equalIn 9999 31 (.float .f64 0) (.float .f64 0)).run Tryz.prog W = .ok true W := by kernel_rfl
set_option maxRecDepth 100000 in
set_option maxHeartbeats 4000000 in
theorem live_walk (w : World) (L : Laid2 w) : Calls Tryz.prog 5 #[] w fun e w' => e = .returned (.bool true) ∧ Below w.heap.size w w' := by
  have LD := Lib.hid L
  clear L
  have sf := run_store_float
  have ez := eq_zero
  go_enter Tryz.func5, Tryz.ntmps5
  go_wp2_with (first
    | (go_at_call 9; refine (lp_at _ _ (LD.out.below (below_of_chg (((Chg.refl _ _).alloc _).alloc _))).laid ((rd_live w 33).keep0 ((Chg.refl _ _).alloc _))).mono ?_; rintro e w1 ⟨rfl, b1⟩; have C1 := Lib.hid ((((Chg.refl [] w).alloc _).alloc _).trans (Chg.of_below b1)); clear b1)
    | (go_at_call 6; refine (lt_at _ (LD.out.below (below_of_chg C1.out))).mono ?_; rintro e w2 ⟨v, rfl, o2, b2⟩; obtain ⟨g, cp, rfl, hg1, hg2⟩ := World.ownsRow.form o2 (by decide); have O2 := Lib.hid o2; have C2 := Lib.hid (C1.out.trans (Chg.of_below b2)); clear b2 o2)
    | (go_at_call 10; refine (le_at _).mono ?_; rintro e w3 ⟨rfl, b3⟩; have K3 := Lib.hid (((Chg.refl [] w2).alloc _).trans (Chg.of_below b3)); have Z3 := Lib.hid (zrow (Chg.of_below b3) (heap_alloc_new w2 (.cells #[.int .i64 2, .slice (some ⟨g, 0, none⟩) 2 cp] 25))); clear b3)
    | (go_at_call 11; refine (lc_at _).mono ?_; rintro e w4 ⟨rfl, b4⟩; have K4 := Lib.hid (K3.out.trans (Chg.of_below b4)); have z4 := zrow (Chg.of_below b4) Z3.out; have y0 := cell_of_row _ _ 0 _ _ _ z4; have y1 := cell_of_row _ _ 1 _ _ _ z4; have o4 : w4.ownsRow _ 33 3 (.slice (some ⟨g, 0, none⟩) 2 cp) 2 (flat [⟨10, 1, 0⟩, ⟨5, 3, 0⟩]) := O2.out.keep0 K4.out;
       have x0 : w4.cell? ⟨g, 0, none⟩ = some (.int .i64 10) := o4.cellAt 0 (by decide); have x1 : w4.cell? ⟨g, 1, none⟩ = some (.int .i64 1) := o4.cellAt 1 (by decide); have x2 : w4.cell? ⟨g, 2, none⟩ = some (.float .f64 0) := o4.cellAt 2 (by decide); have x3 : w4.cell? ⟨g, 3, none⟩ = some (.int .i64 5) := o4.cellAt 3 (by decide); have x4 : w4.cell? ⟨g, 4, none⟩ = some (.int .i64 3) := o4.cellAt 4 (by decide); have x5 : w4.cell? ⟨g, 5, none⟩ = some (.float .f64 0) := o4.cellAt 5 (by decide); clear z4 b4 o4))
  go_ret
  exact ⟨rfl, below_of_chg (C2.out.trans K4.out)⟩

def tagO : Except (Int × Int) (Int × List Ins) → Int | .error _ => 0 | .ok x => x.1
def insO : Except (Int × Int) (Int × List Ins) → List Ins | .error _ => [] | .ok x => x.2
def errO : Except (Int × Int) (Int × List Ins) → Int | .error x => x.1 | .ok _ => 0
def atO : Except (Int × Int) (Int × List Ins) → Int | .error x => x.2 | .ok _ => 0
/-- How a Parse ends, whether it takes the text or not. -/
def AnyPost (w : World) (t c n : Int) (l : List Ins) (e : Ending) (w' : World) : Prop := ∃ v, e = .returned (.tuple #[.agg #[.int .i64 t, v], .int .i64 c, .int .i64 n]) ∧ OwnC w' w.heap.size v l ∧ Below w.heap.size w w'
theorem any_of {w : World} {R : Except (Int × Int) (Int × List Ins)} {e : Ending} {w' : World} (h : CodePost w R e w') : AnyPost w (tagO R) (errO R) (atO R) (insO R) e w' := by
  cases R with
  | error x => exact ⟨_, h.1, OwnC.nil _ _, h.2⟩
  | ok x => exact h
theorem OwnC.max {w : World} {B : Nat} {v : Value} {l : List Ins} (h : OwnC w B v l) : l.length ≤ 9223372036854775807 := by
  rcases h.2 with ⟨_, h2⟩ | ⟨g, cap, cur, _, _, _, hn, hm, _⟩
  · omega
  · unfold maxLen at hm; omega
theorem sameP_refl (t : Int) (l : List Ins) : SameP t t l l := ⟨rfl, rfl, fun _ _ _ => ⟨rfl, rfl, rfl⟩⟩
theorem row2 {W : World} {g : Nat} {a b : Value} {T : TypeId} (h : W.heap[g]? = some (.cells #[a, b] T (0, 0))) : W.cell? ⟨g, 0, none⟩ = some a ∧ W.cell? ⟨g, 1, none⟩ = some b ∧ (∀ o : Obj, (W.alloc o).cell? ⟨g, 0, none⟩ = some a) ∧ ∀ o : Obj, (W.alloc o).cell? ⟨g, 1, none⟩ = some b := by
  have h0 : W.cell? ⟨g, 0, none⟩ = some a := cell_of_row _ _ _ _ _ _ h
  have h1 : W.cell? ⟨g, 1, none⟩ = some b := cell_of_row _ _ _ _ _ _ h
  exact ⟨h0, h1, fun o => (World.cell?_alloc_some _ _ o (by rw [h0]; rfl)).trans h0, fun o => (World.cell?_alloc_some _ _ o (by rw [h1]; rfl)).trans h1⟩
theorem psame_at (t : Int) (u v : Value) (l : List Ins) (w : World) (hu : RdC w u l) (hv : RdC w v l) (hmax : l.length ≤ 9223372036854775807) : Calls Tryz.prog 8 #[.agg #[.int .i64 t, u], .agg #[.int .i64 t, v]] w fun e w' => e = .returned (.bool true) ∧ Below w.heap.size w w' :=
  rsame_walk t t u v l l w true hu hv hmax ⟨fun _ => sameP_refl _ _, fun _ => rfl⟩

set_option maxRecDepth 100000 in
set_option maxHeartbeats 8000000 in
theorem parses (s : ByteArray) (w : World) (L : Laid2 w) (_hs : s.size ≤ 281474976710656) : Calls Tryz.prog 3 #[.string s] w fun e w' => e = .returned (.bool true) ∧ Below w.heap.size w w' := by
  obtain ⟨R, hR⟩ : ∃ R, R = codeS s.data.toList := ⟨_, rfl⟩
  have CW : ∀ W, Laid2 W → Calls Tryz.prog 6 #[.string s] W (AnyPost W (tagO R) (errO R) (atO R) (insO R)) := fun W l => by
    have h := code_walk s.data.toList W l
    rw [← hR, show S s.data.toList = s by simp [S]] at h
    exact h.mono fun e w' h => any_of h
  have DW : ∀ W, Calls Tryz.prog 7 #[.string s] W (AnyPost W (tagO R) (errO R) (atO R) (insO R)) := fun W => by
    have h := dcode_walk s W
    rw [← hR] at h
    exact h.mono fun e w' h => any_of h
  generalize tagO R = t at *
  generalize errO R = c at *
  generalize atO R = n at *
  generalize insO R = l at *
  have LD := Lib.hid L
  clear hR L
  go_enter Tryz.func3, Tryz.ntmps3
  go_wp2_with (first
    | (go_at_call 5; refine (live_walk _ LD.out).mono ?_; rintro e w1 ⟨rfl, b1⟩; have C1 := Lib.hid (Chg.of_below (S := []) b1); clear b1)
    | (go_at_call 6; refine (CW _ (LD.out.below (below_of_chg C1.out))).mono ?_; rintro e w2 ⟨v2, rfl, o2, b2⟩; obtain ⟨a2, c2, rfl⟩ := o2.form; have O2 := Lib.hid o2; have C2 := Lib.hid (C1.out.trans (Chg.of_below (S := []) b2)); clear o2 b2)
    | (go_at_call 7; refine (DW _).mono ?_; rintro e w3 ⟨v3, rfl, o3, b3⟩; obtain ⟨a3, c3, rfl⟩ := o3.form; have O3 := Lib.hid o3; have C3 := Lib.hid ((C2.out.alloc _).trans (Chg.of_below (S := []) b3)); have K3 := Lib.hid (((Chg.refl [] w2).alloc _).trans (Chg.of_below (S := []) b3)); have Z3 := Lib.hid (zrow (Chg.of_below (S := []) b3) (heap_alloc_new w2 (.cells #[.int .i64 t, .slice a2 l.length c2] 25))); obtain ⟨x0, x1, x2, x3⟩ := row2 Z3.out; clear o3 b3)
    | (go_at_call 8; refine (psame_at t _ _ l _ (((O2.out.keep0 K3.out).keep0 ((Chg.refl [] _).alloc _)).rd) ((O3.out.keep0 ((Chg.refl [] _).alloc _)).rd) O2.out.max).mono ?_; rintro e w4 ⟨rfl, b4⟩; have C4 := Lib.hid ((C3.out.alloc _).trans (Chg.of_below (S := []) b4)); clear b4))
  go_ret
  exact ⟨rfl, below_of_chg C4.out⟩
end Go.Proofs.YtjlnhifleepnoaaGreatDoor
