import Derived.Test.YtphaeodcomgffaaGreatR6
import Derived.Test.YtphaeodcomgffaaGreatR7
import Derived.Test.YtphaeodcomgffaaGreatR5
set_option linter.unusedVariables false
set_option linter.unusedSimpArgs false
namespace Go.Proofs.YtphaeodcomgffaaGreat
open Go.RowKit

/-- All roles that a machine's step may touch: its own and its scratch. -/
def mS (r : Nat) : List Nat := [r, r + 1, r + 2, r + 3, r + 4, r + 5, r + 6, r + 7, r + 8, r + 9, r + 10, r + 11, r + 12, r + 13, r + 14, r + 15]
theorem mRS {r x : Nat} (h : x ∈ mR r) : x ∈ mS r := by simp [mR, mS] at h ⊢; omega
theorem mRS14 {r x : Nat} (h : x ∈ (r + 14) :: mR r) : x ∈ mS r := by simp [mR, mS] at h ⊢; omega
/-- What Step leaves. -/
def StepP (ro : Nat → Nat) (r : Nat) (w : World) (M : Nat) (C : Cfg) (tag : Int) (code : List Ins) (x : Ms × Ask) (e : Ending) (w' : World) : Prop :=
  e = .returned x.2.v ∧ ∃ ro' p', MIs ro' r w' M C tag code x.1 p' ∧ Mv ro (mS r) w ro' w'
def ro4 (ro : Nat → Nat) (n r : Nat) : Nat → Nat := setRo (setRo ro n (r + 13)) (n + 1) (r + 14)
def stepW (w : World) (M : Nat) (a : Ask) : World := (w.alloc (.cells #[ptr M] 52)).alloc (.cells #[.int .i64 a.kind, .int .i64 a.cell, .float .f64 a.x, .bool a.first] 139)
theorem step_mv (ro : Nat → Nat) (r : Nat) (w : World) (M : Nat) (a : Ask) : Mv ro [] w (ro4 ro w.heap.size r) (stepW w M a) := ((((Mv.refl ro [] w).alloc _).alloc _).give (Nat.le_refl _)).give (by omega)
theorem step_box (ro : Nat → Nat) (r : Nat) (w : World) (M : Nat) (a : Ask) : Boxes (ro4 ro w.heap.size r) r (stepW w M a) w.heap.size M a := by
  refine ⟨⟨?_, ?_⟩, ⟨?_, ?_⟩⟩
  · unfold stepW
    rw [Below.heap_alloc _ _ _ (by simp)]
    exact heap_alloc_new _ _
  · unfold ro4
    rw [setRo_ne (by omega), setRo_at]
  · unfold stepW
    have := heap_alloc_new (w.alloc (.cells #[ptr M] 52)) (.cells #[.int .i64 a.kind, .int .i64 a.cell, .float .f64 a.x, .bool a.first] 139)
    rw [show (w.alloc (.cells #[ptr M] 52)).heap.size = w.heap.size + 1 by simp] at this
    exact this
  · unfold ro4
    rw [setRo_at]
/-- The answer, read out of its cell. -/
theorem step_out {ro : Nat → Nat} {r : Nat} {w : World} {g M : Nat} {a : Ask} {T : Array Value} (h : Boxes ro r w g M a) (h2 : T[2]? = some (.pointer (some ⟨g + 1, 0, none⟩))) : (results Tryz.f95 T).run Tryz.prog w = .ok a.v w := by
  have c0 := h.ans.cell 0
  have c1 := h.ans.cell 1
  have c2 := h.ans.cell 2
  have c3 := h.ans.cell 3
  simp only [List.getElem?_toArray, List.getElem?_cons_succ, List.getElem?_cons_zero] at c0 c1 c2 c3
  simp [results, Tryz.f95, Tryz.results95, go_sem, c0, c1, c2, c3, h2, Ask.v]

theorem ask_put {ro : Nat → Nat} {r : Nat} {w : World} {g M : Nat} {a : Ask} (h : Boxes ro r w g M a) (k c : Int) (x : Nat) (f : Bool) :
    Boxes ro r ((((w.setCell ⟨g + 1, 0, none⟩ (.int .i64 k)).setCell ⟨g + 1, 1, none⟩ (.int .i64 c)).setCell ⟨g + 1, 2, none⟩ (.float .f64 x)).setCell ⟨g + 1, 3, none⟩ (.bool f)) g M ⟨k, c, x, f⟩ ∧
    Mv ro [r + 14] w ro ((((w.setCell ⟨g + 1, 0, none⟩ (.int .i64 k)).setCell ⟨g + 1, 1, none⟩ (.int .i64 c)).setCell ⟨g + 1, 2, none⟩ (.float .f64 x)).setCell ⟨g + 1, 3, none⟩ (.bool f)) := by
  have hR : ro (g + 1) ∈ [r + 14] := by rw [h.ans.role]; simp
  have mA : Mv ro [r + 14] w ro ((((w.setCell ⟨g + 1, 0, none⟩ (.int .i64 k)).setCell ⟨g + 1, 1, none⟩ (.int .i64 c)).setCell ⟨g + 1, 2, none⟩ (.float .f64 x)).setCell ⟨g + 1, 3, none⟩ (.bool f)) := ((((Mv.refl _ _ _).setCell hR _).setCell hR _).setCell hR _).setCell hR _
  exact ⟨⟨h.at'.keep mA (by simp), (((h.ans.put (i := 0) rfl).put (i := 1) rfl).put (i := 2) rfl).put (i := 3) rfl⟩, mA⟩

set_option maxRecDepth 100000 in
set_option maxHeartbeats 2000000 in
theorem step_wait {ro : Nat → Nat} {r : Nat} {w : World} {M C tag code m p} {c : Int} (h : MIs ro r w M C tag code m p) (hw : m.wait = some c) :
    Calls Tryz.prog 95 #[ptr M] w (StepP ro r w M C tag code (m, ⟨1, c, 0, false⟩)) := by
  have hmf : ∀ (fn : Fn) (first cap : Array Value) (w : World), (Instr.makeFunc fn first cap).run Tryz.prog w = .ok (.func fn first cap) w := fun _ _ _ _ => rfl
  have hc := h.blk.cell
  have hlt := h.blk.lt
  have e1 := h.wait c hw
  unfold mcells at hc
  simp only [hw, e1, Option.isSome_some] at hc
  have sf := run_store_float
  simp only [ptr] at hc ⊢
  have fin := fun e w' (q : e = Ending.returned (Ask.v ⟨1, c, 0, false⟩)) (q2 : w' = stepW w M ⟨1, c, 0, false⟩) => (show StepP ro r w M C tag code (m, ⟨1, c, 0, false⟩) e w' from by subst q2; exact ⟨q, _, p, h.keep0 (step_mv ro r w M _), (step_mv ro r w M _).mono (by simp)⟩)
  have FIN := Lib.hid fin
  have SO := Lib.hid (step_out (T := #[]) (step_box ro r w M ⟨1, c, 0, false⟩))
  have BX := Lib.hid (step_box ro r w M ⟨1, c, 0, false⟩)
  clear h hw e1 fin
  go_enter_defers Tryz.func95, Tryz.ntmps95
  go_wp2
  change Leaves Tryz.prog Tryz.f95 _ _ [] .returning _
  unfold Leaves
  exact ⟨_, step_out BX.out rfl, FIN.out _ _ rfl rfl⟩
set_option maxRecDepth 100000 in
set_option maxHeartbeats 2000000 in
theorem step_over {ro : Nat → Nat} {r : Nat} {w : World} {M C tag code m p} (h : MIs ro r w M C tag code m p) (hw : m.wait = none) (hh : m.how ≠ 0) :
    Calls Tryz.prog 95 #[ptr M] w (StepP ro r w M C tag code (m, askEnd)) := by
  have hmf : ∀ (fn : Fn) (first cap : Array Value) (w : World), (Instr.makeFunc fn first cap).run Tryz.prog w = .ok (.func fn first cap) w := fun _ _ _ _ => rfl
  have hc := h.blk.cell
  have hlt := h.blk.lt
  unfold mcells at hc
  simp only [hw, Option.isSome_none] at hc
  have hh' : (m.how != 0) = true := by simpa using hh
  have sf := run_store_float
  simp only [ptr] at hc ⊢
  have FIN := Lib.hid (fun e w' (q : e = Ending.returned (Ask.v askEnd)) (q2 : w' = stepW w M askEnd) => (show StepP ro r w M C tag code (m, askEnd) e w' from by subst q2; exact ⟨q, _, p, h.keep0 (step_mv ro r w M _), (step_mv ro r w M _).mono (by simp)⟩))
  have BX := Lib.hid (step_box ro r w M askEnd)
  clear h hw hh
  go_enter_defers Tryz.func95, Tryz.ntmps95
  go_wp2
  change Leaves Tryz.prog Tryz.f95 _ _ [] .returning _
  unfold Leaves
  exact ⟨_, step_out BX.out rfl, FIN.out _ _ rfl rfl⟩
set_option maxRecDepth 100000 in
set_option maxHeartbeats 2000000 in
theorem step_bad {ro : Nat → Nat} {r : Nat} {w : World} {M C tag code m p} (h : MIs ro r w M C tag code m p) (hw : m.wait = none) (hh : m.how = 0) (hb : m.bad = true) :
    Calls Tryz.prog 95 #[ptr M] w (StepP ro r w M C tag code (m.fails 50)) := by
  have hmf : ∀ (fn : Fn) (first cap : Array Value) (w : World), (Instr.makeFunc fn first cap).run Tryz.prog w = .ok (.func fn first cap) w := fun _ _ _ _ => rfl
  have hc := h.blk.cell
  have hlt := h.blk.lt
  unfold mcells at hc
  simp only [hw, hh, hb, Option.isSome_none] at hc
  have sf := run_store_float
  simp only [ptr] at hc ⊢
  have hm := must_bad 50 (by decide)
  unfold faultE at hm
  have H0 := Lib.hid (h.keep0 (step_mv ro r w M askNone))
  have M0 := Lib.hid (step_mv ro r w M askNone)
  have BX := Lib.hid (step_box ro r w M askNone)
  clear h hw hh hb
  go_enter_defers Tryz.func95, Tryz.ntmps95
  go_wp2_with (go_at_call 129; refine (hm _).mono ?_; rintro e w1 ⟨rfl, rfl⟩)
  change Leaves Tryz.prog Tryz.f95 _ _ _ _ _
  refine leaves_cons (f := 127) (args := #[.pointer (some ⟨w.heap.size, 0, none⟩), .pointer (some ⟨w.heap.size + 1, 0, none⟩)]) (by simp) (by simp [go_sem]) ?_
  refine (catch_fault H0.out w.heap.size askNone BX.out 50 []).mono ?_
  rintro e u' w5 ⟨rfl, rfl, ro', p', h5, b5, m5⟩
  exact ⟨_, step_out b5 rfl, rfl, ro', p', h5, (M0.out.mono (by simp)).trans (m5.mono fun _ => mRS14)⟩
set_option maxRecDepth 100000 in
set_option maxHeartbeats 2000000 in
theorem step_fuel {ro : Nat → Nat} {r : Nat} {w : World} {M C tag code m p} (h : MIs ro r w M C tag code m p) (hw : m.wait = none) (hh : m.how = 0) (hb : m.bad = false) (hu : m.used = C.fuel) :
    Calls Tryz.prog 95 #[ptr M] w (StepP ro r w M C tag code (m.fails 80)) := by
  have hmf : ∀ (fn : Fn) (first cap : Array Value) (w : World), (Instr.makeFunc fn first cap).run Tryz.prog w = .ok (.func fn first cap) w := fun _ _ _ _ => rfl
  have hc := h.blk.cell
  have hlt := h.blk.lt
  unfold mcells at hc
  simp only [hw, hh, hb, hu, Option.isSome_none] at hc
  have sf := run_store_float
  simp only [ptr] at hc ⊢
  have hm := must_bad 80 (by decide)
  unfold faultE at hm
  have H0 := Lib.hid (h.keep0 (step_mv ro r w M askNone))
  have M0 := Lib.hid (step_mv ro r w M askNone)
  have BX := Lib.hid (step_box ro r w M askNone)
  clear h hw hh hb hu
  go_enter_defers Tryz.func95, Tryz.ntmps95
  go_wp2
  go_quiet (fail)
  go_wp2_with (go_at_call 129; refine (hm _).mono ?_; rintro e w1 ⟨rfl, rfl⟩)
  change Leaves Tryz.prog Tryz.f95 _ _ _ _ _
  refine leaves_cons (f := 127) (args := #[.pointer (some ⟨w.heap.size, 0, none⟩), .pointer (some ⟨w.heap.size + 1, 0, none⟩)]) (by simp) (by simp [go_sem]) ?_
  refine (catch_fault (H0.out.keep0 ((Mv.refl _ [] _).drewN nq)) w.heap.size askNone (BX.out.keep ((Mv.refl _ [] _).drewN nq) (by simp) (by simp)) 80 []).mono ?_
  rintro e u' w5 ⟨rfl, rfl, ro', p', h5, b5, m5⟩
  exact ⟨_, step_out b5 rfl, rfl, ro', p', h5, ((M0.out.mono (by simp)).drewN nq).trans (m5.mono fun _ => mRS14)⟩
set_option maxRecDepth 100000 in
set_option maxHeartbeats 2000000 in
theorem step_end {ro : Nat → Nat} {r : Nat} {w : World} {M C tag code m p} (h : MIs ro r w M C tag code m p) (hw : m.wait = none) (hh : m.how = 0) (hb : m.bad = false) (hu : m.used ≠ C.fuel) (hp : m.place = code.length) :
    Calls Tryz.prog 95 #[ptr M] w (StepP ro r w M C tag code (m.fails 50)) := by
  have hmf : ∀ (fn : Fn) (first cap : Array Value) (w : World), (Instr.makeFunc fn first cap).run Tryz.prog w = .ok (.func fn first cap) w := fun _ _ _ _ => rfl
  have hc := h.blk.cell
  obtain ⟨va, vb, hvc⟩ := h.code.form
  have hu' : (m.used == C.fuel) = false := by simpa using hu
  have hlt := h.blk.lt
  unfold mcells at hc
  simp only [hw, hh, hb, hp, hvc, Option.isSome_none] at hc
  have sf := run_store_float
  simp only [ptr] at hc ⊢
  have hm := must_bad 50 (by decide)
  unfold faultE at hm
  have H0 := Lib.hid (h.keep0 (step_mv ro r w M askNone))
  have M0 := Lib.hid (step_mv ro r w M askNone)
  have BX := Lib.hid (step_box ro r w M askNone)
  clear h hw hh hb hu hp hvc
  go_enter_defers Tryz.func95, Tryz.ntmps95
  go_wp2
  go_quiet (fail)
  go_wp2
  go_quiet (fail)
  go_wp2_with (go_at_call 129; refine (hm _).mono ?_; rintro e w1 ⟨rfl, rfl⟩)
  change Leaves Tryz.prog Tryz.f95 _ _ _ _ _
  refine leaves_cons (f := 127) (args := #[.pointer (some ⟨w.heap.size, 0, none⟩), .pointer (some ⟨w.heap.size + 1, 0, none⟩)]) (by simp) (by simp [go_sem]) ?_
  refine (catch_fault (H0.out.keep0 ((Mv.refl _ [] _).drewN _)) w.heap.size askNone (BX.out.keep ((Mv.refl _ [] _).drewN _) (by simp) (by simp)) 50 []).mono ?_
  rintro e u' w5 ⟨rfl, rfl, ro', p', h5, b5, m5⟩
  exact ⟨_, step_out b5 rfl, rfl, ro', p', h5, ((M0.out.mono (by simp)).drewN _).trans (m5.mono fun _ => mRS14)⟩
end Go.Proofs.YtphaeodcomgffaaGreat
