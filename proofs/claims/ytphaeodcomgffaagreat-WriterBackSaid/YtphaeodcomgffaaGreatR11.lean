import Derived.Test.YtphaeodcomgffaaGreatR7
import Derived.Deep.RegionHeld3
set_option linter.unusedVariables false
set_option linter.unusedSimpArgs false
namespace Go.Proofs.YtphaeodcomgffaaGreat
open Go.RowKit

/-- All roles that a machine's step may touch: its own and its scratch. -/
def mS (r : Nat) : List Nat := [r, r + 1, r + 2, r + 3, r + 4, r + 5, r + 6, r + 7, r + 8, r + 9, r + 10, r + 11, r + 12, r + 13, r + 14, r + 15]
theorem mRS {r x : Nat} (h : x ∈ mR r) : x ∈ mS r := by simp [mR, mS] at h ⊢; omega
theorem mRS14 {r x : Nat} (h : x ∈ (r + 14) :: mR r) : x ∈ mS r := by simp [mR, mS] at h ⊢; omega
/-- What Step leaves. -/
def StepP (ro : Nat → Nat) (r : Nat) (w : World) (M : Nat) (C : Cfg) (tag : Int) (code : List Ins) (x : Ms × Ask) (e : Ending) (w' : World) : Prop :=
  e = .returned x.2.v ∧ ∃ ro' p', MIs ro' r w' M C tag code x.1 p' ∧ Mv ro (mS r) w ro' w'
def ro4 (ro : Nat → Nat) (n r : Nat) : Nat → Nat := setRo (setRo ro n (r + 13)) (n + 1) (r + 14)
def stepW (w : World) (M : Nat) (a : Ask) : World := (w.alloc (.cells #[ptr M] 52)).alloc (.cells #[.int .i64 a.kind, .int .i64 a.cell, .float .f64 a.x, .bool a.first] 139)
theorem step_mv (ro : Nat → Nat) (r : Nat) (w : World) (M : Nat) (a : Ask) : Mv ro [] w (ro4 ro w.heap.size r) (stepW w M a) := ((((Mv.refl ro [] w).alloc _).alloc _).give (Nat.le_refl _)).give (by omega)
theorem step_box (ro : Nat → Nat) (r : Nat) (w : World) (M : Nat) (a : Ask) : Boxes (ro4 ro w.heap.size r) r (stepW w M a) w.heap.size M a := by
  refine ⟨⟨?_, ?_⟩, ⟨?_, ?_⟩⟩
  · unfold stepW
    rw [Below.heap_alloc _ _ _ (by simp)]
    exact heap_alloc_new _ _
  · unfold ro4
    rw [setRo_ne (by omega), setRo_at]
  · unfold stepW
    have := heap_alloc_new (w.alloc (.cells #[ptr M] 52)) (.cells #[.int .i64 a.kind, .int .i64 a.cell, .float .f64 a.x, .bool a.first] 139)
    rw [show (w.alloc (.cells #[ptr M] 52)).heap.size = w.heap.size + 1 by simp] at this
    exact this
  · unfold ro4
    rw [setRo_at]
/-- The answer, read out of its cell. -/
theorem step_out {ro : Nat → Nat} {r : Nat} {w : World} {g M : Nat} {a : Ask} {T : Array Value} (h : Boxes ro r w g M a) (h2 : T[2]? = some (.pointer (some ⟨g + 1, 0, none⟩))) : (results Tryz.f95 T).run Tryz.prog w = .ok a.v w := by
  have c0 := h.ans.cell 0
  have c1 := h.ans.cell 1
  have c2 := h.ans.cell 2
  have c3 := h.ans.cell 3
  simp only [List.getElem?_toArray, List.getElem?_cons_succ, List.getElem?_cons_zero] at c0 c1 c2 c3
  simp [results, Tryz.f95, Tryz.results95, go_sem, c0, c1, c2, c3, h2, Ask.v]

theorem ask_put {ro : Nat → Nat} {r : Nat} {w : World} {g M : Nat} {a : Ask} (h : Boxes ro r w g M a) (k c : Int) (x : Nat) (f : Bool) :
    Boxes ro r ((((w.setCell ⟨g + 1, 0, none⟩ (.int .i64 k)).setCell ⟨g + 1, 1, none⟩ (.int .i64 c)).setCell ⟨g + 1, 2, none⟩ (.float .f64 x)).setCell ⟨g + 1, 3, none⟩ (.bool f)) g M ⟨k, c, x, f⟩ ∧
    Mv ro [r + 14] w ro ((((w.setCell ⟨g + 1, 0, none⟩ (.int .i64 k)).setCell ⟨g + 1, 1, none⟩ (.int .i64 c)).setCell ⟨g + 1, 2, none⟩ (.float .f64 x)).setCell ⟨g + 1, 3, none⟩ (.bool f)) := by
  have hR : ro (g + 1) ∈ [r + 14] := by rw [h.ans.role]; simp
  have mA : Mv ro [r + 14] w ro ((((w.setCell ⟨g + 1, 0, none⟩ (.int .i64 k)).setCell ⟨g + 1, 1, none⟩ (.int .i64 c)).setCell ⟨g + 1, 2, none⟩ (.float .f64 x)).setCell ⟨g + 1, 3, none⟩ (.bool f)) := ((((Mv.refl _ _ _).setCell hR _).setCell hR _).setCell hR _).setCell hR _
  exact ⟨⟨h.at'.keep mA (by simp), (((h.ans.put (i := 0) rfl).put (i := 1) rfl).put (i := 2) rfl).put (i := 3) rfl⟩, mA⟩

set_option maxRecDepth 100000 in
set_option maxHeartbeats 2000000 in
theorem step_wait {ro : Nat → Nat} {r : Nat} {w : World} {M C tag code m p} {c : Int} (h : MIs ro r w M C tag code m p) (hw : m.wait = some c) :
    Calls Tryz.prog 95 #[ptr M] w (StepP ro r w M C tag code (m, ⟨1, c, 0, false⟩)) := by
  have hmf : ∀ (fn : Fn) (first cap : Array Value) (w : World), (Instr.makeFunc fn first cap).run Tryz.prog w = .ok (.func fn first cap) w := fun _ _ _ _ => rfl
  have hc := h.blk.cell
  have hlt := h.blk.lt
  have e1 := h.wait c hw
  unfold mcells at hc
  simp only [hw, e1, Option.isSome_some] at hc
  have sf := run_store_float
  simp only [ptr] at hc ⊢
  have fin := fun e w' (q : e = Ending.returned (Ask.v ⟨1, c, 0, false⟩)) (q2 : w' = stepW w M ⟨1, c, 0, false⟩) => (show StepP ro r w M C tag code (m, ⟨1, c, 0, false⟩) e w' from by subst q2; exact ⟨q, _, p, h.keep0 (step_mv ro r w M _), (step_mv ro r w M _).mono (by simp)⟩)
  have FIN := Lib.hid fin
  have SO := Lib.hid (step_out (T := #[]) (step_box ro r w M ⟨1, c, 0, false⟩))
  have BX := Lib.hid (step_box ro r w M ⟨1, c, 0, false⟩)
  clear h hw e1 fin
  go_enter_defers Tryz.func95, Tryz.ntmps95
  go_wp2
  change Leaves Tryz.prog Tryz.f95 _ _ [] .returning _
  unfold Leaves
  exact ⟨_, step_out BX.out rfl, FIN.out _ _ rfl rfl⟩
set_option maxRecDepth 100000 in
set_option maxHeartbeats 2000000 in
theorem step_over {ro : Nat → Nat} {r : Nat} {w : World} {M C tag code m p} (h : MIs ro r w M C tag code m p) (hw : m.wait = none) (hh : m.how ≠ 0) :
    Calls Tryz.prog 95 #[ptr M] w (StepP ro r w M C tag code (m, askEnd)) := by
  have hmf : ∀ (fn : Fn) (first cap : Array Value) (w : World), (Instr.makeFunc fn first cap).run Tryz.prog w = .ok (.func fn first cap) w := fun _ _ _ _ => rfl
  have hc := h.blk.cell
  have hlt := h.blk.lt
  unfold mcells at hc
  simp only [hw, Option.isSome_none] at hc
  have hh' : (m.how != 0) = true := by simpa using hh
  have sf := run_store_float
  simp only [ptr] at hc ⊢
  have FIN := Lib.hid (fun e w' (q : e = Ending.returned (Ask.v askEnd)) (q2 : w' = stepW w M askEnd) => (show StepP ro r w M C tag code (m, askEnd) e w' from by subst q2; exact ⟨q, _, p, h.keep0 (step_mv ro r w M _), (step_mv ro r w M _).mono (by simp)⟩))
  have BX := Lib.hid (step_box ro r w M askEnd)
  clear h hw hh
  go_enter_defers Tryz.func95, Tryz.ntmps95
  go_wp2
  change Leaves Tryz.prog Tryz.f95 _ _ [] .returning _
  unfold Leaves
  exact ⟨_, step_out BX.out rfl, FIN.out _ _ rfl rfl⟩
set_option maxRecDepth 100000 in
set_option maxHeartbeats 2000000 in
theorem step_bad {ro : Nat → Nat} {r : Nat} {w : World} {M C tag code m p} (h : MIs ro r w M C tag code m p) (hw : m.wait = none) (hh : m.how = 0) (hb : m.bad = true) :
    Calls Tryz.prog 95 #[ptr M] w (StepP ro r w M C tag code (m.fails 50)) := by
  have hmf : ∀ (fn : Fn) (first cap : Array Value) (w : World), (Instr.makeFunc fn first cap).run Tryz.prog w = .ok (.func fn first cap) w := fun _ _ _ _ => rfl
  have hc := h.blk.cell
  have hlt := h.blk.lt
  unfold mcells at hc
  simp only [hw, hh, hb, Option.isSome_none] at hc
  have sf := run_store_float
  simp only [ptr] at hc ⊢
  have hm := must_bad 50 (by decide)
  unfold faultE at hm
  have H0 := Lib.hid (h.keep0 (step_mv ro r w M askNone))
  have M0 := Lib.hid (step_mv ro r w M askNone)
  have BX := Lib.hid (step_box ro r w M askNone)
  clear h hw hh hb
  go_enter_defers Tryz.func95, Tryz.ntmps95
  go_wp2_with (go_at_call 129; refine (hm _).mono ?_; rintro e w1 ⟨rfl, rfl⟩)
  change Leaves Tryz.prog Tryz.f95 _ _ _ _ _
  refine leaves_cons (f := 127) (args := #[.pointer (some ⟨w.heap.size, 0, none⟩), .pointer (some ⟨w.heap.size + 1, 0, none⟩)]) (by simp) (by simp [go_sem]) ?_
  refine (catch_fault H0.out w.heap.size askNone BX.out 50 []).mono ?_
  rintro e u' w5 ⟨rfl, rfl, ro', p', h5, b5, m5⟩
  exact ⟨_, step_out b5 rfl, rfl, ro', p', h5, (M0.out.mono (by simp)).trans (m5.mono fun _ => mRS14)⟩
set_option maxRecDepth 100000 in
set_option maxHeartbeats 2000000 in
theorem step_fuel {ro : Nat → Nat} {r : Nat} {w : World} {M C tag code m p} (h : MIs ro r w M C tag code m p) (hw : m.wait = none) (hh : m.how = 0) (hb : m.bad = false) (hu : m.used = C.fuel) :
    Calls Tryz.prog 95 #[ptr M] w (StepP ro r w M C tag code (m.fails 80)) := by
  have hmf : ∀ (fn : Fn) (first cap : Array Value) (w : World), (Instr.makeFunc fn first cap).run Tryz.prog w = .ok (.func fn first cap) w := fun _ _ _ _ => rfl
  have hc := h.blk.cell
  have hlt := h.blk.lt
  unfold mcells at hc
  simp only [hw, hh, hb, hu, Option.isSome_none] at hc
  have sf := run_store_float
  simp only [ptr] at hc ⊢
  have hm := must_bad 80 (by decide)
  unfold faultE at hm
  have H0 := Lib.hid (h.keep0 (step_mv ro r w M askNone))
  have M0 := Lib.hid (step_mv ro r w M askNone)
  have BX := Lib.hid (step_box ro r w M askNone)
  clear h hw hh hb hu
  go_enter_defers Tryz.func95, Tryz.ntmps95
  go_wp2
  go_quiet (fail)
  go_wp2_with (go_at_call 129; refine (hm _).mono ?_; rintro e w1 ⟨rfl, rfl⟩)
  change Leaves Tryz.prog Tryz.f95 _ _ _ _ _
  refine leaves_cons (f := 127) (args := #[.pointer (some ⟨w.heap.size, 0, none⟩), .pointer (some ⟨w.heap.size + 1, 0, none⟩)]) (by simp) (by simp [go_sem]) ?_
  refine (catch_fault (H0.out.keep0 ((Mv.refl _ [] _).drewN nq)) w.heap.size askNone (BX.out.keep ((Mv.refl _ [] _).drewN nq) (by simp) (by simp)) 80 []).mono ?_
  rintro e u' w5 ⟨rfl, rfl, ro', p', h5, b5, m5⟩
  exact ⟨_, step_out b5 rfl, rfl, ro', p', h5, ((M0.out.mono (by simp)).drewN nq).trans (m5.mono fun _ => mRS14)⟩
set_option maxRecDepth 100000 in
set_option maxHeartbeats 2000000 in
theorem step_end {ro : Nat → Nat} {r : Nat} {w : World} {M C tag code m p} (h : MIs ro r w M C tag code m p) (hw : m.wait = none) (hh : m.how = 0) (hb : m.bad = false) (hu : m.used ≠ C.fuel) (hp : m.place = code.length) :
    Calls Tryz.prog 95 #[ptr M] w (StepP ro r w M C tag code (m.fails 50)) := by
  have hmf : ∀ (fn : Fn) (first cap : Array Value) (w : World), (Instr.makeFunc fn first cap).run Tryz.prog w = .ok (.func fn first cap) w := fun _ _ _ _ => rfl
  have hc := h.blk.cell
  obtain ⟨va, vb, hvc⟩ := h.code.form
  have hu' : (m.used == C.fuel) = false := by simpa using hu
  have hlt := h.blk.lt
  unfold mcells at hc
  simp only [hw, hh, hb, hp, hvc, Option.isSome_none] at hc
  have sf := run_store_float
  simp only [ptr] at hc ⊢
  have hm := must_bad 50 (by decide)
  unfold faultE at hm
  have H0 := Lib.hid (h.keep0 (step_mv ro r w M askNone))
  have M0 := Lib.hid (step_mv ro r w M askNone)
  have BX := Lib.hid (step_box ro r w M askNone)
  clear h hw hh hb hu hp hvc
  go_enter_defers Tryz.func95, Tryz.ntmps95
  go_wp2
  go_quiet (fail)
  go_wp2
  go_quiet (fail)
  go_wp2_with (go_at_call 129; refine (hm _).mono ?_; rintro e w1 ⟨rfl, rfl⟩)
  change Leaves Tryz.prog Tryz.f95 _ _ _ _ _
  refine leaves_cons (f := 127) (args := #[.pointer (some ⟨w.heap.size, 0, none⟩), .pointer (some ⟨w.heap.size + 1, 0, none⟩)]) (by simp) (by simp [go_sem]) ?_
  refine (catch_fault (H0.out.keep0 ((Mv.refl _ [] _).drewN _)) w.heap.size askNone (BX.out.keep ((Mv.refl _ [] _).drewN _) (by simp) (by simp)) 50 []).mono ?_
  rintro e u' w5 ⟨rfl, rfl, ro', p', h5, b5, m5⟩
  exact ⟨_, step_out b5 rfl, rfl, ro', p', h5, ((M0.out.mono (by simp)).drewN _).trans (m5.mono fun _ => mRS14)⟩
end Go.Proofs.YtphaeodcomgffaaGreat
set_option linter.unusedVariables false
set_option linter.unusedSimpArgs false
namespace Go.Proofs.YtphaeodcomgffaaGreat
open Go.RowKit

set_option maxRecDepth 100000 in
set_option maxHeartbeats 4000000 in
theorem step_noroom {ro : Nat → Nat} {r : Nat} {w : World} {M C tag code m p} (h : MIs ro r w M C tag code m p) (hw : m.wait = none) (hh : m.how = 0) (hb : m.bad = false) (hu : m.used ≠ C.fuel) (j : Nat) (hp : m.place = j) (x : Ins) (hx : code[j]? = some x) (hl : code.length ≤ 4096) (hu0 : 0 ≤ m.used) (hu1 : m.used ≤ 4096)
    (RW : ∀ ro' W p', MIs ro' r W M C tag code m.begin p' → Calls Tryz.prog 130 #[ptr M, .agg #[.int .i64 x.op, .int .i64 x.n, .float .f64 x.x]] W fun e w' => e = RdyE false ∧ Mv ro' [] W ro' w') :
    Calls Tryz.prog 95 #[ptr M] w (StepP ro r w M C tag code (m.begin.fails 82)) := by
  have hmf : ∀ (fn : Fn) (first cap : Array Value) (w : World), (Instr.makeFunc fn first cap).run Tryz.prog w = .ok (.func fn first cap) w := fun _ _ _ _ => rfl
  have hjl : j < code.length := (List.getElem?_eq_some_iff.1 hx).1
  have hxe : code[j] = x := (List.getElem?_eq_some_iff.1 hx).2
  have hc := h.blk.cell
  have hf := h.blk.free
  have hlt := h.blk.lt
  obtain ⟨cg, cap, hvc, hrole, hcap, hmax⟩ := h.code.pos (by omega)
  have hcode := h.code
  rw [hvc] at hcode
  have k0 := OwnL.at (f := Ins.row) (size := 3) (fun _ => rfl) hcode hjl (j := 0) (show 0 < 3 by decide)
  have k1 := OwnL.at (f := Ins.row) (size := 3) (fun _ => rfl) hcode hjl (j := 1) (show 1 < 3 by decide)
  have k2 := OwnL.at (f := Ins.row) (size := 3) (fun _ => rfl) hcode hjl (j := 2) (show 2 < 3 by decide)
  rw [hxe] at k0 k1 k2
  obtain ⟨op, n, xx⟩ := x
  simp only [Ins.row, List.getElem?_cons_succ, List.getElem?_cons_zero, Nat.add_zero] at k0 k1 k2
  have hcl := block_lt_of_cell k0
  simp only at hcl
  unfold mcells at hc
  obtain ⟨len, hlen⟩ : ∃ len, len = code.length := ⟨_, rfl⟩
  have HJ := Lib.hid hjl
  have HX := Lib.hid hxe
  have HL := Lib.hid hlen.symm
  have HVC := Lib.hid hvc
  rw [← hlen] at hvc hjl hl
  have hu' : (m.used == C.fuel) = false := by simpa using hu
  have hp' : ((j : Int) == (len : Int)) = false := by simp; omega
  have hjl' : (j : Int) < len := by omega
  simp only [hw, hh, hb, hp, hvc, Option.isSome_none] at hc
  have sf := run_store_float
  simp only [ptr] at hc ⊢
  have H0 := Lib.hid (h.keep0 (step_mv ro r w M askNone))
  have M0 := Lib.hid (step_mv ro r w M askNone)
  have BX := Lib.hid (step_box ro r w M askNone)
  have HP := Lib.hid hp
  clear h hw hh hb hu hp hvc hcode hx hxe hlen
  go_enter_defers Tryz.func95, Tryz.ntmps95
  go_wp2
  go_quiet (fail)
  revert nq
  intro q1
  go_wp2
  go_quiet (fail)
  go_wp2
  generalize hW : (((w.alloc (.cells #[.pointer (some ⟨M, 0, none⟩)] 52)).alloc (.cells #[.int .i64 0, .int .i64 0, .float .f64 0, .bool false] 139)).drewN q1).drewN nq = W
  have mW : Mv (ro4 ro w.heap.size r) [] (stepW w M askNone) (ro4 ro w.heap.size r) W := by rw [← hW]; exact ((Mv.refl _ [] _).drewN q1).drewN nq
  have hM := H0.out.keep0 mW
  have bW := BX.out.keep mW (by simp) (by simp)
  have M1 := Lib.hid (M0.out.trans mW)
  have hc1 := hM.blk.cell
  have hf1 := hM.blk.free
  have g0 := bW.at'.cell 0
  have hltW := hM.blk.lt
  have hsz : w.heap.size + 2 ≤ W.heap.size := by have := mW.size; simpa [stepW] using this
  have c5 := hc1 5
  have c25 := hc1 25
  have c26 := hc1 26
  have l0 := hM.code
  unfold mcells at c5 c25 c26
  rw [HVC.out] at c5 l0
  have k0 := OwnL.at (f := Ins.row) (size := 3) (fun _ => rfl) l0 HJ.out (j := 0) (show 0 < 3 by decide)
  have k1 := OwnL.at (f := Ins.row) (size := 3) (fun _ => rfl) l0 HJ.out (j := 1) (show 1 < 3 by decide)
  have k2 := OwnL.at (f := Ins.row) (size := 3) (fun _ => rfl) l0 HJ.out (j := 2) (show 2 < 3 by decide)
  rw [HX.out] at k0 k1 k2
  simp only [Ins.row, List.getElem?_toArray, List.getElem?_cons_succ, List.getElem?_cons_zero, Nat.add_zero, HP.out, HL.out, ptr] at k0 k1 k2 c5 c25 c26 g0
  have HM := Lib.hid hM
  have BW := Lib.hid bW
  have F1 := Lib.hid hf1
  have ne1 : M ≠ w.heap.size := by omega
  have ne2 := ne1.symm
  clear hc hf hcl hW mW hM bW hc1 hf1 l0 H0 M0 BX hlt
  go_region_held3 (fun w' => w'.cell? ⟨w.heap.size, 0, none⟩ = some (.pointer (some ⟨M, 0, none⟩)) ∧ w'.cell? ⟨M, 5, none⟩ = some (.slice (some ⟨cg, 0, none⟩) len cap) ∧ w'.cell? ⟨M, 25, none⟩ = some (.int .i64 j) ∧ w'.cell? ⟨cg, j * 3, none⟩ = some (.int .i64 op) ∧ w'.cell? ⟨cg, j * 3 + 1, none⟩ = some (.int .i64 n) ∧ w'.cell? ⟨cg, j * 3 + 2, none⟩ = some (.float .f64 xx)) (first | (exact ⟨g0, c5, c25, k0, k1, k2⟩) | assumption | go_keep) (fail)
  have f25 := F1.out 25
  have f26 := F1.out 26
  clear k0 k1 k2
  have H3 := Lib.hid (show MIs (ro4 ro w.heap.size r) r (((W.setCell ⟨M, 26, none⟩ (.int .i64 (m.used + 1))).setCell ⟨M, 25, none⟩ (.int .i64 ((j : Int) + 1))).alloc (.cells #[.int .i64 op, .int .i64 n, .float .f64 xx] 117)).drew M C tag code m.begin _ from
    ((HM.out.put1 26 (.int .i64 (m.used + 1)) { m with used := m.used + 1 } rfl ⟨rfl, rfl, rfl, rfl, rfl⟩ rfl).put1 25 (.int .i64 ((j : Int) + 1)) m.begin (by unfold Ms.begin; rw [HP.out]; rfl) ⟨rfl, rfl, rfl, rfl, rfl⟩ rfl).keep0 (((Mv.refl _ [] _).alloc _).drew))
  have hR := HM.out.inR
  have MV3 := Lib.hid (show Mv (ro4 ro w.heap.size r) (mR r) W (ro4 ro w.heap.size r) (((W.setCell ⟨M, 26, none⟩ (.int .i64 (m.used + 1))).setCell ⟨M, 25, none⟩ (.int .i64 ((j : Int) + 1))).alloc (.cells #[.int .i64 op, .int .i64 n, .float .f64 xx] 117)).drew from
    ((((Mv.refl _ _ _).setCell hR _).setCell hR _).alloc _).drew)
  have KW := RW _ _ _ H3.out
  unfold RdyE faultE at KW
  simp only [ptr, Bool.false_eq_true, if_false] at KW
  have hg : w.heap.size < W.heap.size := by omega
  clear RW hR
  go_wp2_with (go_at_call 130; refine KW.mono ?_; rintro e w4 ⟨rfl, m4⟩)
  change Leaves Tryz.prog Tryz.f95 _ _ _ _ _
  refine leaves_cons (f := 127) (args := #[.pointer (some ⟨w.heap.size, 0, none⟩), .pointer (some ⟨w.heap.size + 1, 0, none⟩)]) (by simp) (by simp [go_sem]) ?_
  refine (catch_fault (H3.out.keep0 m4) w.heap.size askNone ((BW.out.keep MV3.out (by simp [mR]) (by simp [mR])).keep m4 (by simp) (by simp)) 82 []).mono ?_
  rintro e u' w5 ⟨rfl, rfl, ro', p', h5, b5, m5⟩
  exact ⟨_, step_out b5 rfl, rfl, ro', p', h5, (((M1.out.mono (by simp)).trans (MV3.out.mono fun _ => mRS)).trans (m4.mono (by simp))).trans (m5.mono fun _ => mRS14)⟩
end Go.Proofs.YtphaeodcomgffaaGreat
set_option linter.unusedVariables false
set_option linter.unusedSimpArgs false
namespace Go.Proofs.YtphaeodcomgffaaGreat
open Go.RowKit

set_option maxRecDepth 100000 in
set_option maxHeartbeats 4000000 in
theorem step_err {ro : Nat → Nat} {r : Nat} {w : World} {M C tag code m p} (h : MIs ro r w M C tag code m p) (hw : m.wait = none) (hh : m.how = 0) (hb : m.bad = false) (hu : m.used ≠ C.fuel) (j : Nat) (hp : m.place = j) (x : Ins) (hx : code[j]? = some x) (hl : code.length ≤ 4096) (hu0 : 0 ≤ m.used) (hu1 : m.used ≤ 4096)
    (RW : ∀ ro' W p', MIs ro' r W M C tag code m.begin p' → Calls Tryz.prog 130 #[ptr M, .agg #[.int .i64 x.op, .int .i64 x.n, .float .f64 x.x]] W fun e w' => e = RdyE true ∧ Mv ro' [] W ro' w') (er : Int)
    (DW : ∀ ro' W p', MIs ro' r W M C tag code m.begin p' → Calls Tryz.prog 131 #[ptr M, insV x.op x.n x.x] W (DoP ro' r W M C tag code m.begin (.error er))) :
    Calls Tryz.prog 95 #[ptr M] w (StepP ro r w M C tag code (m.begin.fails er)) := by
  have hmf : ∀ (fn : Fn) (first cap : Array Value) (w : World), (Instr.makeFunc fn first cap).run Tryz.prog w = .ok (.func fn first cap) w := fun _ _ _ _ => rfl
  have hjl : j < code.length := (List.getElem?_eq_some_iff.1 hx).1
  have hxe : code[j] = x := (List.getElem?_eq_some_iff.1 hx).2
  have hc := h.blk.cell
  have hf := h.blk.free
  have hlt := h.blk.lt
  obtain ⟨cg, cap, hvc, hrole, hcap, hmax⟩ := h.code.pos (by omega)
  have hcode := h.code
  rw [hvc] at hcode
  have k0 := OwnL.at (f := Ins.row) (size := 3) (fun _ => rfl) hcode hjl (j := 0) (show 0 < 3 by decide)
  have k1 := OwnL.at (f := Ins.row) (size := 3) (fun _ => rfl) hcode hjl (j := 1) (show 1 < 3 by decide)
  have k2 := OwnL.at (f := Ins.row) (size := 3) (fun _ => rfl) hcode hjl (j := 2) (show 2 < 3 by decide)
  rw [hxe] at k0 k1 k2
  obtain ⟨op, n, xx⟩ := x
  simp only [Ins.row, List.getElem?_cons_succ, List.getElem?_cons_zero, Nat.add_zero] at k0 k1 k2
  have hcl := block_lt_of_cell k0
  simp only at hcl
  unfold mcells at hc
  obtain ⟨len, hlen⟩ : ∃ len, len = code.length := ⟨_, rfl⟩
  have HJ := Lib.hid hjl
  have HX := Lib.hid hxe
  have HL := Lib.hid hlen.symm
  have HVC := Lib.hid hvc
  rw [← hlen] at hvc hjl hl
  have hu' : (m.used == C.fuel) = false := by simpa using hu
  have hp' : ((j : Int) == (len : Int)) = false := by simp; omega
  have hjl' : (j : Int) < len := by omega
  simp only [hw, hh, hb, hp, hvc, Option.isSome_none] at hc
  have sf := run_store_float
  simp only [ptr] at hc ⊢
  have H0 := Lib.hid (h.keep0 (step_mv ro r w M askNone))
  have M0 := Lib.hid (step_mv ro r w M askNone)
  have BX := Lib.hid (step_box ro r w M askNone)
  have HP := Lib.hid hp
  clear h hw hh hb hu hp hvc hcode hx hxe hlen
  go_enter_defers Tryz.func95, Tryz.ntmps95
  go_wp2
  go_quiet (fail)
  revert nq
  intro q1
  go_wp2
  go_quiet (fail)
  go_wp2
  generalize hW : (((w.alloc (.cells #[.pointer (some ⟨M, 0, none⟩)] 52)).alloc (.cells #[.int .i64 0, .int .i64 0, .float .f64 0, .bool false] 139)).drewN q1).drewN nq = W
  have mW : Mv (ro4 ro w.heap.size r) [] (stepW w M askNone) (ro4 ro w.heap.size r) W := by rw [← hW]; exact ((Mv.refl _ [] _).drewN q1).drewN nq
  have hM := H0.out.keep0 mW
  have bW := BX.out.keep mW (by simp) (by simp)
  have M1 := Lib.hid (M0.out.trans mW)
  have hc1 := hM.blk.cell
  have hf1 := hM.blk.free
  have g0 := bW.at'.cell 0
  have hltW := hM.blk.lt
  have hsz : w.heap.size + 2 ≤ W.heap.size := by have := mW.size; simpa [stepW] using this
  have c5 := hc1 5
  have c25 := hc1 25
  have c26 := hc1 26
  have l0 := hM.code
  unfold mcells at c5 c25 c26
  rw [HVC.out] at c5 l0
  have k0 := OwnL.at (f := Ins.row) (size := 3) (fun _ => rfl) l0 HJ.out (j := 0) (show 0 < 3 by decide)
  have k1 := OwnL.at (f := Ins.row) (size := 3) (fun _ => rfl) l0 HJ.out (j := 1) (show 1 < 3 by decide)
  have k2 := OwnL.at (f := Ins.row) (size := 3) (fun _ => rfl) l0 HJ.out (j := 2) (show 2 < 3 by decide)
  rw [HX.out] at k0 k1 k2
  simp only [Ins.row, List.getElem?_toArray, List.getElem?_cons_succ, List.getElem?_cons_zero, Nat.add_zero, HP.out, HL.out, ptr] at k0 k1 k2 c5 c25 c26 g0
  have HM := Lib.hid hM
  have BW := Lib.hid bW
  have F1 := Lib.hid hf1
  have ne1 : M ≠ w.heap.size := by omega
  have ne2 := ne1.symm
  clear hc hf hcl hW mW hM bW hc1 hf1 l0 H0 M0 BX hlt
  go_region_held3 (fun w' => w'.cell? ⟨w.heap.size, 0, none⟩ = some (.pointer (some ⟨M, 0, none⟩)) ∧ w'.cell? ⟨M, 5, none⟩ = some (.slice (some ⟨cg, 0, none⟩) len cap) ∧ w'.cell? ⟨M, 25, none⟩ = some (.int .i64 j) ∧ w'.cell? ⟨cg, j * 3, none⟩ = some (.int .i64 op) ∧ w'.cell? ⟨cg, j * 3 + 1, none⟩ = some (.int .i64 n) ∧ w'.cell? ⟨cg, j * 3 + 2, none⟩ = some (.float .f64 xx)) (first | (exact ⟨g0, c5, c25, k0, k1, k2⟩) | assumption | go_keep) (fail)
  have f25 := F1.out 25
  have f26 := F1.out 26
  clear k0 k1 k2
  have H3 := Lib.hid (show MIs (ro4 ro w.heap.size r) r (((W.setCell ⟨M, 26, none⟩ (.int .i64 (m.used + 1))).setCell ⟨M, 25, none⟩ (.int .i64 ((j : Int) + 1))).alloc (.cells #[.int .i64 op, .int .i64 n, .float .f64 xx] 117)).drew M C tag code m.begin _ from
    ((HM.out.put1 26 (.int .i64 (m.used + 1)) { m with used := m.used + 1 } rfl ⟨rfl, rfl, rfl, rfl, rfl⟩ rfl).put1 25 (.int .i64 ((j : Int) + 1)) m.begin (by unfold Ms.begin; rw [HP.out]; rfl) ⟨rfl, rfl, rfl, rfl, rfl⟩ rfl).keep0 (((Mv.refl _ [] _).alloc _).drew))
  have hR := HM.out.inR
  have MV3 := Lib.hid (show Mv (ro4 ro w.heap.size r) (mR r) W (ro4 ro w.heap.size r) (((W.setCell ⟨M, 26, none⟩ (.int .i64 (m.used + 1))).setCell ⟨M, 25, none⟩ (.int .i64 ((j : Int) + 1))).alloc (.cells #[.int .i64 op, .int .i64 n, .float .f64 xx] 117)).drew from
    ((((Mv.refl _ _ _).setCell hR _).setCell hR _).alloc _).drew)
  have KW := RW _ _ _ H3.out
  unfold RdyE at KW
  simp only [ptr, if_true] at KW
  simp only [ptr] at DW
  have hg : w.heap.size < W.heap.size := by omega
  clear RW hR
  have xh : (((W.setCell ⟨M, 26, none⟩ (.int .i64 (m.used + 1))).setCell ⟨M, 25, none⟩ (.int .i64 ((j : Int) + 1))).alloc (.cells #[.int .i64 op, .int .i64 n, .float .f64 xx] 117)).drew.heap[W.heap.size]? = some (.cells #[.int .i64 op, .int .i64 n, .float .f64 xx] 117 (0, 0)) := by
    have := heap_alloc_new ((W.setCell ⟨M, 26, none⟩ (.int .i64 (m.used + 1))).setCell ⟨M, 25, none⟩ (.int .i64 ((j : Int) + 1))) (.cells #[.int .i64 op, .int .i64 n, .float .f64 xx] 117)
    rw [show ((W.setCell ⟨M, 26, none⟩ (.int .i64 (m.used + 1))).setCell ⟨M, 25, none⟩ (.int .i64 ((j : Int) + 1))).heap.size = W.heap.size by simp [World.setCell]] at this
    exact this
  have XH := Lib.hid xh
  clear xh
  unfold insV at DW
  go_wp2_with (first
    | (go_at_call 130; refine KW.mono ?_; rintro e w4 ⟨rfl, m4⟩; have x4 := fun o => cell_of_row w4 W.heap.size o _ _ _ ((m4.block _ (lt_of_heap XH.out) (by simp)).trans XH.out); have b4 := (BW.out.keep MV3.out (by simp [mR]) (by simp [mR])).keep m4 (by simp) (by simp); have g4 := b4.at'.cell 0; simp only [ptr, List.getElem?_toArray, List.getElem?_cons_zero] at g4)
    | (go_at_call 131; refine (DW _ _ _ (H3.out.keep0 m4)).mono ?_; rintro e w5 ⟨he, ro5, p5, h5, m5⟩; unfold faultE at he; subst he))
  change Leaves Tryz.prog Tryz.f95 _ _ _ _ _
  refine leaves_cons (f := 127) (args := #[.pointer (some ⟨w.heap.size, 0, none⟩), .pointer (some ⟨w.heap.size + 1, 0, none⟩)]) (by simp) (by simp [go_sem]) ?_
  refine (catch_fault h5 w.heap.size askNone (b4.keep m5 (by simp [mR]) (by simp [mR])) er []).mono ?_
  rintro e u' w6 ⟨rfl, rfl, ro', p', h6, b6, m6⟩
  exact ⟨_, step_out b6 rfl, rfl, ro', p', h6, ((((M1.out.mono (by simp)).trans (MV3.out.mono fun _ => mRS)).trans (m4.mono (by simp))).trans (m5.mono fun _ => mRS)).trans (m6.mono fun _ => mRS14)⟩
end Go.Proofs.YtphaeodcomgffaaGreat
set_option linter.unusedVariables false
set_option linter.unusedSimpArgs false
namespace Go.Proofs.YtphaeodcomgffaaGreat
open Go.RowKit

set_option maxRecDepth 100000 in
set_option maxHeartbeats 4000000 in
theorem step_ok {ro : Nat → Nat} {r : Nat} {w : World} {M C tag code m p} (h : MIs ro r w M C tag code m p) (hw : m.wait = none) (hh : m.how = 0) (hb : m.bad = false) (hu : m.used ≠ C.fuel) (j : Nat) (hp : m.place = j) (x : Ins) (hx : code[j]? = some x) (hl : code.length ≤ 4096) (hu0 : 0 ≤ m.used) (hu1 : m.used ≤ 4096)
    (RW : ∀ ro' W p', MIs ro' r W M C tag code m.begin p' → Calls Tryz.prog 130 #[ptr M, .agg #[.int .i64 x.op, .int .i64 x.n, .float .f64 x.x]] W fun e w' => e = RdyE true ∧ Mv ro' [] W ro' w') (m' : Ms) (a : Ask)
    (DW : ∀ ro' W p', MIs ro' r W M C tag code m.begin p' → Calls Tryz.prog 131 #[ptr M, insV x.op x.n x.x] W (DoP ro' r W M C tag code m.begin (.ok (m', a)))) :
    Calls Tryz.prog 95 #[ptr M] w (StepP ro r w M C tag code (m', a)) := by
  have hmf : ∀ (fn : Fn) (first cap : Array Value) (w : World), (Instr.makeFunc fn first cap).run Tryz.prog w = .ok (.func fn first cap) w := fun _ _ _ _ => rfl
  have hjl : j < code.length := (List.getElem?_eq_some_iff.1 hx).1
  have hxe : code[j] = x := (List.getElem?_eq_some_iff.1 hx).2
  have hc := h.blk.cell
  have hf := h.blk.free
  have hlt := h.blk.lt
  obtain ⟨cg, cap, hvc, hrole, hcap, hmax⟩ := h.code.pos (by omega)
  have hcode := h.code
  rw [hvc] at hcode
  have k0 := OwnL.at (f := Ins.row) (size := 3) (fun _ => rfl) hcode hjl (j := 0) (show 0 < 3 by decide)
  have k1 := OwnL.at (f := Ins.row) (size := 3) (fun _ => rfl) hcode hjl (j := 1) (show 1 < 3 by decide)
  have k2 := OwnL.at (f := Ins.row) (size := 3) (fun _ => rfl) hcode hjl (j := 2) (show 2 < 3 by decide)
  rw [hxe] at k0 k1 k2
  obtain ⟨op, n, xx⟩ := x
  simp only [Ins.row, List.getElem?_cons_succ, List.getElem?_cons_zero, Nat.add_zero] at k0 k1 k2
  have hcl := block_lt_of_cell k0
  simp only at hcl
  unfold mcells at hc
  obtain ⟨len, hlen⟩ : ∃ len, len = code.length := ⟨_, rfl⟩
  have HJ := Lib.hid hjl
  have HX := Lib.hid hxe
  have HL := Lib.hid hlen.symm
  have HVC := Lib.hid hvc
  rw [← hlen] at hvc hjl hl
  have hu' : (m.used == C.fuel) = false := by simpa using hu
  have hp' : ((j : Int) == (len : Int)) = false := by simp; omega
  have hjl' : (j : Int) < len := by omega
  simp only [hw, hh, hb, hp, hvc, Option.isSome_none] at hc
  have sf := run_store_float
  simp only [ptr] at hc ⊢
  have H0 := Lib.hid (h.keep0 (step_mv ro r w M askNone))
  have M0 := Lib.hid (step_mv ro r w M askNone)
  have BX := Lib.hid (step_box ro r w M askNone)
  have HP := Lib.hid hp
  clear h hw hh hb hu hp hvc hcode hx hxe hlen
  go_enter_defers Tryz.func95, Tryz.ntmps95
  go_wp2
  go_quiet (fail)
  revert nq
  intro q1
  go_wp2
  go_quiet (fail)
  go_wp2
  generalize hW : (((w.alloc (.cells #[.pointer (some ⟨M, 0, none⟩)] 52)).alloc (.cells #[.int .i64 0, .int .i64 0, .float .f64 0, .bool false] 139)).drewN q1).drewN nq = W
  have mW : Mv (ro4 ro w.heap.size r) [] (stepW w M askNone) (ro4 ro w.heap.size r) W := by rw [← hW]; exact ((Mv.refl _ [] _).drewN q1).drewN nq
  have hM := H0.out.keep0 mW
  have bW := BX.out.keep mW (by simp) (by simp)
  have M1 := Lib.hid (M0.out.trans mW)
  have hc1 := hM.blk.cell
  have hf1 := hM.blk.free
  have g0 := bW.at'.cell 0
  have hltW := hM.blk.lt
  have hsz : w.heap.size + 2 ≤ W.heap.size := by have := mW.size; simpa [stepW] using this
  have c5 := hc1 5
  have c25 := hc1 25
  have c26 := hc1 26
  have l0 := hM.code
  unfold mcells at c5 c25 c26
  rw [HVC.out] at c5 l0
  have k0 := OwnL.at (f := Ins.row) (size := 3) (fun _ => rfl) l0 HJ.out (j := 0) (show 0 < 3 by decide)
  have k1 := OwnL.at (f := Ins.row) (size := 3) (fun _ => rfl) l0 HJ.out (j := 1) (show 1 < 3 by decide)
  have k2 := OwnL.at (f := Ins.row) (size := 3) (fun _ => rfl) l0 HJ.out (j := 2) (show 2 < 3 by decide)
  rw [HX.out] at k0 k1 k2
  simp only [Ins.row, List.getElem?_toArray, List.getElem?_cons_succ, List.getElem?_cons_zero, Nat.add_zero, HP.out, HL.out, ptr] at k0 k1 k2 c5 c25 c26 g0
  have HM := Lib.hid hM
  have BW := Lib.hid bW
  have F1 := Lib.hid hf1
  have ne1 : M ≠ w.heap.size := by omega
  have ne2 := ne1.symm
  clear hc hf hcl hW mW hM bW hc1 hf1 l0 H0 M0 BX hlt
  go_region_held3 (fun w' => w'.cell? ⟨w.heap.size, 0, none⟩ = some (.pointer (some ⟨M, 0, none⟩)) ∧ w'.cell? ⟨M, 5, none⟩ = some (.slice (some ⟨cg, 0, none⟩) len cap) ∧ w'.cell? ⟨M, 25, none⟩ = some (.int .i64 j) ∧ w'.cell? ⟨cg, j * 3, none⟩ = some (.int .i64 op) ∧ w'.cell? ⟨cg, j * 3 + 1, none⟩ = some (.int .i64 n) ∧ w'.cell? ⟨cg, j * 3 + 2, none⟩ = some (.float .f64 xx)) (first | (exact ⟨g0, c5, c25, k0, k1, k2⟩) | assumption | go_keep) (fail)
  have f25 := F1.out 25
  have f26 := F1.out 26
  clear k0 k1 k2
  have H3 := Lib.hid (show MIs (ro4 ro w.heap.size r) r (((W.setCell ⟨M, 26, none⟩ (.int .i64 (m.used + 1))).setCell ⟨M, 25, none⟩ (.int .i64 ((j : Int) + 1))).alloc (.cells #[.int .i64 op, .int .i64 n, .float .f64 xx] 117)).drew M C tag code m.begin _ from
    ((HM.out.put1 26 (.int .i64 (m.used + 1)) { m with used := m.used + 1 } rfl ⟨rfl, rfl, rfl, rfl, rfl⟩ rfl).put1 25 (.int .i64 ((j : Int) + 1)) m.begin (by unfold Ms.begin; rw [HP.out]; rfl) ⟨rfl, rfl, rfl, rfl, rfl⟩ rfl).keep0 (((Mv.refl _ [] _).alloc _).drew))
  have hR := HM.out.inR
  have MV3 := Lib.hid (show Mv (ro4 ro w.heap.size r) (mR r) W (ro4 ro w.heap.size r) (((W.setCell ⟨M, 26, none⟩ (.int .i64 (m.used + 1))).setCell ⟨M, 25, none⟩ (.int .i64 ((j : Int) + 1))).alloc (.cells #[.int .i64 op, .int .i64 n, .float .f64 xx] 117)).drew from
    ((((Mv.refl _ _ _).setCell hR _).setCell hR _).alloc _).drew)
  have KW := RW _ _ _ H3.out
  unfold RdyE at KW
  simp only [ptr, if_true] at KW
  simp only [ptr] at DW
  have hg : w.heap.size < W.heap.size := by omega
  clear RW hR
  have xh : (((W.setCell ⟨M, 26, none⟩ (.int .i64 (m.used + 1))).setCell ⟨M, 25, none⟩ (.int .i64 ((j : Int) + 1))).alloc (.cells #[.int .i64 op, .int .i64 n, .float .f64 xx] 117)).drew.heap[W.heap.size]? = some (.cells #[.int .i64 op, .int .i64 n, .float .f64 xx] 117 (0, 0)) := by
    have := heap_alloc_new ((W.setCell ⟨M, 26, none⟩ (.int .i64 (m.used + 1))).setCell ⟨M, 25, none⟩ (.int .i64 ((j : Int) + 1))) (.cells #[.int .i64 op, .int .i64 n, .float .f64 xx] 117)
    rw [show ((W.setCell ⟨M, 26, none⟩ (.int .i64 (m.used + 1))).setCell ⟨M, 25, none⟩ (.int .i64 ((j : Int) + 1))).heap.size = W.heap.size by simp [World.setCell]] at this
    exact this
  have XH := Lib.hid xh
  clear xh
  unfold insV at DW
  obtain ⟨a1, a2, a3, a4⟩ := a
  go_wp2_with (first
    | (go_at_call 130; refine KW.mono ?_; rintro e w4 ⟨rfl, m4⟩; have x4 := fun o => cell_of_row w4 W.heap.size o _ _ _ ((m4.block _ (lt_of_heap XH.out) (by simp)).trans XH.out); have b4 := (BW.out.keep MV3.out (by simp [mR]) (by simp [mR])).keep m4 (by simp) (by simp); have g4 := b4.at'.cell 0; simp only [ptr, List.getElem?_toArray, List.getElem?_cons_zero] at g4)
    | (go_at_call 131; refine (DW _ _ _ (H3.out.keep0 m4)).mono ?_; rintro e w5 ⟨he, ro5, p5, h5, m5⟩; unfold Ask.v at he; simp only at he; subst he; have b5 := b4.keep m5 (by simp [mR]) (by simp [mR]); have bc := b5.ans.cell; have bf := b5.ans.free))
  change Leaves Tryz.prog Tryz.f95 _ _ _ _ _
  refine leaves_cons (f := 127) (args := #[.pointer (some ⟨w.heap.size, 0, none⟩), .pointer (some ⟨w.heap.size + 1, 0, none⟩)]) (by simp) (by simp [go_sem]) ?_
  refine (catch_idle _ _ _).mono ?_
  rintro e u' w6 ⟨rfl, rfl, rfl⟩
  obtain ⟨b6, m6⟩ := ask_put b5 a1 a2 a3 a4
  exact ⟨_, step_out b6 rfl, rfl, ro5, p5, h5.keep m6 (by simp), ((((M1.out.mono (by simp)).trans (MV3.out.mono fun _ => mRS)).trans (m4.mono (by simp))).trans (m5.mono fun _ => mRS)).trans (m6.mono (by simp [mS]))⟩
end Go.Proofs.YtphaeodcomgffaaGreat
