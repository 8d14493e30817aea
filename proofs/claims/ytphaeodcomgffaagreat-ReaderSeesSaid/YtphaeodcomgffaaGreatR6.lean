import Derived.Test.YtphaeodcomgffaaGreatMO
import Derived.Defers
import Derived.Recover
import Derived.Laws.Pointers
set_option linter.unusedVariables false
set_option linter.unusedSimpArgs false
namespace Go.Proofs.YtphaeodcomgffaaGreat
open Go.RowKit

set_option maxRecDepth 100000 in
theorem catch_idle (a b : Addr) (w : World) :
    CallsD Tryz.prog 127 #[.pointer (some a), .pointer (some b)] .returning w fun e u' w' => e = .returned (.tuple #[]) ∧ u' = .returning ∧ w' = w := by
  refine callsD_of_wpS Tryz.func127 rfl fun c₀ cs hu => ?_
  apply wpS_seq
  apply wpS_region
  simp [wpOpsS, go_sem, recoverD, hu, Tryz.ntmps127, Exit.thenS]
  apply wpS_seq
  apply wpS_region
  simp [wpOpsS, go_sem, recoverD, hu, Tryz.ntmps127, Exit.thenS]
  refine wpS_cond (t := false) (by simp [Act.eval, Array.replicate]) ?_
  simp only [Bool.false_eq_true, if_false]
  refine wpS_of_wp (wp_skip ?_)
  cases c₀
  simp_all [bodyPostS, results, Tryz.results127]
theorem assertF (v : Value) (W : World) : (Instr.typeAssert (.iface 208 v) 20 208 true).run Tryz.prog W = .ok (.tuple #[v, .bool true]) W := by kernel_rfl
theorem at_tmps {P : Program} {c : Code} {Q : Exit → Act → World → Prop} {t t' : Array Value} {d : List Deferred} {w : World} (e : t = t') (h : Code.wp P c Q { tmps := t', defers := d } w) : Code.wp P c Q { tmps := t, defers := d } w := e ▸ h

/-- Step's two boxes: where the machine is, and the answer. -/
structure Boxes (ro : Nat → Nat) (r : Nat) (w : World) (g : Nat) (M : Nat) (a : Ask) : Prop where
  at' : Blk ro (r + 13) w g #[ptr M] 52
  ans : Blk ro (r + 14) w (g + 1) #[.int .i64 a.kind, .int .i64 a.cell, .float .f64 a.x, .bool a.first] 139
theorem Boxes.keep {ro ro' : Nat → Nat} {r : Nat} {w w' : World} {g M a R} (h : Boxes ro r w g M a) (m : Mv ro R w ro' w') (h1 : r + 13 ∉ R) (h2 : r + 14 ∉ R) : Boxes ro' r w' g M a := ⟨h.at'.keep m h1, h.ans.keep m h2⟩
set_option maxRecDepth 100000 in
set_option maxHeartbeats 1000000 in
theorem catch_fault {ro : Nat → Nat} {r : Nat} {w : World} {M C tag code m p} (h : MIs ro r w M C tag code m p) (g : Nat) (a : Ask) (bx : Boxes ro r w g M a) (er : Int) (older : List PanicEntry) :
    CallsD Tryz.prog 127 #[.pointer (some ⟨g, 0, none⟩), .pointer (some ⟨g + 1, 0, none⟩)] (.panicking ({ v := .iface 208 (.int .i64 er), recovered := false } :: older)) w fun e' u' w' =>
      e' = .returned (.tuple #[]) ∧ u' = .panicking ({ v := .iface 208 (.int .i64 er), recovered := true } :: older) ∧ ∃ ro' p', MIs ro' r w' M C tag code (m.ends 3 0 er).1 p' ∧ Boxes ro' r w' g M askEnd ∧ Mv ro ((r + 14) :: mR r) w ro' w' := by
  have hc := bx.at'.cell
  have KW := ends_walk h 3 0 er
  have ta := assertF
  refine callsD_of_wpS Tryz.func127 rfl fun c₀ cs hu => ?_
  apply wpS_seq
  apply wpS_region
  simp [wpOpsS, go_sem, recoverD, hu, Tryz.ntmps127, Exit.thenS]
  apply wpS_seq
  apply wpS_region
  simp [wpOpsS, go_sem, recoverD, hu, Tryz.ntmps127, Exit.thenS]
  refine wpS_cond (t := true) (by simp [Act.eval, Array.replicate]) ?_
  simp only [if_true]
  apply wpS_seq
  apply wpS_region
  simp [wpOpsS, go_sem, recoverD, hu, Tryz.ntmps127, Exit.thenS, assertF]
  apply wpS_seq
  apply wpS_seq
  apply wpS_region
  simp [wpOpsS, go_sem, recoverD, hu, Tryz.ntmps127, Exit.thenS, assertF]
  refine wpS_cond (t := false) (by simp [Act.eval, Array.replicate]) ?_
  simp only [Bool.false_eq_true, if_false]
  refine wpS_of_wp (wp_skip ?_)
  simp only [Exit.thenS]
  refine wpS_of_wp ?_
  have ec : (c₀.fn, c₀.tmps, c₀.todo, c₀.defers, c₀.kind, c₀.roundOf) = (c₀.fn, c₀.tmps, c₀.todo, c₀.defers, c₀.kind, c₀.roundOf) := rfl
  refine at_tmps (t' := #[.pointer (some ⟨g, 0, none⟩), .pointer (some ⟨g + 1, 0, none⟩), .iface 208 (.int .i64 er), .int .i64 er, .bool true, .iface 208 (.int .i64 er), .iface 208 (.int .i64 er), .bool true, .tuple #[.int .i64 er, .bool true], .iface 208 (.int .i64 er), .tuple #[.int .i64 er, .bool true], .int .i64 er, .bool true, .bool true, .bool false, undef, undef, undef, undef, undef]) (by kernel_rfl) ?_
  have sf := run_store_float
  have BX := Lib.hid bx
  clear bx h
  simp only [ptr, Ask.v, askEnd] at hc KW
  go_wp2_with (go_at_call 128; refine KW.mono ?_; rintro e w1 ⟨rfl, ro1, p1, h1, m1⟩; have b1 := BX.out.keep m1 (by simp [mR]) (by simp [mR]); have bc := b1.ans.cell; have bf := b1.ans.free)
  change bodyPostS Tryz.prog Tryz.f127 c₀ cs _ _ _ _ _
  cases c₀
  simp only [bodyPostS]
  have hR : ro1 (g + 1) ∈ [r + 14] := by rw [b1.ans.role]; simp
  have mA : Mv ro1 [r + 14] w1 ro1 ((((w1.setCell ⟨g + 1, 0, none⟩ (.int .i64 4)).setCell ⟨g + 1, 1, none⟩ (.int .i64 0)).setCell ⟨g + 1, 2, none⟩ (.float .f64 0)).setCell ⟨g + 1, 3, none⟩ (.bool false)) := ((((Mv.refl _ _ _).setCell hR _).setCell hR _).setCell hR _).setCell hR _
  refine ⟨trivial, _, rfl, .tuple #[], by kernel_rfl, rfl, rfl, ro1, ⟨p1, h1.keep mA (by simp)⟩, ⟨b1.at'.keep mA (by simp), ?_⟩, (m1.mono (fun x hx => List.mem_cons_of_mem _ hx)).trans (mA.mono (by simp))⟩
  exact (((b1.ans.put (i := 0) rfl).put (i := 1) rfl).put (i := 2) rfl).put (i := 3) rfl
end Go.Proofs.YtphaeodcomgffaaGreat
