import Derived.Test.YtjlnhifleepnoaaGreatDoorK3
import Derived.Defers
import Derived.Recover
import Derived.Laws.Pointers
import Derived.Deep.RegionHeld3
set_option linter.unusedVariables false
set_option linter.unusedSimpArgs false
namespace Go.Proofs.YtjlnhifleepnoaaGreatDoor
open Go.RowKit

set_option maxRecDepth 100000 in
theorem catch_idle (a b c : Addr) (w : World) :
    CallsD Tryz.prog 12 #[.pointer (some a), .pointer (some b), .pointer (some c)] .returning w fun e u' w' => e = .returned (.tuple #[]) ∧ u' = .returning ∧ w' = w := by
  refine callsD_of_wpS Tryz.func12 rfl fun c₀ cs hu => ?_
  apply wpS_seq
  apply wpS_region
  simp [wpOpsS, go_sem, recoverD, hu, Tryz.ntmps12, Exit.thenS]
  apply wpS_seq
  apply wpS_region
  simp [wpOpsS, go_sem, recoverD, hu, Tryz.ntmps12, Exit.thenS]
  refine wpS_cond (t := false) (by simp [Act.eval, Array.replicate]) ?_
  simp only [Bool.false_eq_true, if_false]
  refine wpS_of_wp (wp_skip ?_)
  cases c₀
  simp_all [bodyPostS, results, Tryz.results12]

theorem assert66 (v : Value) (W : World) : (Instr.typeAssert (.iface 40 v) 20 40 true).run Tryz.prog W = .ok (.tuple #[v, .bool true]) W := by kernel_rfl
/-- The three results of Parse, in new blocks. -/
structure Res (w : World) (g : Nat) (t : Value) (l : Value) (e at' : Value) : Prop where
  p0 : w.cell? ⟨g, 0, none⟩ = some t
  p1 : w.cell? ⟨g, 1, none⟩ = some l
  q : w.cell? ⟨g + 1, 0, none⟩ = some e
  r : w.cell? ⟨g + 2, 0, none⟩ = some at'
  f0 : w.frozen? ⟨g, 0, none⟩ = false
  f1 : w.frozen? ⟨g, 1, none⟩ = false
  f2 : w.frozen? ⟨g + 1, 0, none⟩ = false
  f3 : w.frozen? ⟨g + 2, 0, none⟩ = false

theorem at_tmps {P : Program} {c : Code} {Q : Exit → Act → World → Prop} {t t' : Array Value} {d : List Deferred} {w : World} (e : t = t') (h : Code.wp P c Q { tmps := t', defers := d } w) : Code.wp P c Q { tmps := t, defers := d } w := e ▸ h

set_option maxRecDepth 100000 in
set_option maxHeartbeats 400000 in
theorem catch_wrong (g : Nat) (e ln : Int) (older : List PanicEntry) (w : World) (t l e' a' : Value) (h : Res w g t l e' a') :
    CallsD Tryz.prog 12 #[.pointer (some ⟨g, 0, none⟩), .pointer (some ⟨g + 1, 0, none⟩), .pointer (some ⟨g + 2, 0, none⟩)] (.panicking ({ v := .iface 40 (.agg #[.int .i64 e, .int .i64 ln]), recovered := false } :: older)) w fun e' u' w' =>
      e' = .returned (.tuple #[]) ∧ u' = .panicking ({ v := .iface 40 (.agg #[.int .i64 e, .int .i64 ln]), recovered := true } :: older) ∧ Res w' g (.int .i64 0) (.slice none 0 0) (.int .i64 e) (.int .i64 ln) ∧ Below g w w' := by
  obtain ⟨p0, p1, q, r, f0, f1, f2, f3⟩ := h
  have ta := assert66
  have l0 := block_lt_of_cell p0
  have l1 := block_lt_of_cell q
  have l2 := block_lt_of_cell r
  simp only at l0 l1 l2
  refine callsD_of_wpS Tryz.func12 rfl fun c₀ cs hu => ?_
  apply wpS_seq
  apply wpS_region
  simp [wpOpsS, go_sem, recoverD, hu, Tryz.ntmps12, Exit.thenS]
  apply wpS_seq
  apply wpS_region
  simp [wpOpsS, go_sem, recoverD, hu, Tryz.ntmps12, Exit.thenS]
  refine wpS_cond (t := true) (by simp [Act.eval, Array.replicate]) ?_
  simp only [if_true]
  apply wpS_seq
  apply wpS_region
  simp [wpOpsS, go_sem, recoverD, hu, Tryz.ntmps12, Exit.thenS, assert66]
  apply wpS_seq
  apply wpS_seq
  apply wpS_region
  simp [wpOpsS, go_sem, recoverD, hu, Tryz.ntmps12, Exit.thenS, assert66]
  refine wpS_cond (t := false) (by simp [Act.eval, Array.replicate]) ?_
  simp only [Bool.false_eq_true, if_false]
  refine wpS_of_wp (wp_skip ?_)
  simp only [Exit.thenS]
  refine wpS_of_wp ?_
  have ec : (c₀.fn, c₀.tmps, c₀.todo, c₀.defers, c₀.kind, c₀.roundOf) = (c₀.fn, c₀.tmps, c₀.todo, c₀.defers, c₀.kind, c₀.roundOf) := rfl
  generalize hW : w.alloc (Obj.cells #[Value.int IntKind.i64 e, Value.int IntKind.i64 ln] 40) = W
  have k0 : W.cell? ⟨w.heap.size, 0, none⟩ = some (.int .i64 e) := by subst hW; go_keep
  have k1 : W.cell? ⟨w.heap.size, 1, none⟩ = some (.int .i64 ln) := by subst hW; go_keep
  have l3 : w.heap.size < W.heap.size := by subst hW; simp [go_sem]
  refine at_tmps (t' := #[.pointer (some ⟨g, 0, none⟩), .pointer (some ⟨g + 1, 0, none⟩), .pointer (some ⟨g + 2, 0, none⟩), (.iface 40 (.agg #[.int .i64 e, .int .i64 ln])), .pointer (some ⟨w.heap.size, 0, none⟩), .bool true, (.iface 40 (.agg #[.int .i64 e, .int .i64 ln])), (.iface 40 (.agg #[.int .i64 e, .int .i64 ln])), .bool true, .tuple #[.agg #[.int .i64 e, .int .i64 ln], .bool true], (.iface 40 (.agg #[.int .i64 e, .int .i64 ln])), .tuple #[.agg #[.int .i64 e, .int .i64 ln], .bool true], .agg #[.int .i64 e, .int .i64 ln], .bool true, .bool true, .bool false, undef, undef, undef, undef, undef, undef]) (by kernel_rfl) ?_
  have bW : Below w.heap.size w W := by subst hW; exact (Below.refl _ _).alloc (Nat.le_refl _) _
  have hs0 : W.cell? ⟨g, 0, none⟩ = some t := (bW.cell l0).trans p0
  have hs1 : W.cell? ⟨g, 1, none⟩ = some l := (bW.cell l0).trans p1
  have hs2 : W.cell? ⟨g + 1, 0, none⟩ = some e' := (bW.cell l1).trans q
  have hs3 : W.cell? ⟨g + 2, 0, none⟩ = some a' := (bW.cell l2).trans r
  have hf0 : W.frozen? ⟨g, 0, none⟩ = false := (bW.frozen l0).trans f0
  have hf1 : W.frozen? ⟨g, 1, none⟩ = false := (bW.frozen l0).trans f1
  have hf2 : W.frozen? ⟨g + 1, 0, none⟩ = false := (bW.frozen l1).trans f2
  have hf3 : W.frozen? ⟨g + 2, 0, none⟩ = false := (bW.frozen l2).trans f3
  generalize w.heap.size = n at *
  have ne0 : n ≠ g := by omega
  have ne1 : n ≠ g + 1 := by omega
  have ne2 : n ≠ g + 2 := by omega
  have ne3 : g ≠ n := by omega
  have ne4 : g + 1 ≠ n := by omega
  have ne5 : g + 2 ≠ n := by omega
  go_wp2
  go_region_held3 (fun w' => w'.cell? ⟨n, 0, none⟩ = some (.int .i64 e) ∧ w'.cell? ⟨n, 1, none⟩ = some (.int .i64 ln)) (first | assumption | go_keep) (first | fail)
  · rename_i hh
    have fin : Res (((((W.setCell ⟨g, 0, none⟩ (.int .i64 0)).setCell ⟨g, 1, none⟩ (.slice none 0 0)).setCell ⟨g + 1, 0, none⟩ (.int .i64 e)).setCell ⟨g + 2, 0, none⟩ (.int .i64 ln)).drew) g (.int .i64 0) (.slice none 0 0) (.int .i64 e) (.int .i64 ln) := by
      constructor <;> simp [go_sem, hs0, hs1, hs2, hs3, hf0, hf1, hf2, hf3]
    have bfin : Below g w ((((W.setCell ⟨g, 0, none⟩ (.int .i64 0)).setCell ⟨g, 1, none⟩ (.slice none 0 0)).setCell ⟨g + 1, 0, none⟩ (.int .i64 e)).setCell ⟨g + 2, 0, none⟩ (.int .i64 ln)).drew :=
      (((((bW.mono (show g ≤ n by omega)).setCell (p := ⟨g, 0, none⟩) (Nat.le_refl g) _).setCell (p := ⟨g, 1, none⟩) (show g ≤ g by omega) _).setCell (p := ⟨g + 1, 0, none⟩) (show g ≤ g + 1 by omega) _).setCell (p := ⟨g + 2, 0, none⟩) (show g ≤ g + 2 by omega) _).drew
    change bodyPostS Tryz.prog Tryz.f12 c₀ cs _ _ _ _ _
    cases c₀
    simp only [bodyPostS]
    exact ⟨trivial, _, rfl, .tuple #[], by kernel_rfl, rfl, rfl, fin, bfin⟩
end Go.Proofs.YtjlnhifleepnoaaGreatDoor
