import Derived.Test.YtphaeodcomgffaaGreatVC
set_option linter.unusedVariables false
set_option linter.unusedSimpArgs false
namespace Go.Proofs.YtphaeodcomgffaaGreat
open Go.RowKit

set_option maxRecDepth 100000 in
set_option maxHeartbeats 2000000 in
theorem newwrite_walk (ro : Nat → Nat) (a : Nat) (C : Cfg) (cell : Int) (version x y : Nat) (w : World) :
    Calls Tryz.prog 195 #[planV C, .int .i64 cell, .int .u64 version, .float .f64 x, .float .f64 y] w fun e w' => ∃ B ro', e = .returned (ptr B) ∧ Blk ro' a w' B (wbC C ⟨cell, fx x, version, fx y, 0⟩) 202 ∧ Mv ro [] w ro' w' := by
  have BW := bits_walk
  have S1 : ∀ W, Mv ro [] (w.alloc (.cells #[.int .i64 0, .int .i64 1, .int .i64 2, .int .i64 3, .int .i64 (3 + C.threads), .int .i64 (3 + C.threads + 3 * C.cells)] 38)) ro W → ∀ o, W.cell? ⟨w.heap.size, o, none⟩ = #[.int .i64 0, .int .i64 1, .int .i64 2, .int .i64 3, .int .i64 (3 + C.threads), .int .i64 (3 + C.threads + 3 * C.cells)][o]? := fun W mv o => cell_of_row _ _ _ _ _ _ ((mv.block _ (by simp) (by simp)).trans (heap_alloc_new w _))
  have HS := Lib.hid S1
  clear S1
  unfold planV
  go_enter Tryz.func195, Tryz.ntmps195
  go_wp2
  refine wp_region_noPanic ?_
  generalize hW1 : w.alloc (.cells #[.int .i64 0, .int .i64 1, .int .i64 2, .int .i64 3, .int .i64 (3 + C.threads), .int .i64 (3 + C.threads + 3 * C.cells)] 38) = w1 at *
  refine wp_region_held_drew (S := fun W => ∀ o, W.cell? ⟨w.heap.size, o, none⟩ = #[.int .i64 0, .int .i64 1, .int .i64 2, .int .i64 3, .int .i64 (3 + C.threads), .int .i64 (3 + C.threads + 3 * C.cells)][o]?) (by kernel_rfl) (HS.out _ (Mv.refl _ _ _).drew) (fun hHeld => ?_)
  refine' wpAnyH_take (i := 0) (v := _) rfl (by kernel_rfl) (by kernel_rfl) (by kernel_rfl) (fun _ _ _ h => h) (Or.inl ⟨by kernel_rfl, ?hy1⟩) (by assumption) ?rest1
  case hy1 => (intro w hSw; (try dsimp only at hSw); go_simp; try with_reducible rfl)
  try simp only [Act.put, List.getElem_toArray, List.getElem_cons_succ, List.getElem_cons_zero, List.setIfInBounds_toArray, List.set_cons_zero, List.set_cons_succ]
  refine' wpAnyH_take (i := 1) (v := _) rfl (by kernel_rfl) (by kernel_rfl) (by kernel_rfl) (fun _ _ _ h => h) (Or.inl ⟨by kernel_rfl, ?hy2⟩) (by assumption) ?rest2
  case hy2 => (intro w hSw; (try dsimp only at hSw); go_simp; try with_reducible rfl)
  try simp only [Act.put, List.getElem_toArray, List.getElem_cons_succ, List.getElem_cons_zero, List.setIfInBounds_toArray, List.set_cons_zero, List.set_cons_succ]
  refine' wpAnyH_take (i := 2) (v := _) rfl (by kernel_rfl) (by kernel_rfl) (by kernel_rfl) (fun _ _ _ h => h) (Or.inl ⟨by kernel_rfl, ?hy3⟩) (by assumption) ?rest3
  case hy3 => (intro w hSw; (try dsimp only at hSw); go_simp; try with_reducible rfl)
  try simp only [Act.put, List.getElem_toArray, List.getElem_cons_succ, List.getElem_cons_zero, List.setIfInBounds_toArray, List.set_cons_zero, List.set_cons_succ]
  refine' wpAnyH_take (i := 4) (v := _) rfl (by kernel_rfl) (by kernel_rfl) (by kernel_rfl) (fun _ _ _ h => h) (Or.inl ⟨by kernel_rfl, ?hy4⟩) (by assumption) ?rest4
  case hy4 => (intro w hSw; (try dsimp only at hSw); go_simp; try with_reducible rfl)
  try simp only [Act.put, List.getElem_toArray, List.getElem_cons_succ, List.getElem_cons_zero, List.setIfInBounds_toArray, List.set_cons_zero, List.set_cons_succ]
  refine' wpAnyH_take (i := 5) (v := _) rfl (by kernel_rfl) (by kernel_rfl) (by kernel_rfl) (fun _ _ _ h => h) (Or.inl ⟨by kernel_rfl, ?hy5⟩) (by assumption) ?rest5
  case hy5 => (intro w hSw; (try dsimp only at hSw); go_simp; try with_reducible rfl)
  try simp only [Act.put, List.getElem_toArray, List.getElem_cons_succ, List.getElem_cons_zero, List.setIfInBounds_toArray, List.set_cons_zero, List.set_cons_succ]
  refine wpAnyH_ready (rs := [3]) (by kernel_rfl) (by simp) ?_
  refine AllReadyH.cons rfl (fun K hK => ?_) ?_
  rotate_left
  · exact AllReadyH.nil
  go_simp
  go_at_call 221
  refine (BW _ _).mono ?_
  rintro e wA ⟨rfl, rfl⟩
  try dsimp only
  refine hK.out _ _ hHeld (fun hHeld => ?_)
  clear hK K
  refine wpAnyH_ready (rs := [6]) (by kernel_rfl) (by simp) ?_
  refine AllReadyH.cons rfl (fun K hK => ?_) ?_
  rotate_left
  · exact AllReadyH.nil
  go_simp
  go_at_call 221
  refine (BW _ _).mono ?_
  rintro e wA ⟨rfl, rfl⟩
  try dsimp only
  refine hK.out _ _ hHeld (fun hHeld => ?_)
  clear hK K
  refine' wpAnyH_take (i := 7) (v := _) rfl (by kernel_rfl) (by kernel_rfl) (by kernel_rfl) (fun _ _ _ h => h) (Or.inl ⟨by kernel_rfl, ?hy6⟩) (by assumption) ?rest6
  case hy6 => (intro w hSw; (try dsimp only at hSw); go_simp; try with_reducible rfl)
  try simp only [Act.put, List.getElem_toArray, List.getElem_cons_succ, List.getElem_cons_zero, List.setIfInBounds_toArray, List.set_cons_zero, List.set_cons_succ]
  refine' wpAnyH_take (i := 8) (v := _) rfl (by kernel_rfl) (by kernel_rfl) (by kernel_rfl) (fun _ _ _ h => h) (Or.inl ⟨by kernel_rfl, ?hy7⟩) (by assumption) ?rest7
  case hy7 => (intro w hSw; (try dsimp only at hSw); go_simp; try with_reducible rfl)
  try simp only [Act.put, List.getElem_toArray, List.getElem_cons_succ, List.getElem_cons_zero, List.setIfInBounds_toArray, List.set_cons_zero, List.set_cons_succ]
  refine wpAnyH_ready (rs := [9]) (by kernel_rfl) (by simp) ?_
  refine AllReadyH.cons rfl (fun K hK => ?_) ?_
  rotate_left
  · exact AllReadyH.nil
  go_simp
  try dsimp only
  refine hK.out _ _ (HS.out _ ((Mv.refl _ _ _).drew.alloc _)) (fun hHeld => ?_)
  clear hK K
  refine' wpAnyH_take (i := 10) (v := _) rfl (by kernel_rfl) (by kernel_rfl) (by kernel_rfl) (fun _ _ _ h => h) (Or.inl ⟨by kernel_rfl, ?hy8⟩) (by assumption) ?rest8
  case hy8 => (intro w hSw; (try dsimp only at hSw); go_simp; try with_reducible rfl)
  try simp only [Act.put, List.getElem_toArray, List.getElem_cons_succ, List.getElem_cons_zero, List.setIfInBounds_toArray, List.set_cons_zero, List.set_cons_succ]
  refine wpAnyH_done (by kernel_rfl) ?_ _
  refine NoPanic.normal ?_
  go_wp2
  go_ret
  have n1 : Mv ro [] w ro w1 := by rw [← hW1]; exact (Mv.refl _ _ _).alloc _
  exact ⟨w1.heap.size, setRo ro w1.heap.size a, rfl, (Blk.new ro a w1 _ _).keep ((Mv.refl _ [] _).drew) (by simp), n1.trans (((Mv.refl ro [] w1).alloc _).give (Nat.le_refl _)).drew⟩
/-- What a step of the writing leaves. -/
def Wbd (ro : Nat → Nat) (r a : Nat) (w : World) (C : Cfg) (B : Nat) (b : Wb) (MB : Nat) (v : Value) (words : List Nat) (cnt : Int) (done : Bool) (e : Ending) (w' : World) : Prop :=
  e = .returned (.tuple #[.bool done, .int .i64 0]) ∧ Blk ro a w' B (wbC C b) 202 ∧ MemIs ro r w' MB v words false (cnt + 1) ∧ Mv ro [a, r, r + 1] w ro w'
set_option maxRecDepth 100000 in
set_option maxHeartbeats 1000000 in
theorem cplace_walk (C : Cfg) (hC : C.ok) (cell k : Int) (h0 : 0 ≤ cell) (h1 : cell < C.cells) (k0 : 0 ≤ k) (k1 : k ≤ 2) (W : World) : Calls Tryz.prog 89 #[planV C, .int .i64 cell, .int .i64 k] W fun e w' => e = .returned (.tuple #[.int .i64 (3 + C.threads + 3 * cell + k), .int .i64 0]) ∧ Below W.heap.size W w' := by
  obtain ⟨a1, a2, a3, a4, _⟩ := hC
  have e1 : ¬ cell < 0 := by omega
  have e2 : ¬ 256 ≤ cell := by omega
  have e3 : ¬ 3 + C.threads < 0 := by omega
  have e4 : ¬ 4096 < 3 + C.threads := by omega
  unfold planV
  go_enter Tryz.func89, Tryz.ntmps89
  go_wp2
  go_ret2
  exact ⟨rfl, (Below.refl _ _).alloc (Nat.le_refl _) _⟩
set_option maxRecDepth 100000 in
set_option maxHeartbeats 2000000 in
theorem wstep_0 {ro : Nat → Nat} {r a : Nat} {w : World} {C : Cfg} {B MB : Nat} {cell : Int} {x0 x1 x2 : Nat} {v : Value} {words : List Nat} {cnt : Int} (hC : C.ok) (hb : Blk ro a w B (wbC C ⟨cell, x0, x1, x2, 0⟩) 202) (hm : MemIs ro r w MB v words true cnt) (ha : a < r ∨ r + 1 < a) (h0 : 0 ≤ cell) (h1 : cell < C.cells) (hl : (words.length : Int) = 3 + C.threads + 3 * C.cells) (c0 : 0 ≤ cnt) (c1 : cnt ≤ 1000000000) :
    Calls Tryz.prog 196 #[ptr B, ptr MB] w (Wbd ro r a w C B ⟨cell, x0, x1, x2, 1⟩ MB v (words.set (C.cellAt cell 2) x0) cnt false) := by
  obtain ⟨C1, C2, C3, C4, C5⟩ := id hC
  have ix : ∀ W : World, (Instr.index 274 (.agg #[.int .i64 2, .int .i64 0, .int .i64 1]) (.int .i64 0)).run Tryz.prog W = .ok (.int .i64 2) W := fun _ => by kernel_rfl
  have hc := hb.cell
  have hW : ∀ W, Mv ro [] w ro W → ∀ o, W.cell? ⟨B, o, none⟩ = (wbC C ⟨cell, x0, x1, x2, 0⟩)[o]? := fun W mv => (hb.keep mv (by simp)).cell
  have PW := fun W => cplace_walk C hC cell 2 h0 h1 (by decide) (by decide) W
  have LW : ∀ W, Mv ro [] w ro W → Calls Tryz.prog 107 #[ptr MB, .int .i64 (3 + C.threads + 3 * cell + 2), .int .u64 x0] W fun e w' => e = .returned (.int .i64 0) ∧ MemIs ro r w' MB v (words.set (C.cellAt cell 2) x0) false (cnt + 1) ∧ Mv ro [r, r + 1] W ro w' := fun W mv => by
    have := store_ok (hm.keep mv (by simp) (by simp)) (C.cellAt cell 2) x0 (by unfold Cfg.cellAt; omega) (by omega) c0 c1
    rwa [show ((C.cellAt cell 2 : Nat) : Int) = 3 + C.threads + 3 * cell + 2 by unfold Cfg.cellAt; omega] at this
  have HB := Lib.hid hb
  have HM := Lib.hid hm
  generalize words.set (C.cellAt cell 2) x0 = words' at *
  unfold wbC at hc hW
  unfold planV at PW
  simp only [ptr] at LW ⊢
  try simp only [Int.add_zero] at LW
  clear hb hm
  go_enter Tryz.func196, Tryz.ntmps196
  go_wp2
  refine wp_region_noPanic ?_
  go_region_law (go_simp; go_at_call 89; refine (PW _).mono ?_; rintro e w1 ⟨rfl, b1⟩; have m1 := ((Mv.refl ro [] w).drew).then_below b1; have hc1 := hW _ m1)
  all_goals
    refine NoPanic.normal ?_
    go_wp2
    refine wp_region_noPanic ?_
    go_region_law (go_simp; go_at_call 107; refine (LW _ m1.drew).mono ?_; rintro e w2 ⟨rfl, q2, m2⟩; have b2 := (HB.out.keep m1.drew (by simp)).keep m2 (by simp; omega); have hc2 := b2.cell; have hf2 := b2.free; unfold wbC at hc2)
    all_goals
      refine NoPanic.normal ?_
      go_wp2
      go_ret2
      have hB : ro B ∈ [a] := by rw [b2.role]; simp
      have mB : Mv ro [a] w2 ro (w2.setCell ⟨B, 10, none⟩ (.int .i64 1)) := (Mv.refl _ _ _).setCell hB _
      exact ⟨rfl, b2.put (i := 10) rfl, q2.keep mB (by simp; omega) (by simp; omega), ((m1.drew.mono (by simp)).trans (m2.mono (by simp))).trans (mB.mono (by simp))⟩
set_option maxRecDepth 100000 in
set_option maxHeartbeats 2000000 in
theorem wstep_1 {ro : Nat → Nat} {r a : Nat} {w : World} {C : Cfg} {B MB : Nat} {cell : Int} {x0 x1 x2 : Nat} {v : Value} {words : List Nat} {cnt : Int} (hC : C.ok) (hb : Blk ro a w B (wbC C ⟨cell, x0, x1, x2, 1⟩) 202) (hm : MemIs ro r w MB v words true cnt) (ha : a < r ∨ r + 1 < a) (h0 : 0 ≤ cell) (h1 : cell < C.cells) (hl : (words.length : Int) = 3 + C.threads + 3 * C.cells) (c0 : 0 ≤ cnt) (c1 : cnt ≤ 1000000000) :
    Calls Tryz.prog 196 #[ptr B, ptr MB] w (Wbd ro r a w C B ⟨cell, x0, x1, x2, 2⟩ MB v (words.set (C.cellAt cell 0) x1) cnt false) := by
  obtain ⟨C1, C2, C3, C4, C5⟩ := id hC
  have ix : ∀ W : World, (Instr.index 274 (.agg #[.int .i64 2, .int .i64 0, .int .i64 1]) (.int .i64 1)).run Tryz.prog W = .ok (.int .i64 0) W := fun _ => by kernel_rfl
  have hc := hb.cell
  have hW : ∀ W, Mv ro [] w ro W → ∀ o, W.cell? ⟨B, o, none⟩ = (wbC C ⟨cell, x0, x1, x2, 1⟩)[o]? := fun W mv => (hb.keep mv (by simp)).cell
  have PW := fun W => cplace_walk C hC cell 0 h0 h1 (by decide) (by decide) W
  have LW : ∀ W, Mv ro [] w ro W → Calls Tryz.prog 107 #[ptr MB, .int .i64 (3 + C.threads + 3 * cell + 0), .int .u64 x1] W fun e w' => e = .returned (.int .i64 0) ∧ MemIs ro r w' MB v (words.set (C.cellAt cell 0) x1) false (cnt + 1) ∧ Mv ro [r, r + 1] W ro w' := fun W mv => by
    have := store_ok (hm.keep mv (by simp) (by simp)) (C.cellAt cell 0) x1 (by unfold Cfg.cellAt; omega) (by omega) c0 c1
    rwa [show ((C.cellAt cell 0 : Nat) : Int) = 3 + C.threads + 3 * cell + 0 by unfold Cfg.cellAt; omega] at this
  have HB := Lib.hid hb
  have HM := Lib.hid hm
  generalize words.set (C.cellAt cell 0) x1 = words' at *
  unfold wbC at hc hW
  unfold planV at PW
  simp only [ptr] at LW ⊢
  try simp only [Int.add_zero] at LW
  clear hb hm
  go_enter Tryz.func196, Tryz.ntmps196
  go_wp2
  refine wp_region_noPanic ?_
  go_region_law (go_simp; go_at_call 89; refine (PW _).mono ?_; rintro e w1 ⟨rfl, b1⟩; have m1 := ((Mv.refl ro [] w).drew).then_below b1; have hc1 := hW _ m1)
  all_goals
    refine NoPanic.normal ?_
    go_wp2
    refine wp_region_noPanic ?_
    go_region_law (go_simp; go_at_call 107; refine (LW _ m1.drew).mono ?_; rintro e w2 ⟨rfl, q2, m2⟩; have b2 := (HB.out.keep m1.drew (by simp)).keep m2 (by simp; omega); have hc2 := b2.cell; have hf2 := b2.free; unfold wbC at hc2)
    all_goals
      refine NoPanic.normal ?_
      go_wp2
      go_ret2
      have hB : ro B ∈ [a] := by rw [b2.role]; simp
      have mB : Mv ro [a] w2 ro (w2.setCell ⟨B, 10, none⟩ (.int .i64 2)) := (Mv.refl _ _ _).setCell hB _
      exact ⟨rfl, b2.put (i := 10) rfl, q2.keep mB (by simp; omega) (by simp; omega), ((m1.drew.mono (by simp)).trans (m2.mono (by simp))).trans (mB.mono (by simp))⟩
set_option maxRecDepth 100000 in
set_option maxHeartbeats 2000000 in
theorem wstep_2 {ro : Nat → Nat} {r a : Nat} {w : World} {C : Cfg} {B MB : Nat} {cell : Int} {x0 x1 x2 : Nat} {v : Value} {words : List Nat} {cnt : Int} (hC : C.ok) (hb : Blk ro a w B (wbC C ⟨cell, x0, x1, x2, 2⟩) 202) (hm : MemIs ro r w MB v words true cnt) (ha : a < r ∨ r + 1 < a) (h0 : 0 ≤ cell) (h1 : cell < C.cells) (hl : (words.length : Int) = 3 + C.threads + 3 * C.cells) (c0 : 0 ≤ cnt) (c1 : cnt ≤ 1000000000) :
    Calls Tryz.prog 196 #[ptr B, ptr MB] w (Wbd ro r a w C B ⟨cell, x0, x1, x2, 3⟩ MB v (words.set (C.cellAt cell 1) x2) cnt true) := by
  obtain ⟨C1, C2, C3, C4, C5⟩ := id hC
  have ix : ∀ W : World, (Instr.index 274 (.agg #[.int .i64 2, .int .i64 0, .int .i64 1]) (.int .i64 2)).run Tryz.prog W = .ok (.int .i64 1) W := fun _ => by kernel_rfl
  have hc := hb.cell
  have hW : ∀ W, Mv ro [] w ro W → ∀ o, W.cell? ⟨B, o, none⟩ = (wbC C ⟨cell, x0, x1, x2, 2⟩)[o]? := fun W mv => (hb.keep mv (by simp)).cell
  have PW := fun W => cplace_walk C hC cell 1 h0 h1 (by decide) (by decide) W
  have LW : ∀ W, Mv ro [] w ro W → Calls Tryz.prog 107 #[ptr MB, .int .i64 (3 + C.threads + 3 * cell + 1), .int .u64 x2] W fun e w' => e = .returned (.int .i64 0) ∧ MemIs ro r w' MB v (words.set (C.cellAt cell 1) x2) false (cnt + 1) ∧ Mv ro [r, r + 1] W ro w' := fun W mv => by
    have := store_ok (hm.keep mv (by simp) (by simp)) (C.cellAt cell 1) x2 (by unfold Cfg.cellAt; omega) (by omega) c0 c1
    rwa [show ((C.cellAt cell 1 : Nat) : Int) = 3 + C.threads + 3 * cell + 1 by unfold Cfg.cellAt; omega] at this
  have HB := Lib.hid hb
  have HM := Lib.hid hm
  generalize words.set (C.cellAt cell 1) x2 = words' at *
  unfold wbC at hc hW
  unfold planV at PW
  simp only [ptr] at LW ⊢
  try simp only [Int.add_zero] at LW
  clear hb hm
  go_enter Tryz.func196, Tryz.ntmps196
  go_wp2
  refine wp_region_noPanic ?_
  go_region_law (go_simp; go_at_call 89; refine (PW _).mono ?_; rintro e w1 ⟨rfl, b1⟩; have m1 := ((Mv.refl ro [] w).drew).then_below b1; have hc1 := hW _ m1)
  all_goals
    refine NoPanic.normal ?_
    go_wp2
    refine wp_region_noPanic ?_
    go_region_law (go_simp; go_at_call 107; refine (LW _ m1.drew).mono ?_; rintro e w2 ⟨rfl, q2, m2⟩; have b2 := (HB.out.keep m1.drew (by simp)).keep m2 (by simp; omega); have hc2 := b2.cell; have hf2 := b2.free; unfold wbC at hc2)
    all_goals
      refine NoPanic.normal ?_
      go_wp2
      go_ret2
      have hB : ro B ∈ [a] := by rw [b2.role]; simp
      have mB : Mv ro [a] w2 ro (w2.setCell ⟨B, 10, none⟩ (.int .i64 3)) := (Mv.refl _ _ _).setCell hB _
      exact ⟨rfl, b2.put (i := 10) rfl, q2.keep mB (by simp; omega) (by simp; omega), ((m1.drew.mono (by simp)).trans (m2.mono (by simp))).trans (mB.mono (by simp))⟩
end Go.Proofs.YtphaeodcomgffaaGreat
set_option linter.unusedVariables false
set_option linter.unusedSimpArgs false
namespace Go.Proofs.YtphaeodcomgffaaGreat
open Go.RowKit

/-! The program's writer in memory; its parts that make one access. -/
/-- What does the next step. -/
def wnext (p : Int) : Value :=
  if p = 1 then .func (.func 148) #[] #[] else if p = 2 then .func (.func 149) #[] #[] else if p = 3 then .func (.func 150) #[] #[] else if p = 4 then .func (.func 151) #[] #[]
  else if p = 5 then .func (.func 152) #[] #[] else if p = 6 then .func (.func 153) #[] #[] else if p = 7 then .func (.func 154) #[] #[] else if p = 8 then .func (.func 155) #[] #[] else .nilFunc
theorem run_store_fn (a : Addr) (fn : Fn) (x y : Array Value) (w : World) : (store a (.func fn x y)).run Tryz.prog w = stored Tryz.prog w a (.func fn x y) .plain := run_store Tryz.prog w a _ _ rfl
theorem run_store_nilfn (a : Addr) (w : World) : (store a .nilFunc).run Tryz.prog w = stored Tryz.prog w a .nilFunc .plain := run_store Tryz.prog w a _ _ rfl
structure Wp where
  M : Nat
  SB : Nat
  BB : Nat
  va : Value
  vw : Value
  p : Mp
def wcells (C : Cfg) (tag : Int) (s : Wr) (q : Wp) : Array Value :=
  #[wnext s.part, .int .i64 0, .int .i64 1, .int .i64 2, .int .i64 3, .int .i64 (3 + C.threads), .int .i64 (3 + C.threads + 3 * C.cells), ptr q.M, .int .i64 C.threads, .int .i64 tag, q.va, .int .i64 s.part, .int .i64 s.steps, .int .u64 s.ticket, .int .u64 s.stamp, .int .i64 s.number, q.vw, if s.scan.isSome then ptr q.SB else .pointer none, if s.back.isSome then ptr q.BB else .pointer none, .int .i64 s.written]
/-- Block X is a writer that stands at s. -/
structure WIs (ro : Nat → Nat) (r : Nat) (w : World) (X : Nat) (C : Cfg) (tag : Int) (code : List Ins) (args : List Nat) (s : Wr) (q : Wp) : Prop where
  blk : Blk ro (r + 20) w X (wcells C tag s q) 152
  mach : MIs ro r w q.M C tag code s.m q.p
  scan : ∀ g, s.scan = some g → Blk ro (r + 21) w q.SB (scanC C s.stamp g.1 g.2) 199
  back : ∀ b, s.back = some b → Blk ro (r + 22) w q.BB (wbC C b) 202
  args : OwnL cF ro (r + 23) w 74 1 q.va (args.map fx)
  was : OwnL cF ro (r + 24) w 74 1 q.vw s.was
def wR (r : Nat) : List Nat := [r, r + 1, r + 2, r + 3, r + 4, r + 5, r + 6, r + 7, r + 8, r + 9, r + 10, r + 11, r + 12, r + 13, r + 14, r + 15, r + 20, r + 21, r + 22, r + 24]
theorem WIs.keep {ro ro' : Nat → Nat} {r : Nat} {w w' : World} {X C tag code args s q R} (h : WIs ro r w X C tag code args s q) (mv : Mv ro R w ro' w') (hR : ∀ x ∈ R, x < r ∨ r + 24 < x) : WIs ro' r w' X C tag code args s q := by
  have k : ∀ i, i ≤ 24 → r + i ∉ R := fun i hi hx => by have := hR _ hx; omega
  exact ⟨h.blk.keep mv (k 20 (by omega)), h.mach.keep mv fun x hx => by have := hR x hx; omega, fun g hg => (h.scan g hg).keep mv (k 21 (by omega)), fun g hg => (h.back g hg).keep mv (k 22 (by omega)), h.args.keep mv (k 23 (by omega)), h.was.keep mv (k 24 (by omega))⟩
/-- Only the writer's own cells turned. -/
theorem WIs.cells {ro : Nat → Nat} {r : Nat} {w w' : World} {X C tag code args s s' q} (h : WIs ro r w X C tag code args s q) (mv : Mv ro [r + 20] w ro w') (hb : Blk ro (r + 20) w' X (wcells C tag s' q) 152) (hm : s'.m = s.m) (hs : ∀ g, s'.scan = some g → s.scan = some g ∧ s'.stamp = s.stamp) (hk : ∀ g, s'.back = some g → s.back = some g) (hw : s'.was = s.was) : WIs ro r w' X C tag code args s' q :=
  ⟨hb, by rw [hm]; exact h.mach.keep mv (by simp), fun g hg => by obtain ⟨a, b⟩ := hs g hg; rw [b]; exact (h.scan g a).keep mv (by simp), fun g hg => (h.back g (hk g hg)).keep mv (by simp), h.args.keep mv (by simp), by rw [hw]; exact h.was.keep mv (by simp)⟩
/-- What a step of the writer leaves: the writer, the words. -/
def WrP (ro : Nat → Nat) (r rm : Nat) (w : World) (X : Nat) (C : Cfg) (tag : Int) (code : List Ins) (args : List Nat) (s : Wr) (MB : Nat) (v : Value) (words : List Nat) (op : Bool) (cnt : Int) (val : Value) (e : Ending) (w' : World) : Prop :=
  e = .returned val ∧ ∃ ro' q', WIs ro' r w' X C tag code args s q' ∧ MemIs ro' rm w' MB v words op cnt ∧ Mv ro (rm :: (rm + 1) :: wR r) w ro' w'
set_option maxRecDepth 100000 in
set_option maxHeartbeats 1000000 in
theorem goes_fn {ro : Nat → Nat} {a : Nat} {w : World} {X : Nat} {v0 v1 v2 v3 v4 v5 v6 v7 v8 v9 v10 v11 v12 v13 v14 v15 v16 v17 v18 v19 : Value} (h : Blk ro a w X #[v0, v1, v2, v3, v4, v5, v6, v7, v8, v9, v10, v11, v12, v13, v14, v15, v16, v17, v18, v19] 152) (p : Int) (fn : Nat) (ix : ∀ W : World, (Instr.index 227 (.agg #[.nilFunc, .func (.func 148) #[] #[], .func (.func 149) #[] #[], .func (.func 150) #[] #[], .func (.func 151) #[] #[], .func (.func 152) #[] #[], .func (.func 153) #[] #[], .func (.func 154) #[] #[], .func (.func 155) #[] #[], .nilFunc]) (.int .i64 p)).run Tryz.prog W = .ok (.func (.func fn) #[] #[]) W) :
    Calls Tryz.prog 117 #[ptr X, .int .i64 p] w fun e w' => e = .returned (.tuple #[]) ∧ Blk ro a w' X #[.func (.func fn) #[] #[], v1, v2, v3, v4, v5, v6, v7, v8, v9, v10, .int .i64 p, v12, v13, v14, v15, v16, v17, v18, v19] 152 ∧ Mv ro [a] w ro w' := by
  have hc := h.cell
  have hf := h.free
  have H := Lib.hid h
  have sf := run_store_fn
  have sn := run_store_nilfn
  simp only [ptr]
  clear h
  go_enter Tryz.func117, Tryz.ntmps117
  go_wp2
  go_end0
  have hX : ro X ∈ [a] := by rw [H.out.role]; simp
  exact ⟨rfl, (H.out.put (i := 11) rfl).put (i := 0) rfl, ((Mv.refl _ _ _).setCell hX _).setCell hX _⟩
set_option maxRecDepth 100000 in
set_option maxHeartbeats 1000000 in
theorem goes_nil {ro : Nat → Nat} {a : Nat} {w : World} {X : Nat} {v0 v1 v2 v3 v4 v5 v6 v7 v8 v9 v10 v11 v12 v13 v14 v15 v16 v17 v18 v19 : Value} (h : Blk ro a w X #[v0, v1, v2, v3, v4, v5, v6, v7, v8, v9, v10, v11, v12, v13, v14, v15, v16, v17, v18, v19] 152) (p : Int) (ix : ∀ W : World, (Instr.index 227 (.agg #[.nilFunc, .func (.func 148) #[] #[], .func (.func 149) #[] #[], .func (.func 150) #[] #[], .func (.func 151) #[] #[], .func (.func 152) #[] #[], .func (.func 153) #[] #[], .func (.func 154) #[] #[], .func (.func 155) #[] #[], .nilFunc]) (.int .i64 p)).run Tryz.prog W = .ok (.nilFunc) W) :
    Calls Tryz.prog 117 #[ptr X, .int .i64 p] w fun e w' => e = .returned (.tuple #[]) ∧ Blk ro a w' X #[.nilFunc, v1, v2, v3, v4, v5, v6, v7, v8, v9, v10, .int .i64 p, v12, v13, v14, v15, v16, v17, v18, v19] 152 ∧ Mv ro [a] w ro w' := by
  have hc := h.cell
  have hf := h.free
  have H := Lib.hid h
  have sf := run_store_fn
  have sn := run_store_nilfn
  simp only [ptr]
  clear h
  go_enter Tryz.func117, Tryz.ntmps117
  go_wp2
  go_end0
  have hX : ro X ∈ [a] := by rw [H.out.role]; simp
  exact ⟨rfl, (H.out.put (i := 11) rfl).put (i := 0) rfl, ((Mv.refl _ _ _).setCell hX _).setCell hX _⟩
theorem goes_walk {ro : Nat → Nat} {a : Nat} {w : World} {X : Nat} {v0 v1 v2 v3 v4 v5 v6 v7 v8 v9 v10 v11 v12 v13 v14 v15 v16 v17 v18 v19 : Value} (h : Blk ro a w X #[v0, v1, v2, v3, v4, v5, v6, v7, v8, v9, v10, v11, v12, v13, v14, v15, v16, v17, v18, v19] 152) (p : Int) (hp : p = 1 ∨ p = 2 ∨ p = 3 ∨ p = 4 ∨ p = 5 ∨ p = 6 ∨ p = 7 ∨ p = 8 ∨ p = 9) :
    Calls Tryz.prog 117 #[ptr X, .int .i64 p] w fun e w' => e = .returned (.tuple #[]) ∧ Blk ro a w' X #[wnext p, v1, v2, v3, v4, v5, v6, v7, v8, v9, v10, .int .i64 p, v12, v13, v14, v15, v16, v17, v18, v19] 152 ∧ Mv ro [a] w ro w' := by
  rcases hp with rfl | rfl | rfl | rfl | rfl | rfl | rfl | rfl | rfl
  · exact goes_fn h 1 148 (fun _ => by kernel_rfl)
  · exact goes_fn h 2 149 (fun _ => by kernel_rfl)
  · exact goes_fn h 3 150 (fun _ => by kernel_rfl)
  · exact goes_fn h 4 151 (fun _ => by kernel_rfl)
  · exact goes_fn h 5 152 (fun _ => by kernel_rfl)
  · exact goes_fn h 6 153 (fun _ => by kernel_rfl)
  · exact goes_fn h 7 154 (fun _ => by kernel_rfl)
  · exact goes_fn h 8 155 (fun _ => by kernel_rfl)
  · exact goes_nil h 9 (fun _ => by kernel_rfl)
set_option maxRecDepth 100000 in
set_option maxHeartbeats 2000000 in
theorem draws_walk {ro : Nat → Nat} {r rm : Nat} {w : World} {X : Nat} {C : Cfg} {tag : Int} {code : List Ins} {args : List Nat} {s : Wr} {q : Wp} {MB : Nat} {v : Value} {words : List Nat} {cnt : Int} (h : WIs ro r w X C tag code args s q) (hm : MemIs ro rm w MB v words true cnt) (hrm : rm + 1 < r ∨ r + 31 < rm) (hl : 3 ≤ words.length) (hl2 : words.length ≤ 4096) (c0 : 0 ≤ cnt) (c1 : cnt ≤ 1000000000) :
    Calls Tryz.prog 148 #[ptr X, ptr MB] w (WrP ro r rm w X C tag code args ({ s with ticket := words.getD 0 0, part := 2 } : Wr) MB v (words.set 0 (inc64 (words.getD 0 0))) false (cnt + 1) (.tuple #[])) := by
  have hc := h.blk.cell
  have AW : ∀ W, Mv ro [] w ro W → Calls Tryz.prog 189 #[ptr MB, planV C] W (StP ro rm W MB v (words.set 0 (inc64 (words.getD 0 0))) cnt (.tuple #[.int .u64 (words.getD 0 0), .int .i64 0])) := fun W mv => draw_walk (hm.keep mv (by simp) (by simp)) hl hl2 c0 c1
  unfold StP at AW
  generalize words.set 0 (inc64 (words.getD 0 0)) = words' at *
  generalize words.getD 0 0 = y at *
  have GW := fun ro' W (b : Blk ro' (r + 20) W X (wcells C tag ({ s with ticket := y } : Wr) q) 152) => goes_walk b 2 (by decide)
  unfold planV at AW
  unfold wcells at hc GW
  simp only [ptr] at hc AW GW ⊢
  have H := Lib.hid h
  clear h hm
  go_enter Tryz.func148, Tryz.ntmps148
  go_wp2_with (first
    | (go_at_call 189; refine (AW _ (Mv.refl _ _ _)).mono ?_; rintro e w2 ⟨rfl, q2, m2⟩; have m2d := m2; have x2 := H.out.keep m2d (by intro x hx; simp at hx; omega); have hc2 := x2.blk.cell; have hf2 := x2.blk.free; unfold wcells at hc2; simp only [ptr] at hc2)
    | (go_at_call 117; refine (GW ro _ (x2.blk.put (i := 13) rfl)).mono ?_; rintro e w3 ⟨rfl, x4, m4⟩))
  go_end0
  have mX : Mv ro [r + 20] w2 ro w3 := ((Mv.refl ro [r + 20] w2).setCell (p := ⟨X, 13, none⟩) (by rw [x2.blk.role]; simp) _).trans m4
  exact ⟨rfl, ro, q, x2.cells mX x4 rfl (fun g hg => ⟨hg, rfl⟩) (fun g hg => hg) rfl, q2.keep mX (by simp; omega) (by simp; omega), (m2d.mono (by simp)).trans (mX.mono (by simp [wR]))⟩
set_option maxRecDepth 100000 in
set_option maxHeartbeats 2000000 in
theorem marks_walk {ro : Nat → Nat} {r rm : Nat} {w : World} {X : Nat} {C : Cfg} {tag : Int} {code : List Ins} {args : List Nat} {s : Wr} {q : Wp} {MB : Nat} {v : Value} {words : List Nat} {cnt : Int} (h : WIs ro r w X C tag code args s q) (hm : MemIs ro rm w MB v words true cnt) (hrm : rm + 1 < r ∨ r + 31 < rm) (hl : 3 ≤ words.length) (hl2 : words.length ≤ 4096) (c0 : 0 ≤ cnt) (c1 : cnt ≤ 1000000000) (hs : s.scan = none) :
    Calls Tryz.prog 150 #[ptr X, ptr MB] w (WrP ro r rm w X C tag code args ({ s with stamp := words.getD 2 0, part := 4 } : Wr) MB v words false (cnt + 1) (.tuple #[])) := by
  have hc := h.blk.cell
  have AW : ∀ W, Mv ro [] w ro W → Calls Tryz.prog 191 #[ptr MB, planV C] W (LdP ro rm W MB v words cnt (.tuple #[.int .u64 (words.getD 2 0), .int .i64 0])) := fun W mv => cstamp_walk (hm.keep mv (by simp) (by simp)) hl hl2 c0 c1
  unfold LdP at AW
  generalize words.getD 2 0 = y at *
  have GW := fun ro' W (b : Blk ro' (r + 20) W X (wcells C tag ({ s with stamp := y } : Wr) q) 152) => goes_walk b 4 (by decide)
  unfold planV at AW
  unfold wcells at hc GW
  simp only [ptr] at hc AW GW ⊢
  have H := Lib.hid h
  clear h hm
  go_enter Tryz.func150, Tryz.ntmps150
  go_wp2_with (first
    | (go_at_call 191; refine (AW _ (Mv.refl _ _ _)).mono ?_; rintro e w2 ⟨rfl, q2, m2⟩; have m2d := m2; have x2 := H.out.keep m2d (by intro x hx; simp at hx; omega); have hc2 := x2.blk.cell; have hf2 := x2.blk.free; unfold wcells at hc2; simp only [ptr] at hc2)
    | (go_at_call 117; refine (GW ro _ (x2.blk.put (i := 14) rfl)).mono ?_; rintro e w3 ⟨rfl, x4, m4⟩))
  go_end0
  have mX : Mv ro [r + 20] w2 ro w3 := ((Mv.refl ro [r + 20] w2).setCell (p := ⟨X, 14, none⟩) (by rw [x2.blk.role]; simp) _).trans m4
  exact ⟨rfl, ro, q, x2.cells mX x4 rfl (fun g hg => by have hg2 : s.scan = some g := hg; rw [hs] at hg2; cases hg2) (fun g hg => hg) rfl, q2.keep mX (by simp; omega) (by simp; omega), (m2d.mono (by simp)).trans (mX.mono (by simp [wR]))⟩
set_option maxRecDepth 100000 in
set_option maxHeartbeats 2000000 in
theorem passes_walk {ro : Nat → Nat} {r rm : Nat} {w : World} {X : Nat} {C : Cfg} {tag : Int} {code : List Ins} {args : List Nat} {s : Wr} {q : Wp} {MB : Nat} {v : Value} {words : List Nat} {cnt : Int} (h : WIs ro r w X C tag code args s q) (hm : MemIs ro rm w MB v words true cnt) (hrm : rm + 1 < r ∨ r + 31 < rm) (hl : 3 ≤ words.length) (hl2 : words.length ≤ 4096) (c0 : 0 ≤ cnt) (c1 : cnt ≤ 1000000000) :
    Calls Tryz.prog 155 #[ptr X, ptr MB] w (WrP ro r rm w X C tag code args ({ s with part := 9 } : Wr) MB v (words.set 1 (inc64 s.ticket)) false (cnt + 1) (.tuple #[])) := by
  have hc := h.blk.cell
  have AW : ∀ W, Mv ro [] w ro W → Calls Tryz.prog 198 #[ptr MB, planV C, .int .u64 s.ticket] W (StP ro rm W MB v (words.set 1 (inc64 s.ticket)) cnt (.int .i64 0)) := fun W mv => pass_walk s.ticket (hm.keep mv (by simp) (by simp)) hl hl2 c0 c1
  unfold StP at AW
  generalize words.set 1 (inc64 s.ticket) = words' at *
  have GW := fun ro' W (b : Blk ro' (r + 20) W X (wcells C tag s q) 152) => goes_walk b 9 (by decide)
  unfold planV at AW
  unfold wcells at hc GW
  simp only [ptr] at hc AW GW ⊢
  have H := Lib.hid h
  clear h hm
  go_enter Tryz.func155, Tryz.ntmps155
  go_wp2
  refine wp_region_noPanic ?_
  go_region_law (go_simp; (go_at_call 198; refine (AW _ (Mv.refl _ _ _).drew).mono ?_; rintro e w2 ⟨rfl, q2, m2⟩; have m2d := (Mv.refl ro [] w).drew.mono (by simp) |>.trans m2; have x2 := H.out.keep m2d (by intro x hx; simp at hx; omega); have hc2 := x2.blk.cell; have hf2 := x2.blk.free; unfold wcells at hc2; simp only [ptr] at hc2))
  all_goals
    refine NoPanic.normal ?_
    go_wp2_with (go_at_call 117; refine (GW ro _ (x2.blk)).mono ?_; rintro e w3 ⟨rfl, x4, m4⟩)
    go_end0
    have mX : Mv ro [r + 20] w2 ro w3 := (Mv.refl ro [r + 20] w2).trans m4
    exact ⟨rfl, ro, q, x2.cells mX x4 rfl (fun g hg => ⟨hg, rfl⟩) (fun g hg => hg) rfl, q2.keep mX (by simp; omega) (by simp; omega), (m2d.mono (by simp)).trans (mX.mono (by simp [wR]))⟩
set_option maxRecDepth 100000 in
set_option maxHeartbeats 2000000 in
theorem publishes_walk {ro : Nat → Nat} {r rm : Nat} {w : World} {X : Nat} {C : Cfg} {tag : Int} {code : List Ins} {args : List Nat} {s : Wr} {q : Wp} {MB : Nat} {v : Value} {words : List Nat} {cnt : Int} (h : WIs ro r w X C tag code args s q) (hm : MemIs ro rm w MB v words true cnt) (hrm : rm + 1 < r ∨ r + 31 < rm) (hl : 3 ≤ words.length) (hl2 : words.length ≤ 4096) (c0 : 0 ≤ cnt) (c1 : cnt ≤ 1000000000) :
    Calls Tryz.prog 154 #[ptr X, ptr MB] w (WrP ro r rm w X C tag code args ({ s with number := IntKind.i64.wrap (inc64 s.stamp), part := 8 } : Wr) MB v (words.set 2 (inc64 s.stamp)) false (cnt + 1) (.tuple #[])) := by
  have hc := h.blk.cell
  have AW : ∀ W, Mv ro [] w ro W → Calls Tryz.prog 197 #[ptr MB, planV C, .int .u64 (inc64 s.stamp)] W (StP ro rm W MB v (words.set 2 (inc64 s.stamp)) cnt (.int .i64 0)) := fun W mv => publish_walk (inc64 s.stamp) (hm.keep mv (by simp) (by simp)) hl hl2 c0 c1
  unfold StP at AW
  have eu : IntKind.u64.wrap ((s.stamp : Int) + 1) = ((inc64 s.stamp : Nat) : Int) := by rw [wrapU]; unfold inc64; omega
  generalize words.set 2 (inc64 s.stamp) = words' at *
  generalize inc64 s.stamp = y at *
  rw [IntWalk.i64_left]
  have GW := fun ro' W (b : Blk ro' (r + 20) W X (wcells C tag ({ s with number := wrap64 y } : Wr) q) 152) => goes_walk b 8 (by decide)
  unfold planV at AW
  unfold wcells at hc GW
  simp only [ptr] at hc AW GW ⊢
  have H := Lib.hid h
  clear h hm
  go_enter Tryz.func154, Tryz.ntmps154
  go_wp2
  refine wp_region_noPanic ?_
  go_region_law (go_simp; (go_at_call 197; refine (AW _ (Mv.refl _ _ _).drew).mono ?_; rintro e w2 ⟨rfl, q2, m2⟩; have m2d := (Mv.refl ro [] w).drew.mono (by simp) |>.trans m2; have x2 := H.out.keep m2d (by intro x hx; simp at hx; omega); have hc2 := x2.blk.cell; have hf2 := x2.blk.free; unfold wcells at hc2; simp only [ptr] at hc2))
  all_goals
    refine NoPanic.normal ?_
    go_wp2_with (go_at_call 117; refine (GW ro _ (x2.blk.put (i := 15) rfl)).mono ?_; rintro e w3 ⟨rfl, x4, m4⟩)
    go_end0
    have mX : Mv ro [r + 20] w2 ro w3 := ((Mv.refl ro [r + 20] w2).setCell (p := ⟨X, 15, none⟩) (by rw [x2.blk.role]; simp) _).trans m4
    exact ⟨rfl, ro, q, x2.cells mX x4 rfl (fun g hg => ⟨hg, rfl⟩) (fun g hg => hg) rfl, q2.keep mX (by simp; omega) (by simp; omega), (m2d.mono (by simp)).trans (mX.mono (by simp [wR]))⟩
end Go.Proofs.YtphaeodcomgffaaGreat
set_option linter.unusedVariables false
set_option linter.unusedSimpArgs false
namespace Go.Proofs.YtphaeodcomgffaaGreat
open Go.RowKit

/-! The writer: it waits for its turn; it looks at the census. -/
set_option maxRecDepth 100000 in
set_option maxHeartbeats 2000000 in
theorem waits_walk {ro : Nat → Nat} {r rm : Nat} {w : World} {X : Nat} {C : Cfg} {tag : Int} {code : List Ins} {args : List Nat} {s : Wr} {q : Wp} {MB : Nat} {v : Value} {words : List Nat} {cnt : Int} (h : WIs ro r w X C tag code args s q) (hm : MemIs ro rm w MB v words true cnt) (hrm : rm + 1 < r ∨ r + 31 < rm) (hl : 3 ≤ words.length) (hl2 : words.length ≤ 4096) (c0 : 0 ≤ cnt) (c1 : cnt ≤ 1000000000) (hp : s.part = 2) :
    Calls Tryz.prog 149 #[ptr X, ptr MB] w (WrP ro r rm w X C tag code args ({ s with part := if words.getD 1 0 = s.ticket then 3 else 2 } : Wr) MB v words false (cnt + 1) (.tuple #[])) := by
  have hc := h.blk.cell
  have GW := fun ro' W (b : Blk ro' (r + 20) W X (wcells C tag s q) 152) => goes_walk b 3 (by decide)
  unfold wcells at hc GW
  by_cases ht : words.getD 1 0 = s.ticket
  · rw [if_pos ht]
    have AW : ∀ W, Mv ro [] w ro W → Calls Tryz.prog 190 #[ptr MB, planV C, .int .u64 s.ticket] W fun e w' => e = .returned (.tuple #[.bool true, .int .i64 0]) ∧ ∃ ro', MemIs ro' rm w' MB v words false (cnt + 1) ∧ Mv ro [rm] W ro' w' := fun W mv => look_walk s.ticket true (by simpa using ht) (hm.keep mv (by simp) (by simp)) hl hl2 c0 c1
    unfold planV at AW
    simp only [ptr] at hc AW GW ⊢
    have H := Lib.hid h
    clear h hm ht
    go_enter Tryz.func149, Tryz.ntmps149
    go_wp2
    refine wp_region_noPanic ?_
    go_region_law (go_simp; go_at_call 190; refine (AW _ (Mv.refl ro [] w).drew).mono ?_; rintro e w2 ⟨rfl, ro2, q2, m2⟩; have m2d : Mv ro [rm] w ro2 w2 := ((Mv.refl ro [] w).drew.mono (by simp)).trans m2; have x2 := H.out.keep m2d (by intro x hx; simp at hx; omega); have hc2 := x2.blk.cell; have hf2 := x2.blk.free; unfold wcells at hc2; simp only [ptr] at hc2)
    all_goals
      refine NoPanic.normal ?_
      go_wp2_with (go_at_call 117; refine (GW ro2 _ x2.blk).mono ?_; rintro e w3 ⟨rfl, x4, m4⟩)
      go_end0
      exact ⟨rfl, ro2, q, x2.cells m4 x4 rfl (fun g hg => ⟨hg, rfl⟩) (fun g hg => hg) rfl, q2.keep m4 (by simp; omega) (by simp; omega), (m2d.mono (by simp)).trans (m4.mono (by simp [wR]))⟩
  · rw [if_neg ht]
    have e : ({ s with part := 2 } : Wr) = s := by cases s; simp only at hp; subst hp; rfl
    rw [e]
    have AW : ∀ W, Mv ro [] w ro W → Calls Tryz.prog 190 #[ptr MB, planV C, .int .u64 s.ticket] W fun e w' => e = .returned (.tuple #[.bool false, .int .i64 0]) ∧ ∃ ro', MemIs ro' rm w' MB v words false (cnt + 1) ∧ Mv ro [rm] W ro' w' := fun W mv => look_walk s.ticket false (by simpa using ht) (hm.keep mv (by simp) (by simp)) hl hl2 c0 c1
    unfold planV at AW
    simp only [ptr] at hc AW GW ⊢
    have H := Lib.hid h
    clear h hm ht e
    go_enter Tryz.func149, Tryz.ntmps149
    go_wp2
    refine wp_region_noPanic ?_
    go_region_law (go_simp; go_at_call 190; refine (AW _ (Mv.refl ro [] w).drew).mono ?_; rintro e w2 ⟨rfl, ro2, q2, m2⟩; have m2d : Mv ro [rm] w ro2 w2 := ((Mv.refl ro [] w).drew.mono (by simp)).trans m2; have x2 := H.out.keep m2d (by intro x hx; simp at hx; omega))
    all_goals
      refine NoPanic.normal ?_
      go_wp2
      go_end0
      exact ⟨rfl, ro2, q, x2, q2, m2d.mono (by simp)⟩
/-- The look at the census turned. -/
theorem WIs.scanned {ro : Nat → Nat} {r : Nat} {w w' : World} {X C tag code args s q R} {g : Int × Int} (h : WIs ro r w X C tag code args s q) (mv : Mv ro R w ro w') (hR : ∀ x ∈ R, x = r + 21 ∨ x < r ∨ r + 24 < x) (hb : Blk ro (r + 21) w' q.SB (scanC C s.stamp g.1 g.2) 199) (g0 : Int × Int) (hg : s.scan = some g0) : WIs ro r w' X C tag code args ({ s with scan := some g } : Wr) q := by
  have k : ∀ i, i ≤ 24 → i ≠ 21 → r + i ∉ R := fun i hi hn hx => by have := hR _ hx; omega
  have hbx := h.blk.keep mv (k 20 (by omega) (by omega))
  refine ⟨?_, h.mach.keep mv fun x hx => by have := hR x hx; omega, fun g' hg' => ?_, fun b hb' => (h.back b hb').keep mv (k 22 (by omega) (by omega)), h.args.keep mv (k 23 (by omega) (by omega)), h.was.keep mv (k 24 (by omega) (by omega))⟩
  · unfold wcells at hbx ⊢
    rw [hg] at hbx
    exact hbx
  · obtain rfl : g = g' := by simpa using hg'
    exact hb
set_option maxRecDepth 100000 in
set_option maxHeartbeats 2000000 in
theorem scans_walk {ro : Nat → Nat} {r rm : Nat} {w : World} {X : Nat} {C : Cfg} {tag : Int} {code : List Ins} {args : List Nat} {s : Wr} {q : Wp} {MB : Nat} {v : Value} {words : List Nat} {cnt : Int} (hC : C.ok) (h : WIs ro r w X C tag code args s q) (hm : MemIs ro rm w MB v words true cnt) (hrm : rm + 1 < r ∨ r + 31 < rm) (hl : (words.length : Int) = 3 + C.threads + 3 * C.cells) (c0 : 0 ≤ cnt) (c1 : cnt ≤ 1000000000) (hp : s.part = 5) (g : Int × Int) (hg : s.scan = some g) (g0 : 0 ≤ g.1) (g1 : g.1 < C.threads) (g2 : 0 ≤ g.2) (g3 : g.2 ≤ 1000000) (hwl : s.was.length ≤ 32) :
    Calls Tryz.prog 152 #[ptr X, ptr MB] w (WrP ro r rm w X C tag code args (s.scans C words g) MB v words false (cnt + 1) (.tuple #[])) := by
  obtain ⟨C1, C2, C3, C4, _⟩ := id hC
  have hc := h.blk.cell
  have hsb := h.scan g hg
  obtain ⟨gn, gp⟩ := g
  simp only at hsb g0 g1 g2 g3
  obtain ⟨pw, cw, hvw⟩ := h.was.form
  unfold wcells at hc
  rw [hg, hvw] at hc
  simp only [Option.isSome_some, if_true] at hc
  unfold Wr.scans
  simp only
  have e5 : ({ s with scan := some (gn, gp + 1) } : Wr) = ({ s with scan := some (gn, gp + 1) } : Wr) := rfl
  by_cases hx : words.getD (3 + gn).toNat 0 ≠ 0 ∧ words.getD (3 + gn).toNat 0 ≤ s.stamp
  · rw [if_pos hx]
    have AW := fun W (mv : Mv ro [] w ro W) => scan_old hC (hsb.keep mv (by simp)) (hm.keep mv (by simp) (by simp)) (by omega) g0 g1 g2 g3 (by omega) (by omega) c0 c1 hx
    unfold Scd at AW
    simp only [ptr] at hc AW ⊢
    have H := Lib.hid h
    have HG := Lib.hid hg
    clear h hm hx hg hsb e5
    go_enter Tryz.func152, Tryz.ntmps152
    go_wp2_with (go_at_call 194; refine (AW _ (Mv.refl _ _ _)).mono ?_; rintro e w2 ⟨rfl, b2, q2, m2⟩)
    go_end0
    exact ⟨rfl, ro, q, H.out.scanned (g := (gn, gp + 1)) m2 (by simp; omega) b2 _ HG.out, q2, m2.mono (by simp [wR])⟩
  · rw [if_neg hx]
    have AW := fun d hd W (mv : Mv ro [] w ro W) => scan_on hC (hsb.keep mv (by simp)) (hm.keep mv (by simp) (by simp)) (by omega) g0 g1 g2 g3 (by omega) (by omega) c0 c1 hx d hd
    unfold Scd at AW
    by_cases hd : gn + 1 = C.threads
    · rw [if_pos hd]
      have AW := AW true (by simpa using hd)
      have hvn : q.vw = .slice pw s.was.length cw := hvw
      by_cases hn : 0 < s.was.length
      · rw [if_pos hn]
        have hn' : (0 : Int) < s.was.length := by omega
        have GW := fun ro' W (b : Blk ro' (r + 20) W X (wcells C tag { s with scan := some (gn + 1, gp) } q) 152) => goes_walk b 6 (by decide)
        unfold wcells at GW
        simp only [ptr] at hc AW GW ⊢
        have H := Lib.hid h
        have HG := Lib.hid hg
        have HV := Lib.hid hvn
        clear h hm hx hg hsb e5 hvw hvn
        go_enter Tryz.func152, Tryz.ntmps152
        go_wp2_with (first
          | (go_at_call 194; refine (AW _ (Mv.refl _ _ _)).mono ?_; rintro e w2 ⟨rfl, b2, q2, m2⟩; have x2 := H.out.scanned (g := (gn + 1, gp)) m2 (by simp; omega) b2 _ HG.out; have hc2 := x2.blk.cell; unfold wcells at hc2; rw [HV.out] at hc2; simp only [ptr, Option.isSome_some, if_true] at hc2)
          | (go_at_call 117; refine (GW ro _ x2.blk).mono ?_; rintro e w3 ⟨rfl, x4, m4⟩))
        go_end0
        exact ⟨rfl, ro, q, x2.cells m4 x4 rfl (fun g hg => ⟨hg, rfl⟩) (fun g hg => hg) rfl, q2.keep m4 (by simp; omega) (by simp; omega), (m2.mono (by simp [wR])).trans (m4.mono (by simp [wR]))⟩
      · rw [if_neg hn]
        have hn' : ¬ (0 : Int) < s.was.length := by omega
        have GW := fun ro' W (b : Blk ro' (r + 20) W X (wcells C tag { s with scan := some (gn + 1, gp) } q) 152) => goes_walk b 7 (by decide)
        unfold wcells at GW
        simp only [ptr] at hc AW GW ⊢
        have H := Lib.hid h
        have HG := Lib.hid hg
        have HV := Lib.hid hvn
        clear h hm hx hg hsb e5 hvw hvn
        go_enter Tryz.func152, Tryz.ntmps152
        go_wp2_with (first
          | (go_at_call 194; refine (AW _ (Mv.refl _ _ _)).mono ?_; rintro e w2 ⟨rfl, b2, q2, m2⟩; have x2 := H.out.scanned (g := (gn + 1, gp)) m2 (by simp; omega) b2 _ HG.out; have hc2 := x2.blk.cell; unfold wcells at hc2; rw [HV.out] at hc2; simp only [ptr, Option.isSome_some, if_true] at hc2)
          | (go_at_call 117; refine (GW ro _ x2.blk).mono ?_; rintro e w3 ⟨rfl, x4, m4⟩))
        go_end0
        exact ⟨rfl, ro, q, x2.cells m4 x4 rfl (fun g hg => ⟨hg, rfl⟩) (fun g hg => hg) rfl, q2.keep m4 (by simp; omega) (by simp; omega), (m2.mono (by simp [wR])).trans (m4.mono (by simp [wR]))⟩
    · rw [if_neg hd]
      have AW := AW false (by simpa using hd)
      have e : ({ s with scan := some (gn + 1, gp), part := 5 } : Wr) = { s with scan := some (gn + 1, gp) } := by cases s; simp only at hp; subst hp; rfl
      rw [e]
      simp only [ptr] at hc AW ⊢
      have H := Lib.hid h
      have HG := Lib.hid hg
      clear h hm hx hg hsb e5 e
      go_enter Tryz.func152, Tryz.ntmps152
      go_wp2_with (go_at_call 194; refine (AW _ (Mv.refl _ _ _)).mono ?_; rintro e w2 ⟨rfl, b2, q2, m2⟩)
      go_end0
      exact ⟨rfl, ro, q, H.out.scanned (g := (gn + 1, gp)) m2 (by simp; omega) b2 _ HG.out, q2, m2.mono (by simp [wR])⟩
end Go.Proofs.YtphaeodcomgffaaGreat
