import Derived.Test.YtphaeodcomgffaaGreatEG
set_option linter.unusedVariables false
set_option linter.unusedSimpArgs false
namespace Go.Proofs.YtphaeodcomgffaaGreat
open Go.RowKit

/-- The mark of a reader's deed. -/
def Rs.mark (s : Rs) : Int := if s.part = 1 then -1 else IntKind.i64.wrap s.stamp
set_option maxRecDepth 100000 in
set_option maxHeartbeats 8000000 in
theorem rdeed_walk {ro : Nat → Nat} {r : Nat} {w : World} {X C th tag code args s q} (r0 : Nat) (h : RIs ro r w X C th tag code args s q)
    (hl1 : args.length ≤ 8) (hl2 : s.m.reads.length ≤ 65536) (hl3 : s.m.writes.length ≤ 65536) (hl4 : s.m.out.length ≤ 65536) :
    Calls Tryz.prog 22 #[ptr X] w (DeedP ro r0 w tag s.mark args s) := by
  have DW : ∀ roC W mark, Mv ro [] w roC W → Calls Tryz.prog 68 #[ptr X, .int .i64 mark] W (DeedP roC r0 W tag mark args s) := fun roC W mark mv => deed_walk r0 mark (h.keep mv (by simp)) hl1 hl2 hl3 hl4
  have TW : ∀ roC W, Mv ro [] w roC W → Calls Tryz.prog 69 #[ptr q.CB] W fun e w' => e = .returned (.int .u64 s.stamp) ∧ w' = W := fun roC W mv => stamp_walk (h.come.keep mv (by simp))
  have S0 : ∀ roC W, Mv ro [] w roC W → (W.cell? ⟨X, 9, none⟩ = some (.int .i64 s.part) ∧ W.cell? ⟨X, 12, none⟩ = some (ptr q.CB)) := fun roC W mv => by
    have := (h.blk.keep mv (by simp)).cell
    exact ⟨this 9, this 12⟩
  have hlt := h.blk.lt
  have hs9 := (S0 ro w (Mv.refl _ _ _)).1
  simp only [ptr] at S0 DW TW ⊢
  have H := Lib.hid h
  clear h
  unfold DeedP at DW ⊢
  generalize (if s.part = 4 then s.m.how else 0) = d1 at *
  generalize (if s.part = 4 then s.m.ecode else 0) = d2 at *
  generalize (if s.part = 4 then s.m.err else 0) = d3 at *
  unfold Rs.mark
  by_cases hp : s.part = 1
  · rw [if_pos hp]
    rw [hp] at hs9
    have N1 : Mv ro [] w (setRo ro w.heap.size (r0 + 5)) (w.alloc (.cells #[.int .i64 0, .int .i64 0, .int .i64 0, .int .i64 0, .slice none 0 0, .int .i64 0, .int .i64 0, .slice none 0 0, .slice none 0 0, .slice none 0 0, .int .i64 0, .int .i64 0, .int .i64 0, .int .i64 0, .int .i64 0, .int .i64 0, .int .i64 0, .int .i64 0, .int .i64 0] 63)) := ((Mv.refl ro [] w).alloc _).give (Nat.le_refl _)
    have A0 : Blk (setRo ro w.heap.size (r0 + 5)) (r0 + 5) (w.alloc (.cells #[.int .i64 0, .int .i64 0, .int .i64 0, .int .i64 0, .slice none 0 0, .int .i64 0, .int .i64 0, .slice none 0 0, .slice none 0 0, .slice none 0 0, .int .i64 0, .int .i64 0, .int .i64 0, .int .i64 0, .int .i64 0, .int .i64 0, .int .i64 0, .int .i64 0, .int .i64 0] 63)) w.heap.size #[.int .i64 0, .int .i64 0, .int .i64 0, .int .i64 0, .slice none 0 0, .int .i64 0, .int .i64 0, .slice none 0 0, .slice none 0 0, .slice none 0 0, .int .i64 0, .int .i64 0, .int .i64 0, .int .i64 0, .int .i64 0, .int .i64 0, .int .i64 0, .int .i64 0, .int .i64 0] 63 := Blk.new _ _ _ _ _
    have DN := DW _ _ (-1) N1
    have HA0 := Lib.hid A0
    have HN1 := Lib.hid N1
    have HDN := Lib.hid DN
    clear A0 N1 DW TW DN S0
    go_enter Tryz.func22, Tryz.ntmps22
    go_wp2_with (first
      | (go_at_call 68
         refine HDN.out.mono ?_
         rintro e w5 ⟨ro5, va, vr, vw, vo, rfl, o1, o2, o3, o4, m5⟩
         obtain ⟨a1, c1, ev1⟩ := o1.form
         obtain ⟨a2, c2, ev2⟩ := o2.form
         obtain ⟨a3, c3, ev3⟩ := o3.form
         obtain ⟨a4, c4, ev4⟩ := o4.form
         have O1 := Lib.hid o1
         have O2 := Lib.hid o2
         have O3 := Lib.hid o3
         have O4 := Lib.hid o4
         have M5 := Lib.hid m5
         have BA := Lib.hid (HA0.out.keep m5 (by simp))
         have E1 := Lib.hid ev1
         have E2 := Lib.hid ev2
         have E3 := Lib.hid ev3
         have E4 := Lib.hid ev4
         clear o1 o2 o3 o4 m5 ev1 ev2 ev3 ev4 HDN)
      | (refine wpList_store_row rfl 63 (.tmp 2) (.tmp 12) rfl w.heap.size _ rfl rfl 63 _ BA.out.heap (by kernel_rfl) rfl (by rw [E1.out, E2.out, E3.out, E4.out]; simp [Value.oneCell', deedC]) ?_
         have BAz := BA.out.setRow (ds := deedC tag (-1) s.steps d1 d2 d3 va vr vw vo)
         have mz := (Mv.refl ro5 [r0 + 5] w5).setRow (g := w.heap.size) (by rw [BA.out.role]; simp) (deedC tag (-1) s.steps d1 d2 d3 va vr vw vo)
         have nz := (HN1.out.trans M5.out).setRowNew (Nat.le_refl _) (deedC tag (-1) s.steps d1 d2 d3 va vr vw vo)
         generalize World.setRow _ w.heap.size _ = Wz at *))
    refine bodyPost_ret (v := .agg (deedC tag (-1) s.steps d1 d2 d3 va vr vw vo)) (results_cell_row Tryz.results22 _ _ w.heap.size _ _ (0, 0) _ rfl BAz.heap Tryz.underlying63 rfl (by kernel_rfl)) rfl ?_
    exact ⟨ro5, va, vr, vw, vo, rfl, O1.out.keep mz (by simp), O2.out.keep mz (by simp), O3.out.keep mz (by simp), O4.out.keep mz (by simp), nz⟩
  · rw [if_neg hp]
    have hp9 : (s.part == 1) = false := by simpa using hp
    go_enter Tryz.func22, Tryz.ntmps22
    go_wp2
    have N1 : Mv ro [] w (setRo ro w.heap.size (r0 + 5)) (w.alloc (.cells #[.int .i64 0, .int .i64 0, .int .i64 0, .int .i64 0, .slice none 0 0, .int .i64 0, .int .i64 0, .slice none 0 0, .slice none 0 0, .slice none 0 0, .int .i64 0, .int .i64 0, .int .i64 0, .int .i64 0, .int .i64 0, .int .i64 0, .int .i64 0, .int .i64 0, .int .i64 0] 63)) := ((Mv.refl ro [] w).alloc _).give (Nat.le_refl _)
    have A0 : Blk (setRo ro w.heap.size (r0 + 5)) (r0 + 5) (w.alloc (.cells #[.int .i64 0, .int .i64 0, .int .i64 0, .int .i64 0, .slice none 0 0, .int .i64 0, .int .i64 0, .slice none 0 0, .slice none 0 0, .slice none 0 0, .int .i64 0, .int .i64 0, .int .i64 0, .int .i64 0, .int .i64 0, .int .i64 0, .int .i64 0, .int .i64 0, .int .i64 0] 63)) w.heap.size #[.int .i64 0, .int .i64 0, .int .i64 0, .int .i64 0, .slice none 0 0, .int .i64 0, .int .i64 0, .slice none 0 0, .slice none 0 0, .slice none 0 0, .int .i64 0, .int .i64 0, .int .i64 0, .int .i64 0, .int .i64 0, .int .i64 0, .int .i64 0, .int .i64 0, .int .i64 0] 63 := Blk.new _ _ _ _ _
    generalize hW1 : w.alloc (.cells #[.int .i64 0, .int .i64 0, .int .i64 0, .int .i64 0, .slice none 0 0, .int .i64 0, .int .i64 0, .slice none 0 0, .slice none 0 0, .slice none 0 0, .int .i64 0, .int .i64 0, .int .i64 0, .int .i64 0, .int .i64 0, .int .i64 0, .int .i64 0, .int .i64 0, .int .i64 0] 63) = w1 at *
    generalize setRo ro w.heap.size (r0 + 5) = ro1 at *
    have HS1 := Lib.hid fun roC W (mv : Mv ro1 [] w1 roC W) => S0 roC W (N1.trans mv)
    have HDW := Lib.hid fun roC W mark (mv : Mv ro1 [] w1 roC W) => DW roC W mark (N1.trans mv)
    have HTW := Lib.hid fun roC W (mv : Mv ro1 [] w1 roC W) => TW roC W (N1.trans mv)
    have HA0 := Lib.hid A0
    have HN1 := Lib.hid N1
    clear DW TW S0 N1 hW1 A0 hs9
    refine wp_region_noPanic ?_
    refine wp_region_held_drew (S := fun W => (W.cell? ⟨X, 9, none⟩ = some (.int .i64 s.part) ∧ W.cell? ⟨X, 12, none⟩ = some (.pointer (some ⟨q.CB, 0, none⟩)))) (by kernel_rfl) (HS1.out ro1 _ (Mv.refl _ _ _).drew) (fun hHeld => ?_)
    refine' wpAnyH_take (i := 0) (v := _) rfl (by kernel_rfl) (by kernel_rfl) (by kernel_rfl) (fun _ _ _ h => h) (Or.inl ⟨by rfl, ?hy1⟩) (by assumption) ?rest1
    case hy1 => (intro w hSw; (try dsimp only at hSw); go_simp; try with_reducible rfl)
    try simp only [Act.put, List.setIfInBounds_toArray, List.set_cons_zero, List.set_cons_succ]
    refine' wpAnyH_take (i := 1) (v := _) rfl (by kernel_rfl) (by kernel_rfl) (by kernel_rfl) (fun _ _ _ h => h) (Or.inl ⟨by rfl, ?hy2⟩) (by assumption) ?rest2
    case hy2 => (intro w hSw; (try dsimp only at hSw); go_simp; try with_reducible rfl)
    try simp only [Act.put, List.setIfInBounds_toArray, List.set_cons_zero, List.set_cons_succ]
    refine' wpAnyH_take (i := 2) (v := _) rfl (by kernel_rfl) (by kernel_rfl) (by kernel_rfl) (fun _ _ _ h => h) (Or.inl ⟨by rfl, ?hy3⟩) (by assumption) ?rest3
    case hy3 => (intro w hSw; (try dsimp only at hSw); go_simp; try with_reducible rfl)
    try simp only [Act.put, List.setIfInBounds_toArray, List.set_cons_zero, List.set_cons_succ]
    refine' wpAnyH_take (i := 3) (v := _) rfl (by kernel_rfl) (by kernel_rfl) (by kernel_rfl) (fun _ _ _ h => h) (Or.inl ⟨by rfl, ?hy4⟩) (by assumption) ?rest4
    case hy4 => (intro w hSw; (try dsimp only at hSw); go_simp; try with_reducible rfl)
    try simp only [Act.put, List.setIfInBounds_toArray, List.set_cons_zero, List.set_cons_succ]
    refine' wpAnyH_take (i := 4) (v := _) rfl (by kernel_rfl) (by kernel_rfl) (by kernel_rfl) (fun _ _ _ h => h) (Or.inl ⟨by rfl, ?hy5⟩) (by assumption) ?rest5
    case hy5 => (intro w hSw; (try dsimp only at hSw); go_simp; try with_reducible rfl)
    try simp only [Act.put, List.setIfInBounds_toArray, List.set_cons_zero, List.set_cons_succ]
    refine' wpAnyH_take (i := 5) (v := _) rfl (by kernel_rfl) (by kernel_rfl) (by kernel_rfl) (fun _ _ _ h => h) (Or.inl ⟨by rfl, ?hy6⟩) (by assumption) ?rest6
    case hy6 => (intro w hSw; (try dsimp only at hSw); go_simp; try with_reducible rfl)
    try simp only [Act.put, List.setIfInBounds_toArray, List.set_cons_zero, List.set_cons_succ]
    refine' wpAnyH_take (i := 6) (v := _) rfl (by kernel_rfl) (by kernel_rfl) (by kernel_rfl) (fun _ _ _ h => h) (Or.inl ⟨by rfl, ?hy7⟩) (by assumption) ?rest7
    case hy7 => (intro w hSw; (try dsimp only at hSw); go_simp; try with_reducible rfl)
    try simp only [Act.put, List.setIfInBounds_toArray, List.set_cons_zero, List.set_cons_succ]
    refine wpAnyH_ready (rs := [7]) (by kernel_rfl) (by simp) ?_
    refine AllReadyH.cons rfl (fun K hK => ?_) ?_
    rotate_left
    · exact AllReadyH.nil
    go_simp
    go_at_call 69
    refine (HTW.out ro1 _ (Mv.refl _ _ _).drew).mono ?_
    rintro e w4 ⟨rfl, rfl⟩
    dsimp only
    refine hK.out _ _ (HS1.out ro1 _ (Mv.refl _ _ _).drew) (fun hHeld => ?_)
    clear hK K
    refine' wpAnyH_take (i := 8) (v := _) rfl (by kernel_rfl) (by kernel_rfl) (by kernel_rfl) (fun _ _ _ h => h) (Or.inl ⟨by rfl, ?hy8⟩) (by assumption) ?rest8
    case hy8 => (intro w hSw; (try dsimp only at hSw); go_simp; try with_reducible rfl)
    try simp only [Act.put, List.setIfInBounds_toArray, List.set_cons_zero, List.set_cons_succ]
    refine wpAnyH_ready (rs := [9]) (by kernel_rfl) (by simp) ?_
    refine AllReadyH.cons rfl (fun K hK => ?_) ?_
    rotate_left
    · exact AllReadyH.nil
    go_simp
    go_at_call 68
    refine (HDW.out ro1 _ _ (Mv.refl _ _ _).drew).mono ?_
    rintro e w5 ⟨ro5, va, vr, vw, vo, rfl, o1, o2, o3, o4, m5⟩
    obtain ⟨a1, c1, ev1⟩ := o1.form
    obtain ⟨a2, c2, ev2⟩ := o2.form
    obtain ⟨a3, c3, ev3⟩ := o3.form
    obtain ⟨a4, c4, ev4⟩ := o4.form
    dsimp only
    have n5 : Mv ro1 [] w1 ro5 w5 := (Mv.refl ro1 [] w1).drew.trans m5
    have BA := HA0.out.keep n5 (by simp)
    refine hK.out _ _ (HS1.out _ _ n5) (fun hHeld => ?_)
    clear hK K
    refine wpAnyH_ready (rs := [10]) (by kernel_rfl) (by simp) ?_
    refine AllReadyH.cons rfl (fun K hK => ?_) ?_
    rotate_left
    · exact AllReadyH.nil
    rw [if_pos (by rfl)]
    refine wp_store_row 63 (.tmp 2) (.tmp 22) rfl w.heap.size (deedC tag (IntKind.i64.wrap s.stamp) s.steps d1 d2 d3 va vr vw vo) rfl rfl 63 _ BA.heap (by kernel_rfl) rfl (by rw [ev1, ev2, ev3, ev4]; simp [Value.oneCell', deedC]) ?_
    have BAz := BA.setRow (ds := (deedC tag (IntKind.i64.wrap s.stamp) s.steps d1 d2 d3 va vr vw vo))
    have mz := (Mv.refl ro5 [r0 + 5] w5).setRow (g := w.heap.size) (by rw [BA.role]; simp) (deedC tag (IntKind.i64.wrap s.stamp) s.steps d1 d2 d3 va vr vw vo)
    have nz := (HN1.out.trans n5).setRowNew (Nat.le_refl _) (deedC tag (IntKind.i64.wrap s.stamp) s.steps d1 d2 d3 va vr vw vo)
    have s5 := HS1.out ro5 w5 n5
    have hne : X ≠ w.heap.size := by omega
    have sz : (w5.setRow w.heap.size (deedC tag (IntKind.i64.wrap s.stamp) s.steps d1 d2 d3 va vr vw vo)).cell? ⟨X, 9, none⟩ = some (.int .i64 s.part) ∧ (w5.setRow w.heap.size (deedC tag (IntKind.i64.wrap s.stamp) s.steps d1 d2 d3 va vr vw vo)).cell? ⟨X, 12, none⟩ = some (.pointer (some ⟨q.CB, 0, none⟩)) := ⟨(cell_setRow_other _ _ _ _ hne).trans s5.1, (cell_setRow_other _ _ _ _ hne).trans s5.2⟩
    refine hK.out _ _ sz (fun hHeld => ?_)
    clear hK K
    refine wpAnyH_done (by kernel_rfl) ?_ _
    refine NoPanic.normal ?_
    generalize w5.setRow w.heap.size (deedC tag (IntKind.i64.wrap s.stamp) s.steps d1 d2 d3 va vr vw vo) = Wz at *
    go_wp2
    refine bodyPost_ret (v := .agg (deedC tag (IntKind.i64.wrap s.stamp) s.steps d1 d2 d3 va vr vw vo)) (results_cell_row Tryz.results22 _ _ w.heap.size _ _ (0, 0) _ rfl BAz.heap Tryz.underlying63 rfl (by kernel_rfl)) rfl ?_
    exact ⟨ro5, va, vr, vw, vo, rfl, o1.keep mz (by simp), o2.keep mz (by simp), o3.keep mz (by simp), o4.keep mz (by simp), nz⟩
end Go.Proofs.YtphaeodcomgffaaGreat
