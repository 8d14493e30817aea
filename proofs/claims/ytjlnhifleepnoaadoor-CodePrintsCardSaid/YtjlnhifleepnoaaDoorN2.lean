import Derived.Test.YtjlnhifleepnoaaDoorN1
set_option linter.unusedVariables false
set_option linter.unusedSimpArgs false
namespace Go.Proofs.YtjlnhifleepnoaaDoor
open Go.RowKit

/-- An instruction's box and its row's, in the document. -/
structure LBox5 (w W : World) (g : Nat) (a b c r0 r2 : Value) : Prop where
  r0 : W.cell? ⟨g, 0, none⟩ = some r0
  r2 : W.cell? ⟨g, 2, none⟩ = some r2
  x0 : W.cell? ⟨w.heap.size, 0, none⟩ = some a
  x1 : W.cell? ⟨w.heap.size, 1, none⟩ = some b
  x2 : W.cell? ⟨w.heap.size, 2, none⟩ = some c
  bw : Below w.heap.size w W
theorem lboxA5 {w w1 : World} {a b c r0 r1 r2 r3 r4 : Value} {T T2 : TypeId} (b1 : Below (w.alloc (.cells #[a, b, c] T)).drew.heap.size (w.alloc (.cells #[a, b, c] T)).drew w1) : LBox5 w (w1.alloc (.cells #[r0, r1, r2, r3, r4] T2)) w1.heap.size a b c r0 r2 := by
  have hx : w1.heap[w.heap.size]? = some (.cells #[a, b, c] T (0, 0)) := old_row b1
  have hx2 : (w1.alloc (.cells #[r0, r1, r2, r3, r4] T2)).heap[w.heap.size]? = some (.cells #[a, b, c] T (0, 0)) := ((below_alloc w1 (.cells #[r0, r1, r2, r3, r4] T2)).block _ (lt_of_heap hx)).trans hx
  refine ⟨cell_of_row _ _ _ _ _ _ (heap_alloc_new _ _), cell_of_row _ _ _ _ _ _ (heap_alloc_new _ _), cell_of_row _ _ _ _ _ _ hx2, cell_of_row _ _ _ _ _ _ hx2, cell_of_row _ _ _ _ _ _ hx2, ?_⟩
  have c1 : Chg [] w (w.alloc (.cells #[a, b, c] T)).drew := ((Chg.refl [] w).alloc _).drew
  exact below_of_chg ((c1.trans (Chg.of_below b1)).alloc _)
theorem lboxB5 {w w1 : World} {a b c z0 z1 z2 z3 z4 r0 r1 r2 r3 r4 : Value} {T T2 : TypeId} (b1 : Below ((w.alloc (.cells #[a, b, c] T)).alloc (.cells #[z0, z1, z2, z3, z4] T2)).drew.heap.size ((w.alloc (.cells #[a, b, c] T)).alloc (.cells #[z0, z1, z2, z3, z4] T2)).drew w1) :
    LBox5 w (((((w1.setCell ⟨w.heap.size + 1, 0, none⟩ r0).setCell ⟨w.heap.size + 1, 1, none⟩ r1).setCell ⟨w.heap.size + 1, 2, none⟩ r2).setCell ⟨w.heap.size + 1, 3, none⟩ r3).setCell ⟨w.heap.size + 1, 4, none⟩ r4) (w.heap.size + 1) a b c r0 r2 := by
  have hz : w1.heap[w.heap.size + 1]? = some (.cells #[z0, z1, z2, z3, z4] T2 (0, 0)) := by
    have := old_row b1
    simpa using this
  have hx0 : ((w.alloc (.cells #[a, b, c] T)).alloc (.cells #[z0, z1, z2, z3, z4] T2)).drew.heap[w.heap.size]? = some (.cells #[a, b, c] T (0, 0)) :=
    ((below_alloc (w.alloc (.cells #[a, b, c] T)) (.cells #[z0, z1, z2, z3, z4] T2)).block _ (by simp)).trans (heap_alloc_new _ _)
  have hx : w1.heap[w.heap.size]? = some (.cells #[a, b, c] T (0, 0)) := (b1.block _ (lt_of_heap hx0)).trans hx0
  have s1 := heap_put (cs' := #[r0, z1, z2, z3, z4]) hz (i := 0) (v := r0) rfl
  have s2 := heap_put (cs' := #[r0, r1, z2, z3, z4]) s1 (i := 1) (v := r1) rfl
  have s3 := heap_put (cs' := #[r0, r1, r2, z3, z4]) s2 (i := 2) (v := r2) rfl
  have s4 := heap_put (cs' := #[r0, r1, r2, r3, z4]) s3 (i := 3) (v := r3) rfl
  have s5 := heap_put (cs' := #[r0, r1, r2, r3, r4]) s4 (i := 4) (v := r4) rfl
  have c1 : Chg [] w ((w.alloc (.cells #[a, b, c] T)).alloc (.cells #[z0, z1, z2, z3, z4] T2)).drew := (((Chg.refl [] w).alloc _).alloc _).drew
  have c2 : Chg [w.heap.size + 1] w1 (((((w1.setCell ⟨w.heap.size + 1, 0, none⟩ r0).setCell ⟨w.heap.size + 1, 1, none⟩ r1).setCell ⟨w.heap.size + 1, 2, none⟩ r2).setCell ⟨w.heap.size + 1, 3, none⟩ r3).setCell ⟨w.heap.size + 1, 4, none⟩ r4) :=
    (((((Chg.refl [w.heap.size + 1] w1).setCell (.inl (by simp)) _).setCell (.inl (by simp)) _).setCell (.inl (by simp)) _).setCell (.inl (by simp)) _).setCell (.inl (by simp)) _
  have hx4 := (c2.block _ (lt_of_heap hx) (by simp)).trans hx
  refine ⟨cell_of_row _ _ _ _ _ _ s5, cell_of_row _ _ _ _ _ _ s5, cell_of_row _ _ _ _ _ _ hx4, cell_of_row _ _ _ _ _ _ hx4, cell_of_row _ _ _ _ _ _ hx4, ?_⟩
  have c3 := (c1.trans (Chg.of_below b1))
  exact below_of_chg (((((c3.setCell (.inr (by simp)) _).setCell (.inr (by simp)) _).setCell (.inr (by simp)) _).setCell (.inr (by simp)) _).setCell (.inr (by simp)) _)

theorem strs_cell {W w3 : World} {T : TypeId} {L : List ByteArray} (hT : w3 = W.alloc (.cells (strs L) T)) (i : Nat) (hi : i < L.length) : w3.cell? ⟨W.heap.size, i, none⟩ = some (.string (L.getD i ⟨#[]⟩)) := by subst hT; exact strs_at W T L i hi

set_option maxRecDepth 100000 in
theorem rones_walk (w : World) : Calls Tryd.prog 38 #[] w fun e w' => e = .returned (.slice (some ⟨w.heap.size, 0, none⟩) 9 9) ∧ ∃ T, w' = w.alloc (.cells (strs onesB) T) := by
  go_enter Tryd.func38, Tryd.ntmps38
  go_wp2
  go_ret
  exact ⟨rfl, _, rfl⟩
set_option maxRecDepth 100000 in
theorem rtwos_walk (w : World) : Calls Tryd.prog 39 #[] w fun e w' => e = .returned (.slice (some ⟨w.heap.size, 0, none⟩) 13 13) ∧ ∃ T, w' = w.alloc (.cells (strs twosB) T) := by
  go_enter Tryd.func39, Tryd.ntmps39
  go_wp2
  go_ret
  exact ⟨rfl, _, rfl⟩

set_option maxRecDepth 100000 in
set_option maxHeartbeats 16000000 in
theorem rline_bare (i : Nat) (n : Int) (x : Nat) (hi : i < 21) (h1 : i ≠ 1) (h9 : i ≠ 9) (h10 : i ≠ 10) (hh : (lhAt (i : Int)).2 = 0) (w : World) : Calls Tryd.prog 25 #[.agg #[.int .i64 (i : Int), .int .i64 n, .float .f64 x]] w fun e w' => e = .returned (.string (S ((rowAt (i : Int)).1))) ∧ Below w.heap.size w w' := by
  have DC := fun (w : World) (T : TypeId) => dcell_at w T i hi
  have hi' : (i : Int) < 21 := by omega
  obtain ⟨lo, hlo⟩ : ∃ lo, lo = (lhAt (i : Int)).1 := ⟨_, rfl⟩
  obtain ⟨hg, hhg⟩ : ∃ hg, hg = (lhAt (i : Int)).2 := ⟨_, rfl⟩
  obtain ⟨wd, hwd⟩ : ∃ wd, wd = (rowAt (i : Int)).1 := ⟨_, rfl⟩
  obtain ⟨tk, htk⟩ : ∃ tk, tk = (rowAt (i : Int)).2.2.1 := ⟨_, rfl⟩
  obtain ⟨ly, hly⟩ : ∃ ly, ly = (rowAt (i : Int)).2.2.2 := ⟨_, rfl⟩
  rw [← hlo, ← hhg, ← hwd, ← htk, ← hly] at DC
  rw [← hwd]
  have t1 : ((i : Int) == 1) = false := by simp; omega
  have t9 : ((i : Int) == 9) = false := by simp; omega
  have t10 : ((i : Int) == 10) = false := by simp; omega
  rw [hh] at hhg
  subst hhg
  clear hlo hwd htk hly hi h1 h9 h10 hh
  go_enter Tryd.func25, Tryd.ntmps25
  go_wp2
  refine wp_region_noPanic ?_
  go_region_with (first | (go_at_call 20; refine (drows_walk _).mono ?_; rintro e w1 ⟨rfl, T, hT⟩; obtain ⟨d0, d1, d2, d3, d4⟩ := DC _ T; rw [← hT] at d0 d1 d2 d3 d4; simp only [heap_size_ad, heap_size_a] at d0 d1 d2 d3 d4; have lt2 := block_lt_of_cell d0; simp only at lt2; have b1 := below_eq hT; have k0 : w1.cell? ⟨w.heap.size, 0, none⟩ = some (.int .i64 (i : Int)) := (World.cell?_of_block (b1.block _ (by first | (simp; done) | (simp; omega)))).trans (by simp); have k0a := fun o : Obj => (World.cell?_alloc_some w1 _ o (by rw [k0]; rfl)).trans k0; have d0a := fun o : Obj => (World.cell?_alloc_some w1 _ o (by rw [d0]; rfl)).trans d0; have d1a := fun o : Obj => (World.cell?_alloc_some w1 _ o (by rw [d1]; rfl)).trans d1; have d2a := fun o : Obj => (World.cell?_alloc_some w1 _ o (by rw [d2]; rfl)).trans d2; have d3a := fun o : Obj => (World.cell?_alloc_some w1 _ o (by rw [d3]; rfl)).trans d3; have d4a := fun o : Obj => (World.cell?_alloc_some w1 _ o (by rw [d4]; rfl)).trans d4; have lt1 := b1.size; simp at lt1; (try (obtain ⟨⟨z0, z1, z2, z3, z4⟩, y0, y1, y2, y3, y4⟩ := row5 (old_row b1); simp at z0 z1 z2 z3 z4 y0 y1 y2 y3 y4)); clear hT))
  all_goals refine NoPanic.normal ?_
  all_goals first
    | (generalize hW : World.alloc w1 _ = W2
       generalize hg2 : w1.heap.size = g2
       obtain ⟨r0, r2, x0, x1, x2, bw⟩ : LBox5 w W2 g2 _ _ _ _ _ := by rw [← hW, ← hg2]; exact lboxA5 b1
       clear hW hg2)
    | (generalize hW : World.setCell (World.setCell (World.setCell (World.setCell (World.setCell w1 _ _) _ _) _ _) _ _) _ _ = W2
       generalize hg2 : w.heap.size + 1 = g2
       obtain ⟨r0, r2, x0, x1, x2, bw⟩ : LBox5 w W2 g2 _ _ _ _ _ := by rw [← hW, ← hg2]; exact lboxB5 b1
       clear hW hg2)
  all_goals have BW := Lib.hid bw
  all_goals have hlg := block_lt_of_cell r0
  all_goals have hlw := block_lt_of_cell x0
  all_goals clear d0a d1a d2a d3a d4a k0a d0 d1 d2 d3 d4 k0 b1 bw lt1 lt2
  all_goals
    go_wp2
    go_ret
    exact ⟨rfl, BW.out⟩

set_option maxRecDepth 100000 in
set_option maxHeartbeats 16000000 in
theorem rline_num (i k : Nat) (x : Nat) (hi : i < 21) (h1 : i ≠ 1) (h9 : i ≠ 9) (h10 : i ≠ 10) (hh : (lhAt (i : Int)).2 ≠ 0) (hk : k < 4096) (w : World) : Calls Tryd.prog 25 #[.agg #[.int .i64 (i : Int), .int .i64 (k : Int), .float .f64 x]] w fun e w' => e = .returned (.string (S ((rowAt (i : Int)).1 ++ [32] ++ Lib.decDigits k))) ∧ Below w.heap.size w w' := by
  have DC := fun (w : World) (T : TypeId) => dcell_at w T i hi
  have hi' : (i : Int) < 21 := by omega
  obtain ⟨lo, hlo⟩ : ∃ lo, lo = (lhAt (i : Int)).1 := ⟨_, rfl⟩
  obtain ⟨hg, hhg⟩ : ∃ hg, hg = (lhAt (i : Int)).2 := ⟨_, rfl⟩
  obtain ⟨wd, hwd⟩ : ∃ wd, wd = (rowAt (i : Int)).1 := ⟨_, rfl⟩
  obtain ⟨tk, htk⟩ : ∃ tk, tk = (rowAt (i : Int)).2.2.1 := ⟨_, rfl⟩
  obtain ⟨ly, hly⟩ : ∃ ly, ly = (rowAt (i : Int)).2.2.2 := ⟨_, rfl⟩
  rw [← hlo, ← hhg, ← hwd, ← htk, ← hly] at DC
  rw [← hwd]
  have t1 : ((i : Int) == 1) = false := by simp; omega
  have t9 : ((i : Int) == 9) = false := by simp; omega
  have t10 : ((i : Int) == 10) = false := by simp; omega
  have th : (hg == 0) = false := by rw [hhg]; simpa using hh
  have DW : ∀ W, Calls Tryd.prog 40 #[.int .i64 (k : Int)] W fun e w' => e = .returned (.string (S (Lib.decDigits k))) ∧ Below W.heap.size W w' := fun W => digits_walk k hk W
  have hwl : wd.length ≤ 20 := by rw [hwd]; exact word_len _
  have hdl : (Lib.decDigits k).length ≤ 4 := dec_len 3 k (by omega)
  obtain ⟨d, hd⟩ : ∃ d, d = Lib.decDigits k := ⟨_, rfl⟩
  rw [← hd] at DW hdl ⊢
  have hws : (⟨wd.toArray⟩ : ByteArray).size ≤ 20 := by
    have : (⟨wd.toArray⟩ : ByteArray).size = wd.length := S_size wd
    omega
  have hz1 : ¬ 9223372036854775807 < (⟨wd.toArray⟩ : ByteArray).size + 1 := by omega
  have hz3 : ¬ 9223372036854775807 < wd.length + 1 := by omega
  have hz4 : ¬ 9223372036854775807 < wd.length + 1 + d.length := by omega
  have hz5 : ¬ 9223372036854775807 < wd.length + 1 + (S d).size := by rw [S_size]; omega
  have hz2 : ¬ 9223372036854775807 < ((⟨wd.toArray⟩ : ByteArray) ++ ⟨#[32]⟩).size + (S d).size := by
    have : ((⟨wd.toArray⟩ : ByteArray) ++ ⟨#[32]⟩).size = (⟨wd.toArray⟩ : ByteArray).size + 1 := by simp [ByteArray.size_append]; rfl
    rw [S_size]
    omega
  clear hlo hwd htk hly hi h1 h9 h10 hh hhg hd hdl hk
  go_enter Tryd.func25, Tryd.ntmps25
  go_wp2
  refine wp_region_noPanic ?_
  go_region_with (first | (go_at_call 20; refine (drows_walk _).mono ?_; rintro e w1 ⟨rfl, T, hT⟩; obtain ⟨d0, d1, d2, d3, d4⟩ := DC _ T; rw [← hT] at d0 d1 d2 d3 d4; simp only [heap_size_ad, heap_size_a] at d0 d1 d2 d3 d4; have lt2 := block_lt_of_cell d0; simp only at lt2; have b1 := below_eq hT; have k0 : w1.cell? ⟨w.heap.size, 0, none⟩ = some (.int .i64 (i : Int)) := (World.cell?_of_block (b1.block _ (by first | (simp; done) | (simp; omega)))).trans (by simp); have k0a := fun o : Obj => (World.cell?_alloc_some w1 _ o (by rw [k0]; rfl)).trans k0; have d0a := fun o : Obj => (World.cell?_alloc_some w1 _ o (by rw [d0]; rfl)).trans d0; have d1a := fun o : Obj => (World.cell?_alloc_some w1 _ o (by rw [d1]; rfl)).trans d1; have d2a := fun o : Obj => (World.cell?_alloc_some w1 _ o (by rw [d2]; rfl)).trans d2; have d3a := fun o : Obj => (World.cell?_alloc_some w1 _ o (by rw [d3]; rfl)).trans d3; have d4a := fun o : Obj => (World.cell?_alloc_some w1 _ o (by rw [d4]; rfl)).trans d4; have lt1 := b1.size; simp at lt1; (try (obtain ⟨⟨z0, z1, z2, z3, z4⟩, y0, y1, y2, y3, y4⟩ := row5 (old_row b1); simp at z0 z1 z2 z3 z4 y0 y1 y2 y3 y4)); clear hT))
  all_goals refine NoPanic.normal ?_
  all_goals first
    | (generalize hW : World.alloc w1 _ = W2
       generalize hg2 : w1.heap.size = g2
       obtain ⟨r0, r2, x0, x1, x2, bw⟩ : LBox5 w W2 g2 _ _ _ _ _ := by rw [← hW, ← hg2]; exact lboxA5 b1
       clear hW hg2)
    | (generalize hW : World.setCell (World.setCell (World.setCell (World.setCell (World.setCell w1 _ _) _ _) _ _) _ _) _ _ = W2
       generalize hg2 : w.heap.size + 1 = g2
       obtain ⟨r0, r2, x0, x1, x2, bw⟩ : LBox5 w W2 g2 _ _ _ _ _ := by rw [← hW, ← hg2]; exact lboxB5 b1
       clear hW hg2)
  all_goals have BW := Lib.hid bw
  all_goals have hlg := block_lt_of_cell r0
  all_goals have hlw := block_lt_of_cell x0
  all_goals clear d0a d1a d2a d3a d4a k0a d0 d1 d2 d3 d4 k0 b1 bw lt1 lt2
  all_goals
    go_wp2
    go_region_held3 (fun w' => w'.cell? ⟨g2, 0, none⟩ = some (.string ⟨wd.toArray⟩) ∧ w'.cell? ⟨w.heap.size, 1, none⟩ = some (.int .i64 (k : Int))) (first | assumption | go_keep) (first | (go_at_call 40; refine (DW _).mono ?_; rintro e w3 ⟨rfl, b3⟩; have m0 : w3.cell? ⟨g2, 0, none⟩ = some (.string ⟨wd.toArray⟩) := (World.cell?_of_block (b3.block _ hlg)).trans r0; have m1 : w3.cell? ⟨w.heap.size, 1, none⟩ = some (.int .i64 (k : Int)) := (World.cell?_of_block (b3.block _ hlw)).trans x1))
  all_goals
    have BF := Lib.hid ((BW.out.trans ((below_drew W2).mono BW.out.size)).trans (b3.mono (BW.out.trans ((below_drew W2).mono BW.out.size)).size))
    clear b3 m0 m1 r0 r2 x0 x1 x2
    go_wp2
    go_ret
    exact ⟨congrArg (fun z => Ending.returned (Value.string z)) (word_text wd _), BF.out⟩

set_option maxRecDepth 100000 in
set_option maxHeartbeats 16000000 in
theorem rline_push (n : Int) (x : Nat) (hx : x < 18446744073709551616) (w : World) : Calls Tryd.prog 25 #[.agg #[.int .i64 1, .int .i64 n, .float .f64 x]] w fun e w' => e = .returned (.string (S ([112, 117, 115, 104, 32] ++ prt (fx x)))) ∧ Below w.heap.size w w' := by
  obtain ⟨lo, hlo⟩ : ∃ lo, lo = (lhAt ((1 : Nat) : Int)).1 := ⟨_, rfl⟩
  obtain ⟨hg, hhg⟩ : ∃ hg, hg = (lhAt ((1 : Nat) : Int)).2 := ⟨_, rfl⟩
  obtain ⟨wd, hwd⟩ : ∃ wd : ByteArray, wd = ⟨(rowAt ((1 : Nat) : Int)).1.toArray⟩ := ⟨_, rfl⟩
  obtain ⟨tk, htk⟩ : ∃ tk, tk = (rowAt ((1 : Nat) : Int)).2.2.1 := ⟨_, rfl⟩
  obtain ⟨ly, hly⟩ : ∃ ly, ly = (rowAt ((1 : Nat) : Int)).2.2.2 := ⟨_, rfl⟩
  have DC := fun (w : World) (T : TypeId) => dcell_at w T 1 (by omega)
  rw [← hlo, ← hhg, ← hwd, ← htk, ← hly] at DC
  have DC1 : ∀ (w : World) (T : TypeId), (w.alloc (.cells drowsC T)).cell? ⟨w.heap.size, 5, none⟩ = some (.string wd) ∧ (w.alloc (.cells drowsC T)).cell? ⟨w.heap.size, 6, none⟩ = some (.int .i64 lo) ∧ (w.alloc (.cells drowsC T)).cell? ⟨w.heap.size, 7, none⟩ = some (.int .i64 hg) ∧ (w.alloc (.cells drowsC T)).cell? ⟨w.heap.size, 8, none⟩ = some (.int .i64 tk) ∧ (w.alloc (.cells drowsC T)).cell? ⟨w.heap.size, 9, none⟩ = some (.int .i64 ly) := DC
  clear hlo hhg hwd htk hly DC
  have PW : ∀ W, Calls Tryd.prog 37 #[.float .f64 x] W fun e w' => e = .returned (.string (S (prt (fx x)))) ∧ w' = W := fun W => rprint_walk x W hx
  have hz0 : (S (prt (fx x))).size ≤ 21 := by rw [S_size]; exact prt_len (fx_lt hx)
  obtain ⟨d, hd⟩ : ∃ d, d = prt (fx x) := ⟨_, rfl⟩
  rw [← hd] at PW hz0 ⊢
  have hz1 : ¬ 9223372036854775807 < 5 + (S d).size := by omega
  have hz2 : ¬ 9223372036854775807 < 5 + d.length := by rw [← S_size]; omega
  clear hd hx
  go_enter Tryd.func25, Tryd.ntmps25
  go_wp2
  refine wp_region_noPanic ?_
  go_region_with (first | (go_at_call 20; refine (drows_walk _).mono ?_; rintro e w1 ⟨rfl, T, hT⟩; obtain ⟨d0, d1, d2, d3, d4⟩ := DC1 _ T; rw [← hT] at d0 d1 d2 d3 d4; simp only [heap_size_ad, heap_size_a] at d0 d1 d2 d3 d4; have lt2 := block_lt_of_cell d0; simp only at lt2; have b1 := below_eq hT; have k0 : w1.cell? ⟨w.heap.size, 0, none⟩ = some (.int .i64 1) := (World.cell?_of_block (b1.block _ (by first | (simp; done) | (simp; omega)))).trans (by simp); have k0a := fun o : Obj => (World.cell?_alloc_some w1 _ o (by rw [k0]; rfl)).trans k0; have d0a := fun o : Obj => (World.cell?_alloc_some w1 _ o (by rw [d0]; rfl)).trans d0; have d1a := fun o : Obj => (World.cell?_alloc_some w1 _ o (by rw [d1]; rfl)).trans d1; have d2a := fun o : Obj => (World.cell?_alloc_some w1 _ o (by rw [d2]; rfl)).trans d2; have d3a := fun o : Obj => (World.cell?_alloc_some w1 _ o (by rw [d3]; rfl)).trans d3; have d4a := fun o : Obj => (World.cell?_alloc_some w1 _ o (by rw [d4]; rfl)).trans d4; have lt1 := b1.size; simp at lt1; (try (obtain ⟨⟨z0, z1, z2, z3, z4⟩, y0, y1, y2, y3, y4⟩ := row5 (old_row b1); simp at z0 z1 z2 z3 z4 y0 y1 y2 y3 y4)); clear hT))
  all_goals refine NoPanic.normal ?_
  all_goals first
    | (generalize hW : World.alloc w1 _ = W2
       generalize hg2 : w1.heap.size = g2
       obtain ⟨r0, r2, x0, x1, x2, bw⟩ : LBox5 w W2 g2 _ _ _ _ _ := by rw [← hW, ← hg2]; exact lboxA5 b1
       clear hW hg2)
    | (generalize hW : World.setCell (World.setCell (World.setCell (World.setCell (World.setCell w1 _ _) _ _) _ _) _ _) _ _ = W2
       generalize hg2 : w.heap.size + 1 = g2
       obtain ⟨r0, r2, x0, x1, x2, bw⟩ : LBox5 w W2 g2 _ _ _ _ _ := by rw [← hW, ← hg2]; exact lboxB5 b1
       clear hW hg2)
  all_goals have BW := Lib.hid bw
  all_goals have hlg := block_lt_of_cell r0
  all_goals have hlw := block_lt_of_cell x0
  all_goals clear d0a d1a d2a d3a d4a k0a d0 d1 d2 d3 d4 k0 b1 bw lt1 lt2
  all_goals
    go_wp2_with (go_at_call 37; refine (PW _).mono ?_; rintro e w3 ⟨rfl, rfl⟩)
    go_ret
    exact ⟨congrArg (fun z => Ending.returned (Value.string z)) (S_cat [112, 117, 115, 104, 32] d), BW.out⟩

set_option maxRecDepth 100000 in
set_option maxHeartbeats 16000000 in
theorem rline_ones (k : Nat) (x : Nat) (hk : k < 9) (w : World) : Calls Tryd.prog 25 #[.agg #[.int .i64 9, .int .i64 (k : Int), .float .f64 x]] w fun e w' => e = .returned (.string (S ((onesB.getD k ⟨#[]⟩).data.toList))) ∧ Below w.heap.size w w' := by
  obtain ⟨lo, hlo⟩ : ∃ lo, lo = (lhAt ((9 : Nat) : Int)).1 := ⟨_, rfl⟩
  obtain ⟨hg, hhg⟩ : ∃ hg, hg = (lhAt ((9 : Nat) : Int)).2 := ⟨_, rfl⟩
  obtain ⟨wd, hwd⟩ : ∃ wd : ByteArray, wd = ⟨(rowAt ((9 : Nat) : Int)).1.toArray⟩ := ⟨_, rfl⟩
  obtain ⟨tk, htk⟩ : ∃ tk, tk = (rowAt ((9 : Nat) : Int)).2.2.1 := ⟨_, rfl⟩
  obtain ⟨ly, hly⟩ : ∃ ly, ly = (rowAt ((9 : Nat) : Int)).2.2.2 := ⟨_, rfl⟩
  have DC := fun (w : World) (T : TypeId) => dcell_at w T 9 (by omega)
  rw [← hlo, ← hhg, ← hwd, ← htk, ← hly] at DC
  have DC9 : ∀ (w : World) (T : TypeId), (w.alloc (.cells drowsC T)).cell? ⟨w.heap.size, 45, none⟩ = some (.string wd) ∧ (w.alloc (.cells drowsC T)).cell? ⟨w.heap.size, 46, none⟩ = some (.int .i64 lo) ∧ (w.alloc (.cells drowsC T)).cell? ⟨w.heap.size, 47, none⟩ = some (.int .i64 hg) ∧ (w.alloc (.cells drowsC T)).cell? ⟨w.heap.size, 48, none⟩ = some (.int .i64 tk) ∧ (w.alloc (.cells drowsC T)).cell? ⟨w.heap.size, 49, none⟩ = some (.int .i64 ly) := DC
  clear hlo hhg hwd htk hly DC
  have hk2 : k < onesB.length := hk
  have hk3 : (k : Int) < 9 := by omega
  go_enter Tryd.func25, Tryd.ntmps25
  go_wp2
  refine wp_region_noPanic ?_
  go_region_with (first | (go_at_call 20; refine (drows_walk _).mono ?_; rintro e w1 ⟨rfl, T, hT⟩; obtain ⟨d0, d1, d2, d3, d4⟩ := DC9 _ T; rw [← hT] at d0 d1 d2 d3 d4; simp only [heap_size_ad, heap_size_a] at d0 d1 d2 d3 d4; have lt2 := block_lt_of_cell d0; simp only at lt2; have b1 := below_eq hT; have k0 : w1.cell? ⟨w.heap.size, 0, none⟩ = some (.int .i64 9) := (World.cell?_of_block (b1.block _ (by first | (simp; done) | (simp; omega)))).trans (by simp); have k0a := fun o : Obj => (World.cell?_alloc_some w1 _ o (by rw [k0]; rfl)).trans k0; have d0a := fun o : Obj => (World.cell?_alloc_some w1 _ o (by rw [d0]; rfl)).trans d0; have d1a := fun o : Obj => (World.cell?_alloc_some w1 _ o (by rw [d1]; rfl)).trans d1; have d2a := fun o : Obj => (World.cell?_alloc_some w1 _ o (by rw [d2]; rfl)).trans d2; have d3a := fun o : Obj => (World.cell?_alloc_some w1 _ o (by rw [d3]; rfl)).trans d3; have d4a := fun o : Obj => (World.cell?_alloc_some w1 _ o (by rw [d4]; rfl)).trans d4; have lt1 := b1.size; simp at lt1; (try (obtain ⟨⟨z0, z1, z2, z3, z4⟩, y0, y1, y2, y3, y4⟩ := row5 (old_row b1); simp at z0 z1 z2 z3 z4 y0 y1 y2 y3 y4)); clear hT))
  all_goals refine NoPanic.normal ?_
  all_goals first
    | (generalize hW : World.alloc w1 _ = W2
       generalize hg2 : w1.heap.size = g2
       obtain ⟨r0, r2, x0, x1, x2, bw⟩ : LBox5 w W2 g2 _ _ _ _ _ := by rw [← hW, ← hg2]; exact lboxA5 b1
       clear hW hg2)
    | (generalize hW : World.setCell (World.setCell (World.setCell (World.setCell (World.setCell w1 _ _) _ _) _ _) _ _) _ _ = W2
       generalize hg2 : w.heap.size + 1 = g2
       obtain ⟨r0, r2, x0, x1, x2, bw⟩ : LBox5 w W2 g2 _ _ _ _ _ := by rw [← hW, ← hg2]; exact lboxB5 b1
       clear hW hg2)
  all_goals have BW := Lib.hid bw
  all_goals have hlg := block_lt_of_cell r0
  all_goals have hlw := block_lt_of_cell x0
  all_goals clear d0a d1a d2a d3a d4a k0a d0 d1 d2 d3 d4 k0 b1 bw lt1 lt2
  all_goals
    go_wp2
    refine wp_region_noPanic ?_
    go_region_with (first | (go_at_call 38; refine (rones_walk _).mono ?_; rintro e w3 ⟨rfl, T3, hT3⟩; have b3 := below_eq hT3; have st : w3.cell? ⟨W2.heap.size, k, none⟩ = some (.string (onesB.getD k ⟨#[]⟩)) := strs_cell hT3 k hk2; have m1 : w3.cell? ⟨w.heap.size, 1, none⟩ = some (.int .i64 (k : Int)) := (World.cell?_of_block (b3.block _ hlw)).trans x1; clear hT3))
  all_goals
    refine NoPanic.normal ?_
    have BF := Lib.hid ((BW.out.trans ((below_drew W2).mono BW.out.size)).trans (b3.mono (BW.out.trans ((below_drew W2).mono BW.out.size)).size))
    clear b3 m1 r0 r2 x0 x1 x2
    go_wp2
    go_ret
    exact ⟨congrArg (fun z => Ending.returned (Value.string z)) (by first | rfl | exact S_at onesB k hk2), BF.out⟩

set_option maxRecDepth 100000 in
set_option maxHeartbeats 16000000 in
theorem rline_twos (k : Nat) (x : Nat) (hk : k < 13) (w : World) : Calls Tryd.prog 25 #[.agg #[.int .i64 10, .int .i64 (k : Int), .float .f64 x]] w fun e w' => e = .returned (.string (S ((twosB.getD k ⟨#[]⟩).data.toList))) ∧ Below w.heap.size w w' := by
  obtain ⟨lo, hlo⟩ : ∃ lo, lo = (lhAt ((10 : Nat) : Int)).1 := ⟨_, rfl⟩
  obtain ⟨hg, hhg⟩ : ∃ hg, hg = (lhAt ((10 : Nat) : Int)).2 := ⟨_, rfl⟩
  obtain ⟨wd, hwd⟩ : ∃ wd : ByteArray, wd = ⟨(rowAt ((10 : Nat) : Int)).1.toArray⟩ := ⟨_, rfl⟩
  obtain ⟨tk, htk⟩ : ∃ tk, tk = (rowAt ((10 : Nat) : Int)).2.2.1 := ⟨_, rfl⟩
  obtain ⟨ly, hly⟩ : ∃ ly, ly = (rowAt ((10 : Nat) : Int)).2.2.2 := ⟨_, rfl⟩
  have DC := fun (w : World) (T : TypeId) => dcell_at w T 10 (by omega)
  rw [← hlo, ← hhg, ← hwd, ← htk, ← hly] at DC
  have DC10 : ∀ (w : World) (T : TypeId), (w.alloc (.cells drowsC T)).cell? ⟨w.heap.size, 50, none⟩ = some (.string wd) ∧ (w.alloc (.cells drowsC T)).cell? ⟨w.heap.size, 51, none⟩ = some (.int .i64 lo) ∧ (w.alloc (.cells drowsC T)).cell? ⟨w.heap.size, 52, none⟩ = some (.int .i64 hg) ∧ (w.alloc (.cells drowsC T)).cell? ⟨w.heap.size, 53, none⟩ = some (.int .i64 tk) ∧ (w.alloc (.cells drowsC T)).cell? ⟨w.heap.size, 54, none⟩ = some (.int .i64 ly) := DC
  clear hlo hhg hwd htk hly DC
  have hk2 : k < twosB.length := hk
  have hk3 : (k : Int) < 13 := by omega
  go_enter Tryd.func25, Tryd.ntmps25
  go_wp2
  refine wp_region_noPanic ?_
  go_region_with (first | (go_at_call 20; refine (drows_walk _).mono ?_; rintro e w1 ⟨rfl, T, hT⟩; obtain ⟨d0, d1, d2, d3, d4⟩ := DC10 _ T; rw [← hT] at d0 d1 d2 d3 d4; simp only [heap_size_ad, heap_size_a] at d0 d1 d2 d3 d4; have lt2 := block_lt_of_cell d0; simp only at lt2; have b1 := below_eq hT; have k0 : w1.cell? ⟨w.heap.size, 0, none⟩ = some (.int .i64 10) := (World.cell?_of_block (b1.block _ (by first | (simp; done) | (simp; omega)))).trans (by simp); have k0a := fun o : Obj => (World.cell?_alloc_some w1 _ o (by rw [k0]; rfl)).trans k0; have d0a := fun o : Obj => (World.cell?_alloc_some w1 _ o (by rw [d0]; rfl)).trans d0; have d1a := fun o : Obj => (World.cell?_alloc_some w1 _ o (by rw [d1]; rfl)).trans d1; have d2a := fun o : Obj => (World.cell?_alloc_some w1 _ o (by rw [d2]; rfl)).trans d2; have d3a := fun o : Obj => (World.cell?_alloc_some w1 _ o (by rw [d3]; rfl)).trans d3; have d4a := fun o : Obj => (World.cell?_alloc_some w1 _ o (by rw [d4]; rfl)).trans d4; have lt1 := b1.size; simp at lt1; (try (obtain ⟨⟨z0, z1, z2, z3, z4⟩, y0, y1, y2, y3, y4⟩ := row5 (old_row b1); simp at z0 z1 z2 z3 z4 y0 y1 y2 y3 y4)); clear hT))
  all_goals refine NoPanic.normal ?_
  all_goals first
    | (generalize hW : World.alloc w1 _ = W2
       generalize hg2 : w1.heap.size = g2
       obtain ⟨r0, r2, x0, x1, x2, bw⟩ : LBox5 w W2 g2 _ _ _ _ _ := by rw [← hW, ← hg2]; exact lboxA5 b1
       clear hW hg2)
    | (generalize hW : World.setCell (World.setCell (World.setCell (World.setCell (World.setCell w1 _ _) _ _) _ _) _ _) _ _ = W2
       generalize hg2 : w.heap.size + 1 = g2
       obtain ⟨r0, r2, x0, x1, x2, bw⟩ : LBox5 w W2 g2 _ _ _ _ _ := by rw [← hW, ← hg2]; exact lboxB5 b1
       clear hW hg2)
  all_goals have BW := Lib.hid bw
  all_goals have hlg := block_lt_of_cell r0
  all_goals have hlw := block_lt_of_cell x0
  all_goals clear d0a d1a d2a d3a d4a k0a d0 d1 d2 d3 d4 k0 b1 bw lt1 lt2
  all_goals
    go_wp2
    refine wp_region_noPanic ?_
    go_region_with (first | (go_at_call 39; refine (rtwos_walk _).mono ?_; rintro e w3 ⟨rfl, T3, hT3⟩; have b3 := below_eq hT3; have st : w3.cell? ⟨W2.heap.size, k, none⟩ = some (.string (twosB.getD k ⟨#[]⟩)) := strs_cell hT3 k hk2; have m1 : w3.cell? ⟨w.heap.size, 1, none⟩ = some (.int .i64 (k : Int)) := (World.cell?_of_block (b3.block _ hlw)).trans x1; clear hT3))
  all_goals
    refine NoPanic.normal ?_
    have BF := Lib.hid ((BW.out.trans ((below_drew W2).mono BW.out.size)).trans (b3.mono (BW.out.trans ((below_drew W2).mono BW.out.size)).size))
    clear b3 m1 r0 r2 x0 x1 x2
    go_wp2
    go_ret
    exact ⟨congrArg (fun z => Ending.returned (Value.string z)) (by first | rfl | exact S_at twosB k hk2), BF.out⟩
end Go.Proofs.YtjlnhifleepnoaaDoor
