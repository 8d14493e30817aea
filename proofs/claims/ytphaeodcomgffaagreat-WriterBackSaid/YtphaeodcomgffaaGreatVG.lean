import Derived.Test.YtphaeodcomgffaaGreatVF
import Derived.Test.YtphaeodcomgffaaGreatEE
import Derived.Deep.QuietTactic
set_option linter.unusedVariables false
set_option linter.unusedSimpArgs false
namespace Go.Proofs.YtphaeodcomgffaaGreat
open Go.RowKit

/-! The writer: a step of its program. -/
/-- Behind a move of the machine. -/
theorem WIs.moved {ro ro1 : Nat → Nat} {r : Nat} {w w1 : World} {X C tag code args s q m' p1 R} (h : WIs ro r w X C tag code args s q) (mv : Mv ro R w ro1 w1) (hR : ∀ x ∈ R, x ≤ r + 15 ∨ r + 24 < x) (k : MIs ro1 r w1 q.M C tag code m' p1) : WIs ro1 r w1 X C tag code args ({ s with m := m' } : Wr) { q with p := p1 } := by
  have j : ∀ i, 20 ≤ i → i ≤ 24 → r + i ∉ R := fun i hi hn hx => by have := hR _ hx; omega
  exact ⟨h.blk.keep mv (j 20 (by omega) (by omega)), k, fun g hg => (h.scan g hg).keep mv (j 21 (by omega) (by omega)), fun b hb => (h.back b hb).keep mv (j 22 (by omega) (by omega)), h.args.keep mv (j 23 (by omega) (by omega)), h.was.keep mv (j 24 (by omega) (by omega))⟩
theorem end_how (u0 u1 u2 : Value) (W : World) : (Instr.field 61 (.agg #[u0, u1, u2]) 0).run Tryz.prog W = .ok u0 W := by kernel_rfl
/-- A number more that was there. -/
theorem WIs.wrote {ro ro6 : Nat → Nat} {r : Nat} {w w6 : World} {X C tag code args s q v'} {l : List Nat} (h : WIs ro r w X C tag code args s q) (m6 : Mv ro [r + 24] w ro6 w6) (o6 : OwnL cF ro6 (r + 24) w6 74 1 v' l) :
    WIs ro6 r (w6.setCell ⟨X, 16, none⟩ v') X C tag code args ({ s with was := l } : Wr) { q with vw := v' } ∧ Mv ro6 [r + 20] w6 ro6 (w6.setCell ⟨X, 16, none⟩ v') := by
  have k6 := h.blk.keep m6 (by simp)
  have mX : Mv ro6 [r + 20] w6 ro6 (w6.setCell ⟨X, 16, none⟩ v') := (Mv.refl _ _ _).setCell (p := ⟨X, 16, none⟩) (by show ro6 X ∈ _; rw [k6.role]; simp) _
  exact ⟨⟨k6.put (i := 16) rfl, (h.mach.keep m6 (by simp)).keep mX (by simp), fun g hg => ((h.scan g hg).keep m6 (by simp)).keep mX (by simp), fun b hb => ((h.back b hb).keep m6 (by simp)).keep mX (by simp), (h.args.keep m6 (by simp)).keep mX (by simp), o6.keep mX (by simp)⟩, mX⟩
/-- A look at the census, begun. -/
theorem WIs.scan0 {ro : Nat → Nat} {r : Nat} {w : World} {X C tag code args s q SB} (h : WIs ro r w X C tag code args s q) (b : Blk ro (r + 21) w SB (scanC C s.stamp 0 0) 199) :
    WIs ro r (w.setCell ⟨X, 17, none⟩ (.pointer (some ⟨SB, 0, none⟩))) X C tag code args ({ s with scan := some (0, 0) } : Wr) { q with SB := SB } ∧ Mv ro [r + 20] w ro (w.setCell ⟨X, 17, none⟩ (.pointer (some ⟨SB, 0, none⟩))) := by
  have mX : Mv ro [r + 20] w ro (w.setCell ⟨X, 17, none⟩ (.pointer (some ⟨SB, 0, none⟩))) := (Mv.refl _ _ _).setCell (p := ⟨X, 17, none⟩) (by show ro X ∈ _; rw [h.blk.role]; simp) _
  have hs : ∀ g, ({ s with scan := some (0, 0) } : Wr).scan = some g → Blk ro (r + 21) (w.setCell ⟨X, 17, none⟩ (.pointer (some ⟨SB, 0, none⟩))) SB (scanC C s.stamp g.1 g.2) 199 := fun g hg => by
    obtain rfl : ((0, 0) : Int × Int) = g := by simpa using hg
    exact b.keep mX (by simp)
  exact ⟨⟨h.blk.put (i := 17) rfl, h.mach.keep mX (by simp), hs, fun b' hb => (h.back b' hb).keep mX (by simp), h.args.keep mX (by simp), h.was.keep mX (by simp)⟩, mX⟩
set_option maxRecDepth 100000 in
set_option maxHeartbeats 4000000 in
/-- runs, where an instruction asks for nothing. -/
theorem runs_none {ro : Nat → Nat} {r rm : Nat} {w : World} {X : Nat} {C : Cfg} {tag : Int} {code : List Ins} {args : List Nat} {s : Wr} {q : Wp} {MB : Nat} {v : Value} {words : List Nat} {cnt : Int} {m' : Ms} {a : Ask} (hC : C.ok) (h : WIs ro r w X C tag code args s q) (hm : MemIs ro rm w MB v words true cnt) (hrm : rm + 1 < r ∨ r + 31 < rm) (hk1 : a.kind ≠ 1) (hk4 : a.kind ≠ 4) (hk3 : ¬ (a.kind = 3 ∧ a.first = true))
    (SW : Calls Tryz.prog 95 #[ptr q.M] w (StepP ro r w q.M C tag code (m', a))) :
    Calls Tryz.prog 151 #[ptr X, ptr MB] w (WrP ro r rm w X C tag code args ({ s with m := m' } : Wr) MB v words true cnt (.tuple #[])) := by
  have hc := h.blk.cell
  obtain ⟨a1, a2, a3, a4⟩ := a
  simp only at hk1 hk3 hk4
  have k1 : (a1 == 1) = false := by simpa using hk1
  have k4 : (a1 == 4) = false := by simpa using hk4
  have k3 : (a1 == 3) = false ∨ ((a1 == 3) = true ∧ a4 = false) := by
    by_cases e : a1 = 3
    · right; exact ⟨by simpa using e, by cases a4; rfl; exact absurd ⟨e, rfl⟩ hk3⟩
    · left; simpa using e
  unfold StepP Ask.v at SW
  unfold wcells at hc
  simp only [ptr] at hc SW ⊢
  have sf := run_store_float
  have H := Lib.hid h
  have HM := Lib.hid hm
  clear h hm hk1 hk3 hk4
  rcases k3 with k3 | ⟨k3, rfl⟩
  all_goals
    go_enter Tryz.func151, Tryz.ntmps151
    go_wp2_with (go_at_call 95; refine SW.mono ?_; rintro e w1 ⟨rfl, ro1, p1, k1, m1⟩; have x1 := H.out.moved m1 (by intro x hx; simp [mS] at hx; omega) k1; have hm1 := HM.out.keep m1 (by simp [mS]; omega) (by simp [mS]; omega); have hc1 := x1.blk.cell; have hf1 := x1.blk.free; have hlt1 := x1.blk.lt; unfold wcells at hc1; simp only [ptr] at hc1)
    go_end0
    exact ⟨rfl, ro1, { q with p := p1 }, x1.keep ((Mv.refl ro1 [] w1).alloc _) (by simp), hm1.keep ((Mv.refl ro1 [] w1).alloc _) (by simp) (by simp), (m1.mono (by intro x hx; simp [mS, wR] at hx ⊢; omega)).trans (((Mv.refl ro1 [] w1).alloc _).mono (by simp))⟩
set_option maxRecDepth 100000 in
set_option maxHeartbeats 4000000 in
/-- runs, where an instruction asks for a number of a cell. -/
theorem runs_read {ro : Nat → Nat} {r rm : Nat} {w : World} {X : Nat} {C : Cfg} {tag : Int} {code : List Ins} {args : List Nat} {s : Wr} {q : Wp} {MB : Nat} {v : Value} {words : List Nat} {cnt : Int} {m' : Ms} {a : Ask} (hC : C.ok) (h : WIs ro r w X C tag code args s q) (hm : MemIs ro rm w MB v words true cnt) (hrm : rm + 1 < r ∨ r + 31 < rm) (hk : a.kind = 1) (h0 : 0 ≤ a.cell) (h1 : a.cell < C.cells) (hw : m'.wait = some a.cell) (hst : m'.stack.length < 64) (hrd : m'.reads.length ≤ 4096) (hl : (words.length : Int) = 3 + C.threads + 3 * C.cells) (c0 : 0 ≤ cnt) (c1 : cnt ≤ 1000000000)
    (SW : Calls Tryz.prog 95 #[ptr q.M] w (StepP ro r w q.M C tag code (m', a))) :
    Calls Tryz.prog 151 #[ptr X, ptr MB] w (WrP ro r rm w X C tag code args ({ s with m := (m'.give (fx (words.getD (C.cellAt a.cell 1) 0))).1 } : Wr) MB v words false (cnt + 1) (.tuple #[])) := by
  have hc := h.blk.cell
  obtain ⟨a1, a2, a3, a4⟩ := a
  simp only at hk h0 h1 hw ⊢
  subst hk
  rw [give_eq hw]
  have NW := fun ro' W (k : MemIs ro' rm W MB v words true cnt) => now_walk hC k a2 h0 h1 hl c0 c1
  unfold LdP planV at NW
  generalize fx (words.getD (C.cellAt a2 1) 0) = y at *
  have VW := fun (ro' : Nat → Nat) W p' (k : MIs ro' r W q.M C tag code m' p') => give_walk k y hw hst hrd
  unfold UpM at VW
  unfold StepP Ask.v at SW
  unfold wcells at hc
  simp only [ptr] at hc SW NW VW ⊢
  have sf := run_store_float
  have H := Lib.hid h
  have HM := Lib.hid hm
  clear h hm hw
  go_enter Tryz.func151, Tryz.ntmps151
  go_wp2_with (go_at_call 95; refine SW.mono ?_; rintro e w1 ⟨rfl, ro1, p1, k1, m1⟩; have x1 := H.out.moved m1 (by intro x hx; simp [mS] at hx; omega) k1; have hm1 := HM.out.keep m1 (by simp [mS]; omega) (by simp [mS]; omega); have hc1 := x1.blk.cell; have hf1 := x1.blk.free; have hlt1 := x1.blk.lt; unfold wcells at hc1; simp only [ptr] at hc1)
  generalize hW : w1.alloc (.cells #[.int .i64 1, .int .i64 a2, .float .f64 a3, .bool a4] 139) = W1 at *
  have mW : Mv ro1 [] w1 (setRo ro1 w1.heap.size (r + 25)) W1 := by rw [← hW]; exact ((Mv.refl _ _ _).alloc _).give (Nat.le_refl _)
  have bW : Blk (setRo ro1 w1.heap.size (r + 25)) (r + 25) W1 w1.heap.size #[.int .i64 1, .int .i64 a2, .float .f64 a3, .bool a4] 139 := by rw [← hW]; exact Blk.new _ _ _ _ _
  generalize setRo ro1 w1.heap.size (r + 25) = roW at *
  generalize w1.heap.size = AB at *
  have XW := Lib.hid (x1.keep mW (by simp))
  have BW := Lib.hid bW
  have MMW := Lib.hid mW
  have HM1 := Lib.hid (hm1.keep mW (by simp) (by simp))
  have M1 := Lib.hid m1
  have hcW := XW.out.blk.cell
  have hfW := XW.out.blk.free
  have haW := bW.cell
  unfold wcells at hcW
  simp only [ptr] at hcW
  clear hW mW bW x1 hm1 hc1 hf1 hlt1 m1 k1 hc
  refine wp_region_noPanic ?_
  refine wp_region_held_drew (S := fun W => (W.cell? ⟨X, 1, none⟩ = some (.int .i64 0) ∧ W.cell? ⟨X, 2, none⟩ = some (.int .i64 1) ∧ W.cell? ⟨X, 3, none⟩ = some (.int .i64 2) ∧ W.cell? ⟨X, 4, none⟩ = some (.int .i64 3) ∧ W.cell? ⟨X, 5, none⟩ = some (.int .i64 (3 + C.threads)) ∧ W.cell? ⟨X, 6, none⟩ = some (.int .i64 (3 + C.threads + 3 * C.cells)) ∧ W.cell? ⟨AB, 1, none⟩ = some (.int .i64 a2))) (by kernel_rfl) ⟨hcW 1, hcW 2, hcW 3, hcW 4, hcW 5, hcW 6, haW 1⟩ (fun hHeld => ?_)
  refine' wpAnyH_take (i := 0) (v := _) rfl (by kernel_rfl) (by kernel_rfl) (by kernel_rfl) (fun _ _ _ h => h) (Or.inl ⟨by kernel_rfl, ?hy1⟩) (by assumption) ?rest1
  case hy1 => (intro w hSw; (try dsimp only at hSw); go_simp; try with_reducible rfl)
  try simp only [Act.put, List.getElem_toArray, List.getElem_cons_succ, List.getElem_cons_zero, List.setIfInBounds_toArray, List.set_cons_zero, List.set_cons_succ]
  refine' wpAnyH_take (i := 1) (v := _) rfl (by kernel_rfl) (by kernel_rfl) (by kernel_rfl) (fun _ _ _ h => h) (Or.inl ⟨by kernel_rfl, ?hy2⟩) (by assumption) ?rest2
  case hy2 => (intro w hSw; (try dsimp only at hSw); go_simp; try with_reducible rfl)
  try simp only [Act.put, List.getElem_toArray, List.getElem_cons_succ, List.getElem_cons_zero, List.setIfInBounds_toArray, List.set_cons_zero, List.set_cons_succ]
  refine' wpAnyH_take (i := 2) (v := _) rfl (by kernel_rfl) (by kernel_rfl) (by kernel_rfl) (fun _ _ _ h => h) (Or.inl ⟨by kernel_rfl, ?hy3⟩) (by assumption) ?rest3
  case hy3 => (intro w hSw; (try dsimp only at hSw); go_simp; try with_reducible rfl)
  try simp only [Act.put, List.getElem_toArray, List.getElem_cons_succ, List.getElem_cons_zero, List.setIfInBounds_toArray, List.set_cons_zero, List.set_cons_succ]
  refine' wpAnyH_take (i := 3) (v := _) rfl (by kernel_rfl) (by kernel_rfl) (by kernel_rfl) (fun _ _ _ h => h) (Or.inl ⟨by kernel_rfl, ?hy4⟩) (by assumption) ?rest4
  case hy4 => (intro w hSw; (try dsimp only at hSw); go_simp; try with_reducible rfl)
  try simp only [Act.put, List.getElem_toArray, List.getElem_cons_succ, List.getElem_cons_zero, List.setIfInBounds_toArray, List.set_cons_zero, List.set_cons_succ]
  refine' wpAnyH_take (i := 4) (v := _) rfl (by kernel_rfl) (by kernel_rfl) (by kernel_rfl) (fun _ _ _ h => h) (Or.inl ⟨by kernel_rfl, ?hy5⟩) (by assumption) ?rest5
  case hy5 => (intro w hSw; (try dsimp only at hSw); go_simp; try with_reducible rfl)
  try simp only [Act.put, List.getElem_toArray, List.getElem_cons_succ, List.getElem_cons_zero, List.setIfInBounds_toArray, List.set_cons_zero, List.set_cons_succ]
  refine' wpAnyH_take (i := 5) (v := _) rfl (by kernel_rfl) (by kernel_rfl) (by kernel_rfl) (fun _ _ _ h => h) (Or.inl ⟨by kernel_rfl, ?hy6⟩) (by assumption) ?rest6
  case hy6 => (intro w hSw; (try dsimp only at hSw); go_simp; try with_reducible rfl)
  try simp only [Act.put, List.getElem_toArray, List.getElem_cons_succ, List.getElem_cons_zero, List.setIfInBounds_toArray, List.set_cons_zero, List.set_cons_succ]
  refine' wpAnyH_take (i := 6) (v := _) rfl (by kernel_rfl) (by kernel_rfl) (by kernel_rfl) (fun _ _ _ h => h) (Or.inl ⟨by kernel_rfl, ?hy7⟩) (by assumption) ?rest7
  case hy7 => (intro w hSw; (try dsimp only at hSw); go_simp; try with_reducible rfl)
  try simp only [Act.put, List.getElem_toArray, List.getElem_cons_succ, List.getElem_cons_zero, List.setIfInBounds_toArray, List.set_cons_zero, List.set_cons_succ]
  refine wpAnyH_ready (rs := [7]) (by kernel_rfl) (by simp) ?_
  refine AllReadyH.cons rfl (fun K hK => ?_) ?_
  rotate_left
  · exact AllReadyH.nil
  go_simp
  go_at_call 192
  refine (NW roW _ (HM1.out.keep (Mv.refl roW [] W1).drew (by simp) (by simp))).mono ?_
  rintro e w2 ⟨rfl, q2, m2⟩
  have m2d : Mv roW [rm] W1 roW w2 := ((Mv.refl roW [] W1).drew.mono (by simp)).trans m2
  have x2 := XW.out.keep m2d (by intro x hx; simp at hx; omega)
  have hc2 := x2.blk.cell
  unfold wcells at hc2
  simp only [ptr] at hc2
  have b2 := (BW.out.keep m2d (by simp; omega)).cell
  try dsimp only
  refine hK.out _ _ ⟨hc2 1, hc2 2, hc2 3, hc2 4, hc2 5, hc2 6, b2 1⟩ (fun hHeld => ?_)
  clear hK K
  refine' wpAnyH_take (i := 8) (v := _) rfl (by kernel_rfl) (by kernel_rfl) (by kernel_rfl) (fun _ _ _ h => h) (Or.inl ⟨by kernel_rfl, ?hy8⟩) (by assumption) ?rest8
  case hy8 => (intro w hSw; (try dsimp only at hSw); go_simp; try with_reducible rfl)
  try simp only [Act.put, List.getElem_toArray, List.getElem_cons_succ, List.getElem_cons_zero, List.setIfInBounds_toArray, List.set_cons_zero, List.set_cons_succ]
  refine' wpAnyH_take (i := 9) (v := _) rfl (by kernel_rfl) (by kernel_rfl) (by kernel_rfl) (fun _ _ _ h => h) (Or.inl ⟨by kernel_rfl, ?hy9⟩) (by assumption) ?rest9
  case hy9 => (intro w hSw; (try dsimp only at hSw); go_simp; try with_reducible rfl)
  try simp only [Act.put, List.getElem_toArray, List.getElem_cons_succ, List.getElem_cons_zero, List.setIfInBounds_toArray, List.set_cons_zero, List.set_cons_succ]
  refine' wpAnyH_take (i := 10) (v := _) rfl (by kernel_rfl) (by kernel_rfl) (by kernel_rfl) (fun _ _ _ h => h) (Or.inl ⟨by kernel_rfl, ?hy10⟩) (by assumption) ?rest10
  case hy10 => (intro w hSw; (try dsimp only at hSw); go_simp; try with_reducible rfl)
  try simp only [Act.put, List.getElem_toArray, List.getElem_cons_succ, List.getElem_cons_zero, List.setIfInBounds_toArray, List.set_cons_zero, List.set_cons_succ]
  refine' wpAnyH_take (i := 11) (v := _) rfl (by kernel_rfl) (by kernel_rfl) (by kernel_rfl) (fun _ _ _ h => h) (Or.inl ⟨by kernel_rfl, ?hy11⟩) (by assumption) ?rest11
  case hy11 => (intro w hSw; (try dsimp only at hSw); go_simp; try with_reducible rfl)
  try simp only [Act.put, List.getElem_toArray, List.getElem_cons_succ, List.getElem_cons_zero, List.setIfInBounds_toArray, List.set_cons_zero, List.set_cons_succ]
  refine' wpAnyH_take (i := 12) (v := _) rfl (by kernel_rfl) (by kernel_rfl) (by kernel_rfl) (fun _ _ _ h => h) (Or.inl ⟨by kernel_rfl, ?hy12⟩) (by assumption) ?rest12
  case hy12 => (intro w hSw; (try dsimp only at hSw); go_simp; try with_reducible rfl)
  try simp only [Act.put, List.getElem_toArray, List.getElem_cons_succ, List.getElem_cons_zero, List.setIfInBounds_toArray, List.set_cons_zero, List.set_cons_succ]
  refine wpAnyH_done (by kernel_rfl) ?_ _
  refine NoPanic.normal ?_
  have X2 := Lib.hid x2
  have M2 := Lib.hid m2d
  clear x2 m2 m2d hcW hfW haW
  go_wp2_with (go_at_call 97; refine (VW roW _ _ X2.out.mach).mono ?_; rintro e w3 ⟨rfl, ro3, p3, k3, m3⟩)
  go_end0
  exact ⟨rfl, ro3, { q with p := p3 }, X2.out.moved m3 (by intro x hx; simp [mR] at hx; omega) k3, q2.keep m3 (by simp [mR]; omega) (by simp [mR]; omega), (((M1.out.mono (by intro x hx; simp [mS, wR] at hx ⊢; omega)).trans (MMW.out.mono (by simp))).trans (M2.out.mono (by simp))).trans (m3.mono (by intro x hx; simp [mR, wR] at hx ⊢; omega))⟩
set_option maxRecDepth 100000 in
set_option maxHeartbeats 4000000 in
/-- runs, where it ends otherwise than committed. -/
theorem runs_fail {ro : Nat → Nat} {r rm : Nat} {w : World} {X : Nat} {C : Cfg} {tag : Int} {code : List Ins} {args : List Nat} {s : Wr} {q : Wp} {MB : Nat} {v : Value} {words : List Nat} {cnt : Int} {m' : Ms} {a : Ask} (hC : C.ok) (h : WIs ro r w X C tag code args s q) (hm : MemIs ro rm w MB v words true cnt) (hrm : rm + 1 < r ∨ r + 31 < rm) (hk : a.kind = 4) (hh : m'.how ≠ 1)
    (SW : Calls Tryz.prog 95 #[ptr q.M] w (StepP ro r w q.M C tag code (m', a))) :
    Calls Tryz.prog 151 #[ptr X, ptr MB] w (WrP ro r rm w X C tag code args ({ s with m := m', part := 8 } : Wr) MB v words true cnt (.tuple #[])) := by
  have hc := h.blk.cell
  obtain ⟨a1, a2, a3, a4⟩ := a
  simp only at hk
  subst hk
  have GW := fun ro' p' W (b : Blk ro' (r + 20) W X (wcells C tag ({ s with m := m' } : Wr) { q with p := p' }) 152) => goes_walk b 8 (by decide)
  have EW := fun (ro' : Nat → Nat) W p' (k : MIs ro' r W q.M C tag code m' p') => end_walk k
  have hh' : (m'.how == 1) = false := by simpa using hh
  unfold wcells at GW
  have fl := end_how
  unfold StepP Ask.v at SW
  unfold wcells at hc
  simp only [ptr] at hc SW EW GW ⊢
  have sf := run_store_float
  have H := Lib.hid h
  have HM := Lib.hid hm
  clear h hm
  go_enter Tryz.func151, Tryz.ntmps151
  go_wp2_with (go_at_call 95; refine SW.mono ?_; rintro e w1 ⟨rfl, ro1, p1, k1, m1⟩; have x1 := H.out.moved m1 (by intro x hx; simp [mS] at hx; omega) k1; have hm1 := HM.out.keep m1 (by simp [mS]; omega) (by simp [mS]; omega); have hc1 := x1.blk.cell; have hf1 := x1.blk.free; have hlt1 := x1.blk.lt; unfold wcells at hc1; simp only [ptr] at hc1)
  generalize hW : w1.alloc (.cells #[.int .i64 4, .int .i64 a2, .float .f64 a3, .bool a4] 139) = W1 at *
  have mW : Mv ro1 [] w1 (setRo ro1 w1.heap.size (r + 25)) W1 := by rw [← hW]; exact ((Mv.refl _ _ _).alloc _).give (Nat.le_refl _)
  have bW : Blk (setRo ro1 w1.heap.size (r + 25)) (r + 25) W1 w1.heap.size #[.int .i64 4, .int .i64 a2, .float .f64 a3, .bool a4] 139 := by rw [← hW]; exact Blk.new _ _ _ _ _
  generalize setRo ro1 w1.heap.size (r + 25) = roW at *
  generalize w1.heap.size = AB at *
  have XW := Lib.hid (x1.keep mW (by simp))
  have BW := Lib.hid bW
  have MMW := Lib.hid mW
  have HM1 := Lib.hid (hm1.keep mW (by simp) (by simp))
  have M1 := Lib.hid m1
  have hcW := XW.out.blk.cell
  have hfW := XW.out.blk.free
  have haW := bW.cell
  unfold wcells at hcW
  simp only [ptr] at hcW
  clear hW mW bW x1 hm1 hc1 hf1 hlt1 m1 k1 hc
  go_wp2_with (first
    | (go_at_call 81; refine (EW roW _ _ XW.out.mach).mono ?_; rintro e w2 ⟨rfl, b2⟩; have m2 := Mv.of_below (R := []) (ro := roW) b2; have x2 := XW.out.keep m2 (by simp); have hc2 := x2.blk.cell; have ha2 := (BW.out.keep m2 (by simp)).cell; unfold wcells at hc2; simp only [ptr] at hc2)
    | (go_at_call 117; refine (GW roW p1 _ x2.blk).mono ?_; rintro e w3 ⟨rfl, x4, m4⟩))
  go_end0
  exact ⟨rfl, roW, { q with p := p1 }, x2.cells m4 x4 rfl (fun g hg => ⟨hg, rfl⟩) (fun g hg => hg) rfl, (HM1.out.keep m2 (by simp) (by simp)).keep m4 (by simp; omega) (by simp; omega), (((M1.out.mono (by intro x hx; simp [mS, wR] at hx ⊢; omega)).trans (MMW.out.mono (by simp))).trans (m2.mono (by simp))).trans (m4.mono (by simp [wR]))⟩
set_option maxRecDepth 100000 in
set_option maxHeartbeats 4000000 in
/-- runs, where an instruction writes to a cell for the first time. -/
theorem runs_write {ro : Nat → Nat} {r rm : Nat} {w : World} {X : Nat} {C : Cfg} {tag : Int} {code : List Ins} {args : List Nat} {s : Wr} {q : Wp} {MB : Nat} {v : Value} {words : List Nat} {cnt : Int} {m' : Ms} {a : Ask} (hC : C.ok) (h : WIs ro r w X C tag code args s q) (hm : MemIs ro rm w MB v words true cnt) (hrm : rm + 1 < r ∨ r + 31 < rm) (hk : a.kind = 3) (hf : a.first = true) (h0 : 0 ≤ a.cell) (h1 : a.cell < C.cells) (hwl : s.was.length ≤ 64) (hl : (words.length : Int) = 3 + C.threads + 3 * C.cells) (c0 : 0 ≤ cnt) (c1 : cnt ≤ 1000000000)
    (SW : Calls Tryz.prog 95 #[ptr q.M] w (StepP ro r w q.M C tag code (m', a))) :
    Calls Tryz.prog 151 #[ptr X, ptr MB] w (WrP ro r rm w X C tag code args ({ s with m := m', was := s.was ++ [fx (words.getD (C.cellAt a.cell 1) 0)] } : Wr) MB v words false (cnt + 1) (.tuple #[])) := by
  have hc := h.blk.cell
  obtain ⟨a1, a2, a3, a4⟩ := a
  simp only at hk hf h0 h1 ⊢
  subst hk
  subst hf
  have NW := fun ro' W (k : MemIs ro' rm W MB v words true cnt) => now_walk hC k a2 h0 h1 hl c0 c1
  unfold LdP planV at NW
  generalize fx (words.getD (C.cellAt a2 1) 0) = y at *
  obtain ⟨vp, vcp, hvw⟩ := h.was.form
  have HVW := Lib.hid hvw
  obtain ⟨i0, hi0, hz0, hs0, hby0⟩ := info_three infoF
  have I0 := Lib.hid hi0
  clear hvw hi0
  unfold StepP Ask.v at SW
  unfold wcells at hc
  simp only [ptr] at hc SW NW ⊢
  have sf := run_store_float
  have H := Lib.hid h
  have HM := Lib.hid hm
  clear h hm
  go_enter Tryz.func151, Tryz.ntmps151
  go_wp2_with (go_at_call 95; refine SW.mono ?_; rintro e w1 ⟨rfl, ro1, p1, k1, m1⟩; have x1 := H.out.moved m1 (by intro x hx; simp [mS] at hx; omega) k1; have hm1 := HM.out.keep m1 (by simp [mS]; omega) (by simp [mS]; omega); have hc1 := x1.blk.cell; have hf1 := x1.blk.free; have hlt1 := x1.blk.lt; unfold wcells at hc1; simp only [ptr] at hc1)
  generalize hW : w1.alloc (.cells #[.int .i64 3, .int .i64 a2, .float .f64 a3, .bool true] 139) = W1 at *
  have mW : Mv ro1 [] w1 (setRo ro1 w1.heap.size (r + 25)) W1 := by rw [← hW]; exact ((Mv.refl _ _ _).alloc _).give (Nat.le_refl _)
  have bW : Blk (setRo ro1 w1.heap.size (r + 25)) (r + 25) W1 w1.heap.size #[.int .i64 3, .int .i64 a2, .float .f64 a3, .bool true] 139 := by rw [← hW]; exact Blk.new _ _ _ _ _
  generalize setRo ro1 w1.heap.size (r + 25) = roW at *
  generalize w1.heap.size = AB at *
  have XW := Lib.hid (x1.keep mW (by simp))
  have BW := Lib.hid bW
  have MMW := Lib.hid mW
  have HM1 := Lib.hid (hm1.keep mW (by simp) (by simp))
  have M1 := Lib.hid m1
  have hcW := XW.out.blk.cell
  have hfW := XW.out.blk.free
  have haW := bW.cell
  unfold wcells at hcW
  simp only [ptr] at hcW
  clear hW mW bW x1 hm1 hc1 hf1 hlt1 m1 k1 hc
  refine wp_region_noPanic ?_
  refine wp_region_held_drew (S := fun W => (W.cell? ⟨X, 1, none⟩ = some (.int .i64 0) ∧ W.cell? ⟨X, 2, none⟩ = some (.int .i64 1) ∧ W.cell? ⟨X, 3, none⟩ = some (.int .i64 2) ∧ W.cell? ⟨X, 4, none⟩ = some (.int .i64 3) ∧ W.cell? ⟨X, 5, none⟩ = some (.int .i64 (3 + C.threads)) ∧ W.cell? ⟨X, 6, none⟩ = some (.int .i64 (3 + C.threads + 3 * C.cells)) ∧ W.cell? ⟨AB, 1, none⟩ = some (.int .i64 a2))) (by kernel_rfl) ⟨hcW 1, hcW 2, hcW 3, hcW 4, hcW 5, hcW 6, haW 1⟩ (fun hHeld => ?_)
  refine' wpAnyH_take (i := 0) (v := _) rfl (by kernel_rfl) (by kernel_rfl) (by kernel_rfl) (fun _ _ _ h => h) (Or.inl ⟨by kernel_rfl, ?hy13⟩) (by assumption) ?rest13
  case hy13 => (intro w hSw; (try dsimp only at hSw); go_simp; try with_reducible rfl)
  try simp only [Act.put, List.getElem_toArray, List.getElem_cons_succ, List.getElem_cons_zero, List.setIfInBounds_toArray, List.set_cons_zero, List.set_cons_succ]
  refine' wpAnyH_take (i := 1) (v := _) rfl (by kernel_rfl) (by kernel_rfl) (by kernel_rfl) (fun _ _ _ h => h) (Or.inl ⟨by kernel_rfl, ?hy14⟩) (by assumption) ?rest14
  case hy14 => (intro w hSw; (try dsimp only at hSw); go_simp; try with_reducible rfl)
  try simp only [Act.put, List.getElem_toArray, List.getElem_cons_succ, List.getElem_cons_zero, List.setIfInBounds_toArray, List.set_cons_zero, List.set_cons_succ]
  refine' wpAnyH_take (i := 2) (v := _) rfl (by kernel_rfl) (by kernel_rfl) (by kernel_rfl) (fun _ _ _ h => h) (Or.inl ⟨by kernel_rfl, ?hy15⟩) (by assumption) ?rest15
  case hy15 => (intro w hSw; (try dsimp only at hSw); go_simp; try with_reducible rfl)
  try simp only [Act.put, List.getElem_toArray, List.getElem_cons_succ, List.getElem_cons_zero, List.setIfInBounds_toArray, List.set_cons_zero, List.set_cons_succ]
  refine' wpAnyH_take (i := 3) (v := _) rfl (by kernel_rfl) (by kernel_rfl) (by kernel_rfl) (fun _ _ _ h => h) (Or.inl ⟨by kernel_rfl, ?hy16⟩) (by assumption) ?rest16
  case hy16 => (intro w hSw; (try dsimp only at hSw); go_simp; try with_reducible rfl)
  try simp only [Act.put, List.getElem_toArray, List.getElem_cons_succ, List.getElem_cons_zero, List.setIfInBounds_toArray, List.set_cons_zero, List.set_cons_succ]
  refine' wpAnyH_take (i := 4) (v := _) rfl (by kernel_rfl) (by kernel_rfl) (by kernel_rfl) (fun _ _ _ h => h) (Or.inl ⟨by kernel_rfl, ?hy17⟩) (by assumption) ?rest17
  case hy17 => (intro w hSw; (try dsimp only at hSw); go_simp; try with_reducible rfl)
  try simp only [Act.put, List.getElem_toArray, List.getElem_cons_succ, List.getElem_cons_zero, List.setIfInBounds_toArray, List.set_cons_zero, List.set_cons_succ]
  refine' wpAnyH_take (i := 5) (v := _) rfl (by kernel_rfl) (by kernel_rfl) (by kernel_rfl) (fun _ _ _ h => h) (Or.inl ⟨by kernel_rfl, ?hy18⟩) (by assumption) ?rest18
  case hy18 => (intro w hSw; (try dsimp only at hSw); go_simp; try with_reducible rfl)
  try simp only [Act.put, List.getElem_toArray, List.getElem_cons_succ, List.getElem_cons_zero, List.setIfInBounds_toArray, List.set_cons_zero, List.set_cons_succ]
  refine' wpAnyH_take (i := 6) (v := _) rfl (by kernel_rfl) (by kernel_rfl) (by kernel_rfl) (fun _ _ _ h => h) (Or.inl ⟨by kernel_rfl, ?hy19⟩) (by assumption) ?rest19
  case hy19 => (intro w hSw; (try dsimp only at hSw); go_simp; try with_reducible rfl)
  try simp only [Act.put, List.getElem_toArray, List.getElem_cons_succ, List.getElem_cons_zero, List.setIfInBounds_toArray, List.set_cons_zero, List.set_cons_succ]
  refine wpAnyH_ready (rs := [7]) (by kernel_rfl) (by simp) ?_
  refine AllReadyH.cons rfl (fun K hK => ?_) ?_
  rotate_left
  · exact AllReadyH.nil
  go_simp
  go_at_call 192
  refine (NW roW _ (HM1.out.keep (Mv.refl roW [] W1).drew (by simp) (by simp))).mono ?_
  rintro e w2 ⟨rfl, q2, m2⟩
  have m2d : Mv roW [rm] W1 roW w2 := ((Mv.refl roW [] W1).drew.mono (by simp)).trans m2
  have x2 := XW.out.keep m2d (by intro x hx; simp at hx; omega)
  have hc2 := x2.blk.cell
  unfold wcells at hc2
  simp only [ptr] at hc2
  have b2 := (BW.out.keep m2d (by simp; omega)).cell
  try dsimp only
  refine hK.out _ _ ⟨hc2 1, hc2 2, hc2 3, hc2 4, hc2 5, hc2 6, b2 1⟩ (fun hHeld => ?_)
  clear hK K
  refine' wpAnyH_take (i := 8) (v := _) rfl (by kernel_rfl) (by kernel_rfl) (by kernel_rfl) (fun _ _ _ h => h) (Or.inl ⟨by kernel_rfl, ?hy20⟩) (by assumption) ?rest20
  case hy20 => (intro w hSw; (try dsimp only at hSw); go_simp; try with_reducible rfl)
  try simp only [Act.put, List.getElem_toArray, List.getElem_cons_succ, List.getElem_cons_zero, List.setIfInBounds_toArray, List.set_cons_zero, List.set_cons_succ]
  refine' wpAnyH_take (i := 9) (v := _) rfl (by kernel_rfl) (by kernel_rfl) (by kernel_rfl) (fun _ _ _ h => h) (Or.inl ⟨by kernel_rfl, ?hy21⟩) (by assumption) ?rest21
  case hy21 => (intro w hSw; (try dsimp only at hSw); go_simp; try with_reducible rfl)
  try simp only [Act.put, List.getElem_toArray, List.getElem_cons_succ, List.getElem_cons_zero, List.setIfInBounds_toArray, List.set_cons_zero, List.set_cons_succ]
  refine' wpAnyH_take (i := 10) (v := _) rfl (by kernel_rfl) (by kernel_rfl) (by kernel_rfl) (fun _ _ _ h => h) (Or.inl ⟨by kernel_rfl, ?hy22⟩) (by assumption) ?rest22
  case hy22 => (intro w hSw; (try dsimp only at hSw); go_simp; try with_reducible rfl)
  try simp only [Act.put, List.getElem_toArray, List.getElem_cons_succ, List.getElem_cons_zero, List.setIfInBounds_toArray, List.set_cons_zero, List.set_cons_succ]
  refine' wpAnyH_take (i := 11) (v := _) rfl (by kernel_rfl) (by kernel_rfl) (by kernel_rfl) (fun _ _ _ h => h) (Or.inl ⟨by kernel_rfl, ?hy23⟩) (by assumption) ?rest23
  case hy23 => (intro w hSw; (try dsimp only at hSw); go_simp; try with_reducible rfl)
  try simp only [Act.put, List.getElem_toArray, List.getElem_cons_succ, List.getElem_cons_zero, List.setIfInBounds_toArray, List.set_cons_zero, List.set_cons_succ]
  refine' wpAnyH_take (i := 12) (v := _) rfl (by kernel_rfl) (by kernel_rfl) (by kernel_rfl) (fun _ _ _ h => h) (Or.inl ⟨by kernel_rfl, ?hy24⟩) (by assumption) ?rest24
  case hy24 => (intro w hSw; (try dsimp only at hSw); go_simp; try with_reducible rfl)
  try simp only [Act.put, List.getElem_toArray, List.getElem_cons_succ, List.getElem_cons_zero, List.setIfInBounds_toArray, List.set_cons_zero, List.set_cons_succ]
  refine wpAnyH_done (by kernel_rfl) ?_ _
  refine NoPanic.normal ?_
  have X2 := Lib.hid x2
  have M2 := Lib.hid m2d
  have Q2 := Lib.hid q2
  have hlt2 := x2.blk.lt
  rw [HVW.out] at hc2
  clear x2 m2 m2d hcW hfW haW q2 b2
  go_wp2_with (
      at_builtin
      refine wpList_append_lies _ rfl (.tmp 58) (.tmp 60) 27 rfl 0 74 i0 _ 1 8 under74 I0.out hz0 hs0 hby0 rfl (by decide) (.slice vp s.was.length vcp) s.was.length (s.was.flatMap cF) rfl (by have := (X2.out.was.keep ((Mv.refl roW [] w2).alloc (.cells #[.float .f64 y] 74)) (by simp)).own; simpa only [HVW.out] using this) _ 1 1 [.float .f64 y] rfl rfl (World.news_of_block (heap_alloc_new _ _)) (by simp [Value.oneCell']) (by decide) (by unfold maxLen; omega) (by omega) (Nat.zero_le _) _ rfl ?_
      intro g cap w6 g2 g3 g4 g5
      obtain ⟨o6, m6⟩ := grown_own (news := [y]) X2.out.was ((Mv.refl roW [] w2).alloc _) (by simp) (by simpa [cF] using g2) (by simp) (by simpa only [HVW.out] using g3) (by simpa only [HVW.out] using g4) rfl
      have k6 := X2.out.blk.keep m6 (by simp)
      have hc6 := k6.cell 16
      have hf6 := k6.free
      unfold wcells at hc6
      simp only [HVW.out, List.getElem?_toArray, List.getElem?_cons_succ, List.getElem?_cons_zero] at hc6
      clear g2 g3 g4 g5)
  go_end0
  obtain ⟨x7, m7⟩ := X2.out.wrote m6 o6
  exact ⟨rfl, _, _, x7, (Q2.out.keep m6 (by simp; omega) (by simp; omega)).keep m7 (by simp; omega) (by simp; omega), ((((M1.out.mono (by intro x hx; simp [mS, wR] at hx ⊢; omega)).trans (MMW.out.mono (by simp))).trans (M2.out.mono (by simp))).trans (m6.mono (by simp [wR]))).trans (m7.mono (by simp [wR]))⟩
set_option maxRecDepth 100000 in
set_option maxHeartbeats 4000000 in
/-- runs, where it ends committed: the look at the census begins. -/
theorem runs_commit {ro : Nat → Nat} {r rm : Nat} {w : World} {X : Nat} {C : Cfg} {tag : Int} {code : List Ins} {args : List Nat} {s : Wr} {q : Wp} {MB : Nat} {v : Value} {words : List Nat} {cnt : Int} {m' : Ms} {a : Ask} (hC : C.ok) (h : WIs ro r w X C tag code args s q) (hm : MemIs ro rm w MB v words true cnt) (hrm : rm + 1 < r ∨ r + 31 < rm) (hk : a.kind = 4) (hh : m'.how = 1)
    (SW : Calls Tryz.prog 95 #[ptr q.M] w (StepP ro r w q.M C tag code (m', a))) :
    Calls Tryz.prog 151 #[ptr X, ptr MB] w (WrP ro r rm w X C tag code args ({ s with m := m', scan := some (0, 0), part := 5 } : Wr) MB v words true cnt (.tuple #[])) := by
  have hc := h.blk.cell
  obtain ⟨a1, a2, a3, a4⟩ := a
  simp only at hk
  subst hk
  have GW := fun ro' p' sb W (b : Blk ro' (r + 20) W X (wcells C tag ({ s with m := m', scan := some (0, 0) } : Wr) { q with p := p', SB := sb }) 152) => goes_walk b 5 (by decide)
  have EW := fun (ro' : Nat → Nat) W p' (k : MIs ro' r W q.M C tag code m' p') => end_walk k
  have NW := fun ro' => newscan_walk ro' (r + 21) C s.stamp
  rw [hh] at EW
  unfold wcells at GW
  unfold planV at NW
  have fl := end_how
  unfold StepP Ask.v at SW
  unfold wcells at hc
  simp only [ptr] at hc SW EW GW NW ⊢
  have sf := run_store_float
  have H := Lib.hid h
  have HM := Lib.hid hm
  clear h hm
  go_enter Tryz.func151, Tryz.ntmps151
  go_wp2_with (go_at_call 95; refine SW.mono ?_; rintro e w1 ⟨rfl, ro1, p1, k1, m1⟩; have x1 := H.out.moved m1 (by intro x hx; simp [mS] at hx; omega) k1; have hm1 := HM.out.keep m1 (by simp [mS]; omega) (by simp [mS]; omega); have hc1 := x1.blk.cell; have hf1 := x1.blk.free; have hlt1 := x1.blk.lt; unfold wcells at hc1; simp only [ptr] at hc1)
  generalize hW : w1.alloc (.cells #[.int .i64 4, .int .i64 a2, .float .f64 a3, .bool a4] 139) = W1 at *
  have mW : Mv ro1 [] w1 (setRo ro1 w1.heap.size (r + 25)) W1 := by rw [← hW]; exact ((Mv.refl _ _ _).alloc _).give (Nat.le_refl _)
  have bW : Blk (setRo ro1 w1.heap.size (r + 25)) (r + 25) W1 w1.heap.size #[.int .i64 4, .int .i64 a2, .float .f64 a3, .bool a4] 139 := by rw [← hW]; exact Blk.new _ _ _ _ _
  generalize setRo ro1 w1.heap.size (r + 25) = roW at *
  generalize w1.heap.size = AB at *
  have XW := Lib.hid (x1.keep mW (by simp))
  have BW := Lib.hid bW
  have MMW := Lib.hid mW
  have HM1 := Lib.hid (hm1.keep mW (by simp) (by simp))
  have M1 := Lib.hid m1
  have hcW := XW.out.blk.cell
  have hfW := XW.out.blk.free
  have haW := bW.cell
  unfold wcells at hcW
  simp only [ptr] at hcW
  clear hW mW bW x1 hm1 hc1 hf1 hlt1 m1 k1 hc
  go_wp2_with (go_at_call 81; refine (EW roW _ _ XW.out.mach).mono ?_; rintro e w2 ⟨rfl, b2⟩; have m2 := Mv.of_below (R := []) (ro := roW) b2; have x2 := XW.out.keep m2 (by simp); have hc2 := x2.blk.cell; have ha2 := (BW.out.keep m2 (by simp)).cell; unfold wcells at hc2; simp only [ptr] at hc2)
  have M2 := Lib.hid m2
  have X2 := Lib.hid x2
  have hlt2 := x2.blk.lt
  clear m2 x2 hcW hfW haW b2
  refine wp_region_noPanic ?_
  refine wp_region_held_drew (S := fun W => (W.cell? ⟨X, 1, none⟩ = some (.int .i64 0) ∧ W.cell? ⟨X, 2, none⟩ = some (.int .i64 1) ∧ W.cell? ⟨X, 3, none⟩ = some (.int .i64 2) ∧ W.cell? ⟨X, 4, none⟩ = some (.int .i64 3) ∧ W.cell? ⟨X, 5, none⟩ = some (.int .i64 (3 + C.threads)) ∧ W.cell? ⟨X, 6, none⟩ = some (.int .i64 (3 + C.threads + 3 * C.cells)) ∧ W.cell? ⟨X, 8, none⟩ = some (.int .i64 C.threads) ∧ W.cell? ⟨X, 14, none⟩ = some (.int .u64 s.stamp))) (by kernel_rfl) ⟨hc2 1, hc2 2, hc2 3, hc2 4, hc2 5, hc2 6, hc2 8, hc2 14⟩ (fun hHeld => ?_)
  refine' wpAnyH_take (i := 0) (v := _) rfl (by kernel_rfl) (by kernel_rfl) (by kernel_rfl) (fun _ _ _ h => h) (Or.inl ⟨by kernel_rfl, ?hy25⟩) (by assumption) ?rest25
  case hy25 => (intro w hSw; (try dsimp only at hSw); go_simp; try with_reducible rfl)
  try simp only [Act.put, List.getElem_toArray, List.getElem_cons_succ, List.getElem_cons_zero, List.setIfInBounds_toArray, List.set_cons_zero, List.set_cons_succ]
  refine' wpAnyH_take (i := 1) (v := _) rfl (by kernel_rfl) (by kernel_rfl) (by kernel_rfl) (fun _ _ _ h => h) (Or.inl ⟨by kernel_rfl, ?hy26⟩) (by assumption) ?rest26
  case hy26 => (intro w hSw; (try dsimp only at hSw); go_simp; try with_reducible rfl)
  try simp only [Act.put, List.getElem_toArray, List.getElem_cons_succ, List.getElem_cons_zero, List.setIfInBounds_toArray, List.set_cons_zero, List.set_cons_succ]
  refine' wpAnyH_take (i := 2) (v := _) rfl (by kernel_rfl) (by kernel_rfl) (by kernel_rfl) (fun _ _ _ h => h) (Or.inl ⟨by kernel_rfl, ?hy27⟩) (by assumption) ?rest27
  case hy27 => (intro w hSw; (try dsimp only at hSw); go_simp; try with_reducible rfl)
  try simp only [Act.put, List.getElem_toArray, List.getElem_cons_succ, List.getElem_cons_zero, List.setIfInBounds_toArray, List.set_cons_zero, List.set_cons_succ]
  refine' wpAnyH_take (i := 3) (v := _) rfl (by kernel_rfl) (by kernel_rfl) (by kernel_rfl) (fun _ _ _ h => h) (Or.inl ⟨by kernel_rfl, ?hy28⟩) (by assumption) ?rest28
  case hy28 => (intro w hSw; (try dsimp only at hSw); go_simp; try with_reducible rfl)
  try simp only [Act.put, List.getElem_toArray, List.getElem_cons_succ, List.getElem_cons_zero, List.setIfInBounds_toArray, List.set_cons_zero, List.set_cons_succ]
  refine' wpAnyH_take (i := 4) (v := _) rfl (by kernel_rfl) (by kernel_rfl) (by kernel_rfl) (fun _ _ _ h => h) (Or.inl ⟨by kernel_rfl, ?hy29⟩) (by assumption) ?rest29
  case hy29 => (intro w hSw; (try dsimp only at hSw); go_simp; try with_reducible rfl)
  try simp only [Act.put, List.getElem_toArray, List.getElem_cons_succ, List.getElem_cons_zero, List.setIfInBounds_toArray, List.set_cons_zero, List.set_cons_succ]
  refine' wpAnyH_take (i := 5) (v := _) rfl (by kernel_rfl) (by kernel_rfl) (by kernel_rfl) (fun _ _ _ h => h) (Or.inl ⟨by kernel_rfl, ?hy30⟩) (by assumption) ?rest30
  case hy30 => (intro w hSw; (try dsimp only at hSw); go_simp; try with_reducible rfl)
  try simp only [Act.put, List.getElem_toArray, List.getElem_cons_succ, List.getElem_cons_zero, List.setIfInBounds_toArray, List.set_cons_zero, List.set_cons_succ]
  refine' wpAnyH_take (i := 6) (v := _) rfl (by kernel_rfl) (by kernel_rfl) (by kernel_rfl) (fun _ _ _ h => h) (Or.inl ⟨by kernel_rfl, ?hy31⟩) (by assumption) ?rest31
  case hy31 => (intro w hSw; (try dsimp only at hSw); go_simp; try with_reducible rfl)
  try simp only [Act.put, List.getElem_toArray, List.getElem_cons_succ, List.getElem_cons_zero, List.setIfInBounds_toArray, List.set_cons_zero, List.set_cons_succ]
  refine' wpAnyH_take (i := 7) (v := _) rfl (by kernel_rfl) (by kernel_rfl) (by kernel_rfl) (fun _ _ _ h => h) (Or.inl ⟨by kernel_rfl, ?hy32⟩) (by assumption) ?rest32
  case hy32 => (intro w hSw; (try dsimp only at hSw); go_simp; try with_reducible rfl)
  try simp only [Act.put, List.getElem_toArray, List.getElem_cons_succ, List.getElem_cons_zero, List.setIfInBounds_toArray, List.set_cons_zero, List.set_cons_succ]
  refine' wpAnyH_take (i := 8) (v := _) rfl (by kernel_rfl) (by kernel_rfl) (by kernel_rfl) (fun _ _ _ h => h) (Or.inl ⟨by kernel_rfl, ?hy33⟩) (by assumption) ?rest33
  case hy33 => (intro w hSw; (try dsimp only at hSw); go_simp; try with_reducible rfl)
  try simp only [Act.put, List.getElem_toArray, List.getElem_cons_succ, List.getElem_cons_zero, List.setIfInBounds_toArray, List.set_cons_zero, List.set_cons_succ]
  refine' wpAnyH_take (i := 9) (v := _) rfl (by kernel_rfl) (by kernel_rfl) (by kernel_rfl) (fun _ _ _ h => h) (Or.inl ⟨by kernel_rfl, ?hy34⟩) (by assumption) ?rest34
  case hy34 => (intro w hSw; (try dsimp only at hSw); go_simp; try with_reducible rfl)
  try simp only [Act.put, List.getElem_toArray, List.getElem_cons_succ, List.getElem_cons_zero, List.setIfInBounds_toArray, List.set_cons_zero, List.set_cons_succ]
  refine' wpAnyH_take (i := 10) (v := _) rfl (by kernel_rfl) (by kernel_rfl) (by kernel_rfl) (fun _ _ _ h => h) (Or.inl ⟨by kernel_rfl, ?hy35⟩) (by assumption) ?rest35
  case hy35 => (intro w hSw; (try dsimp only at hSw); go_simp; try with_reducible rfl)
  try simp only [Act.put, List.getElem_toArray, List.getElem_cons_succ, List.getElem_cons_zero, List.setIfInBounds_toArray, List.set_cons_zero, List.set_cons_succ]
  refine' wpAnyH_take (i := 11) (v := _) rfl (by kernel_rfl) (by kernel_rfl) (by kernel_rfl) (fun _ _ _ h => h) (Or.inl ⟨by kernel_rfl, ?hy36⟩) (by assumption) ?rest36
  case hy36 => (intro w hSw; (try dsimp only at hSw); go_simp; try with_reducible rfl)
  try simp only [Act.put, List.getElem_toArray, List.getElem_cons_succ, List.getElem_cons_zero, List.setIfInBounds_toArray, List.set_cons_zero, List.set_cons_succ]
  refine' wpAnyH_take (i := 12) (v := _) rfl (by kernel_rfl) (by kernel_rfl) (by kernel_rfl) (fun _ _ _ h => h) (Or.inl ⟨by kernel_rfl, ?hy37⟩) (by assumption) ?rest37
  case hy37 => (intro w hSw; (try dsimp only at hSw); go_simp; try with_reducible rfl)
  try simp only [Act.put, List.getElem_toArray, List.getElem_cons_succ, List.getElem_cons_zero, List.setIfInBounds_toArray, List.set_cons_zero, List.set_cons_succ]
  refine wpAnyH_ready (rs := [13]) (by kernel_rfl) (by simp) ?_
  refine AllReadyH.cons rfl (fun K hK => ?_) ?_
  rotate_left
  · exact AllReadyH.nil
  go_simp
  go_at_call 193
  refine (NW roW _).mono ?_
  rintro e w3 ⟨SB, ro3, rfl, b3, m3⟩
  have m3d : Mv roW [] w2 ro3 w3 := (Mv.refl roW [] w2).drew.trans m3
  have x3 := X2.out.keep m3d (by simp)
  have hc3 := x3.blk.cell
  have hf3 := x3.blk.free
  unfold wcells at hc3
  simp only [ptr] at hc3
  try dsimp only
  refine hK.out _ _ ⟨hc3 1, hc3 2, hc3 3, hc3 4, hc3 5, hc3 6, hc3 8, hc3 14⟩ (fun hHeld => ?_)
  clear hK K
  refine' wpAnyH_take (i := 14) (v := _) rfl (by kernel_rfl) (by kernel_rfl) (by kernel_rfl) (fun _ _ _ h => h) (Or.inl ⟨by kernel_rfl, ?hy38⟩) (by assumption) ?rest38
  case hy38 => (intro w hSw; (try dsimp only at hSw); go_simp; try with_reducible rfl)
  try simp only [Act.put, List.getElem_toArray, List.getElem_cons_succ, List.getElem_cons_zero, List.setIfInBounds_toArray, List.set_cons_zero, List.set_cons_succ]
  refine' wpAnyH_take (i := 15) (v := _) rfl (by kernel_rfl) (by kernel_rfl) (by kernel_rfl) (fun _ _ _ h => h) (Or.inl ⟨by kernel_rfl, ?hy39⟩) (by assumption) ?rest39
  case hy39 => (intro w hSw; (try dsimp only at hSw); go_simp; try with_reducible rfl)
  try simp only [Act.put, List.getElem_toArray, List.getElem_cons_succ, List.getElem_cons_zero, List.setIfInBounds_toArray, List.set_cons_zero, List.set_cons_succ]
  refine wpAnyH_ready (rs := [16]) (by kernel_rfl) (by simp) ?_
  refine AllReadyH.cons rfl (fun K hK => ?_) ?_
  rotate_left
  · exact AllReadyH.nil
  go_simp
  obtain ⟨x4, m4⟩ := x3.scan0 b3
  have hc4 := x4.blk.cell
  unfold wcells at hc4
  simp only [ptr] at hc4
  try dsimp only
  refine hK.out _ _ ⟨hc4 1, hc4 2, hc4 3, hc4 4, hc4 5, hc4 6, hc4 8, hc4 14⟩ (fun hHeld => ?_)
  clear hK K
  refine wpAnyH_done (by kernel_rfl) ?_ _
  refine NoPanic.normal ?_
  have X4 := Lib.hid x4
  have M4 := Lib.hid m4
  have M3 := Lib.hid m3d
  clear x4 m4 m3 m3d x3 hc3 hf3 hc2 ha2
  go_wp2_with (go_at_call 117; refine (GW ro3 p1 SB _ X4.out.blk).mono ?_; rintro e w5 ⟨rfl, x5, m5⟩)
  go_end0
  exact ⟨rfl, ro3, { q with p := p1, SB := SB }, X4.out.cells m5 x5 rfl (fun g hg => ⟨hg, rfl⟩) (fun g hg => hg) rfl, ((((HM1.out.keep M2.out (by simp) (by simp)).keep M3.out (by simp) (by simp)).keep M4.out (by simp; omega) (by simp; omega)).keep m5 (by simp; omega) (by simp; omega)), (((((M1.out.mono (by intro x hx; simp [mS, wR] at hx ⊢; omega)).trans (MMW.out.mono (by simp))).trans (M2.out.mono (by simp))).trans (M3.out.mono (by simp))).trans (M4.out.mono (by simp [wR]))).trans (m5.mono (by simp [wR]))⟩
end Go.Proofs.YtphaeodcomgffaaGreat
