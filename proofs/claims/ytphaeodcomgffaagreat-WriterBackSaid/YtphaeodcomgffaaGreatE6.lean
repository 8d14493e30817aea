import Derived.Test.YtphaeodcomgffaaGreatE4
import Derived.Deep.RegionHeldLaw
import Derived.Deep.QuietTactic
set_option linter.unusedVariables false
set_option linter.unusedSimpArgs false
namespace Go.Proofs.YtphaeodcomgffaaGreat
open Go.RowKit

theorem give_eq {m : Ms} {c : Int} (hw : m.wait = some c) (x : Nat) : (m.give x).1 = { m with stack := m.stack ++ [fx x], reads := m.reads ++ [(c, fx x)], wait := none } := by
  unfold Ms.give
  rw [hw]
  simp [Ms.trade]
set_option maxRecDepth 100000 in
set_option maxHeartbeats 4000000 in
/-- run, where a read is under way and is over. -/
theorem run_done {ro : Nat → Nat} {r rm : Nat} {w : World} {X : Nat} {C : Cfg} {th tag : Int} {code : List Ins} {args : List Nat} {s : Rs} {q : Rp} {g : Rdg} {MB : Nat} {v : Value} {words : List Nat} {cnt c : Int} (hC : C.ok) (h : RIs ro r w X C th tag code args s q) (hm : MemIs ro rm w MB v words true cnt) (hrm : rm + 1 < r ∨ r + 31 < rm) (hg : s.read = some g) (hp : 0 ≤ g.part ∧ g.part ≤ 3) (h0 : 0 ≤ g.cell) (h1 : g.cell < C.cells) (hl : (words.length : Int) = 3 + C.threads + 3 * C.cells) (c0 : 0 ≤ cnt) (c1 : cnt ≤ 1000000000) (s0 : 0 ≤ g.steps) (s1 : g.steps ≤ 1000) (hn : (g.next C words).part = 4) (hw : s.m.wait = some c) (hst : s.m.stack.length < 64) (hrd : s.m.reads.length ≤ 4096) :
    Calls Tryz.prog 64 #[ptr X, ptr MB] w (RunP ro r rm w X C th tag code args { s with m := (s.m.give (g.next C words).value).1, read := none } MB v words false (cnt + 1) (.tuple #[])) := by
  have hc := h.blk.cell
  have RW := rstep_walk hC (h.read g hg) hm (by omega) hp h0 h1 hl c0 c1 s0 s1
  unfold Rdd at RW
  rw [hn] at RW
  rw [give_eq hw]
  have VW := fun (ro' : Nat → Nat) W (b : Blk ro' (r + 22) W q.RB (readC C (g.next C words)) 197) => value_walk b hn
  generalize g.next C words = g' at *
  have GW := fun (ro' : Nat → Nat) W (m : MIs ro' r W q.M C tag code s.m q.p) => give_walk m g'.value hw hst hrd
  unfold xcells at hc
  simp only [hg, Option.isSome_some, if_true, ptr] at hc RW VW GW ⊢
  have H := Lib.hid h
  have HG := Lib.hid hg
  clear h hg hn hm hw
  go_enter Tryz.func64, Tryz.ntmps64
  go_wp2_with (go_at_call 109; refine RW.mono ?_; rintro e w1 ⟨rfl, b1, q1, m1⟩; have m1' : Mv ro [r + 22, rm] w ro w1 := m1; have x1 := H.out.blk.keep m1 (by simp; omega); have k1 := H.out.mach.keep m1 (by simp; omega); have hc1 := x1.cell; have hf1 := x1.free; unfold xcells at hc1; simp only [HG.out, Option.isSome_some, if_true, ptr] at hc1)
  refine wp_region_noPanic ?_
  go_region_law (go_simp; first
    | (go_at_call 110; refine (VW ro _ (b1.keep (Mv.refl ro [] w1).drew (by simp))).mono ?_; rintro e w2 ⟨rfl, rfl⟩)
    | (go_at_call 97; refine (GW ro _ (k1.keep0 (Mv.refl ro [] w1).drew)).mono ?_; rintro e w2 ⟨rfl, ro2, p2, k2, m2⟩; have x2 := (x1.keep (Mv.refl ro [] w1).drew (by simp)).keep m2 (by simp [mR]); have hc2 := x2.cell 13; have hf2 := x2.free 13; unfold xcells at hc2; simp only [HG.out, Option.isSome_some, if_true, ptr, List.getElem?_toArray, List.getElem?_cons_succ, List.getElem?_cons_zero] at hc2))
  all_goals
    refine NoPanic.normal ?_
    go_wp2
    go_end0
    have hX : ro2 X ∈ [r + 20] := by rw [x2.role]; simp
    have mX : Mv ro2 [r + 20] w2 ro2 (w2.setCell ⟨X, 13, none⟩ (.pointer none)) := (Mv.refl _ _ _).setCell hX _
    have m12 : Mv ro (rm :: (r + 22) :: mR r) w ro2 w2 := ((m1.mono (by simp)).drew).trans (m2.mono (by simp +contextual))
    refine ⟨rfl, ro2, { q with p := p2 }, ⟨?_, k2.keep mX (by simp), ?_, ?_, ?_⟩, ?_, ?_⟩
    · refine x2.put ?_
      unfold xcells
      rfl
    · exact (H.out.come.keep m12 (by simp [mR]; omega)).keep mX (by simp)
    · intro g2 hg2; cases hg2
    · exact (H.out.args.keep m12 (by simp [mR]; omega)).keep mX (by simp)
    · exact ((q1.keep (Mv.refl ro [] w1).drew (by simp) (by simp)).keep m2 (by simp [mR]; omega) (by simp [mR]; omega)).keep mX (by simp; omega) (by simp; omega)
    · exact (m12.mono (by intro x hx; simp [mR, rR] at hx ⊢; omega)).trans (mX.mono (by simp [rR]))

set_option maxRecDepth 100000 in
set_option maxHeartbeats 4000000 in
/-- run, where its program ends. -/
theorem run_ends {ro : Nat → Nat} {r rm : Nat} {w : World} {X : Nat} {C : Cfg} {th tag : Int} {code : List Ins} {args : List Nat} {s : Rs} {q : Rp} {MB : Nat} {v : Value} {words : List Nat} {cnt : Int} {m' : Ms} {a : Ask} (h : RIs ro r w X C th tag code args s q) (hm : MemIs ro rm w MB v words true cnt) (hrm : rm + 1 < r ∨ r + 31 < rm) (hg : s.read = none) (hk : a.kind = 4)
    (SW : Calls Tryz.prog 95 #[ptr q.M] w (StepP ro r w q.M C tag code (m', a))) :
    Calls Tryz.prog 64 #[ptr X, ptr MB] w (RunP ro r rm w X C th tag code args { s with m := m', part := 3 } MB v words true cnt (.tuple #[])) := by
  have hc := h.blk.cell
  obtain ⟨a1, a2, a3, a4⟩ := a
  simp only at hk
  subst hk
  unfold StepP Ask.v at SW
  unfold xcells at hc
  simp only [hg, Option.isSome_none, Bool.false_eq_true, if_false, ptr] at hc SW ⊢
  have sf := run_store_float
  have H := Lib.hid h
  have HG := Lib.hid hg
  have HM := Lib.hid hm
  clear h hg hm
  go_enter Tryz.func64, Tryz.ntmps64
  go_wp2_with (go_at_call 95; refine SW.mono ?_; rintro e w1 ⟨rfl, ro1, p1, k1, m1⟩; have x1 := H.out.blk.keep m1 (by simp [mS]); have hc1 := x1.cell; have hf1 := x1.free; have hlt1 := x1.lt; unfold xcells at hc1; simp only [HG.out, Option.isSome_none, Bool.false_eq_true, if_false, ptr] at hc1)
  go_end0
  have hX : ro1 X ∈ [r + 20] := by rw [x1.role]; simp
  have mX : Mv ro1 [r + 20] w1 ro1 ((w1.setCell ⟨X, 9, none⟩ (.int .i64 3)).alloc (.cells #[.int .i64 4, .int .i64 a2, .float .f64 a3, .bool a4] 139)) := ((Mv.refl _ _ _).setCell hX _).alloc _
  refine ⟨rfl, ro1, { q with p := p1 }, ⟨?_, k1.keep mX (by simp), (H.out.come.keep m1 (by simp [mS])).keep mX (by simp), ?_, (H.out.args.keep m1 (by simp [mS])).keep mX (by simp)⟩, ?_, ?_⟩
  · refine (x1.put (i := 9) (v := .int .i64 3) ?_).keep ((Mv.refl _ [] _).alloc _) (by simp)
    unfold xcells
    rw [HG.out]
    rfl
  · intro g2 hg2
    cases hg2
  · exact (HM.out.keep m1 (by simp [mS]; omega) (by simp [mS]; omega)).keep mX (by simp; omega) (by simp; omega)
  · exact (m1.mono (by intro x hx; simp [mS, rR] at hx ⊢; omega)).trans (mX.mono (by simp [rR]))
set_option maxRecDepth 100000 in
set_option maxHeartbeats 4000000 in
/-- run, where an instruction asks for nothing. -/
theorem run_plain {ro : Nat → Nat} {r rm : Nat} {w : World} {X : Nat} {C : Cfg} {th tag : Int} {code : List Ins} {args : List Nat} {s : Rs} {q : Rp} {MB : Nat} {v : Value} {words : List Nat} {cnt : Int} {m' : Ms} {a : Ask} (h : RIs ro r w X C th tag code args s q) (hm : MemIs ro rm w MB v words true cnt) (hrm : rm + 1 < r ∨ r + 31 < rm) (hg : s.read = none) (hk4 : a.kind ≠ 4) (hk1 : a.kind ≠ 1)
    (SW : Calls Tryz.prog 95 #[ptr q.M] w (StepP ro r w q.M C tag code (m', a))) :
    Calls Tryz.prog 64 #[ptr X, ptr MB] w (RunP ro r rm w X C th tag code args { s with m := m' } MB v words true cnt (.tuple #[])) := by
  have hc := h.blk.cell
  obtain ⟨a1, a2, a3, a4⟩ := a
  simp only at hk1 hk4
  have k4 : (a1 == 4) = false := by simpa using hk4
  have k1 : (a1 != 1) = true := by simpa using hk1
  unfold StepP Ask.v at SW
  unfold xcells at hc
  simp only [hg, Option.isSome_none, Bool.false_eq_true, if_false, ptr] at hc SW ⊢
  have sf := run_store_float
  have H := Lib.hid h
  have HG := Lib.hid hg
  have HM := Lib.hid hm
  clear h hg hm hk1 hk4
  go_enter Tryz.func64, Tryz.ntmps64
  go_wp2_with (go_at_call 95; refine SW.mono ?_; rintro e w1 ⟨rfl, ro1, p1, q1, m1⟩; have x1 := H.out.blk.keep m1 (by simp [mS]))
  go_end0
  have mX : Mv ro1 [] w1 ro1 (w1.alloc (.cells #[.int .i64 a1, .int .i64 a2, .float .f64 a3, .bool a4] 139)) := (Mv.refl _ _ _).alloc _
  refine ⟨rfl, ro1, { q with p := p1 }, ⟨?_, q1.keep0 mX, (H.out.come.keep m1 (by simp [mS])).keep mX (by simp), ?_, (H.out.args.keep m1 (by simp [mS])).keep mX (by simp)⟩, ?_, ?_⟩
  · have := x1.keep mX (by simp)
    unfold xcells at this ⊢
    rw [HG.out] at this
    exact this
  · intro g2 hg2
    cases hg2
  · exact (HM.out.keep m1 (by simp [mS]; omega) (by simp [mS]; omega)).keep mX (by simp) (by simp)
  · exact (m1.mono (by intro x hx; simp [mS, rR] at hx ⊢; omega)).trans (mX.mono (by simp))

theorem far_cell {w : World} {X i : Nat} (u : Value) {a : Addr} (h : (⟨X, i, none⟩ : Addr) ≠ a) {v : Option Value} (hv : w.cell? a = v) : (w.setCell ⟨X, i, none⟩ u).cell? a = v := by
  rw [← hv]
  exact World.cell?_setCell_other (h := h) ..
theorem new_next (C : Cfg) (words : List Nat) (cell : Int) (stamp : Nat) : ((Rdg.new cell stamp).next C words).part = 1 ∨ ((Rdg.new cell stamp).next C words).part = 3 := by
  unfold Rdg.next Rdg.new Rdg.more Rdg.eat
  simp only [if_true]
  split
  · exact .inr rfl
  · exact .inl rfl
set_option maxRecDepth 100000 in
set_option maxHeartbeats 8000000 in
/-- run, where an instruction asks for a number of a cell. -/
theorem run_asks {ro : Nat → Nat} {r rm : Nat} {w : World} {X : Nat} {C : Cfg} {th tag : Int} {code : List Ins} {args : List Nat} {s : Rs} {q : Rp} {MB : Nat} {v : Value} {words : List Nat} {cnt : Int} {m' : Ms} {a : Ask} (hC : C.ok) (h : RIs ro r w X C th tag code args s q) (hm : MemIs ro rm w MB v words true cnt) (hrm : rm + 1 < r ∨ r + 31 < rm) (hg : s.read = none) (hk : a.kind = 1) (h0 : 0 ≤ a.cell) (h1 : a.cell < C.cells) (hl : (words.length : Int) = 3 + C.threads + 3 * C.cells) (c0 : 0 ≤ cnt) (c1 : cnt ≤ 1000000000)
    (SW : Calls Tryz.prog 95 #[ptr q.M] w (StepP ro r w q.M C tag code (m', a))) :
    Calls Tryz.prog 64 #[ptr X, ptr MB] w (RunP ro r rm w X C th tag code args { s with m := m', read := some ((Rdg.new a.cell s.stamp).next C words) } MB v words false (cnt + 1) (.tuple #[])) := by
  have hc := h.blk.cell
  obtain ⟨a1, a2, a3, a4⟩ := a
  simp only at hk h0 h1 ⊢
  subst hk
  have RW := fun (ro' : Nat → Nat) W B (b : Blk ro' (r + 22) W B (readC C (Rdg.new a2 s.stamp)) 197) (m : MemIs ro' rm W MB v words true cnt) => rstep_walk hC b m (by omega) (by show 0 ≤ (0 : Int) ∧ (0 : Int) ≤ 3; omega) h0 h1 hl c0 c1 (by show 0 ≤ (0 : Int); omega) (by show (0 : Int) ≤ 1000; omega)
  have hn' : (((Rdg.new a2 s.stamp).next C words).part == 4) = false := by rcases new_next C words a2 s.stamp with e | e <;> rw [e] <;> rfl
  unfold Rdd at RW
  simp only [hn'] at RW
  generalize (Rdg.new a2 s.stamp).next C words = g' at *
  have NW := fun ro' => newread_walk ro' (r + 22) C a2 s.stamp
  have TW := fun (ro' : Nat → Nat) W (b : Blk ro' (r + 21) W q.CB (comeC C th s.n s.claim s.stamp) 177) => stamp_walk b
  unfold StepP Ask.v at SW
  unfold xcells at hc
  unfold planV at NW
  simp only [hg, Option.isSome_none, Bool.false_eq_true, if_false, ptr] at hc SW RW NW TW ⊢
  have sf := run_store_float
  have H := Lib.hid h
  have HG := Lib.hid hg
  have HM := Lib.hid hm
  clear h hg hm hn'
  go_enter Tryz.func64, Tryz.ntmps64
  go_wp2_with (go_at_call 95; refine SW.mono ?_; rintro e w1 ⟨rfl, ro1, p1, q1, m1⟩; have x1 := H.out.blk.keep m1 (by simp [mS]); have hc1 := x1.cell; have hf1 := x1.free; have hlt1 := x1.lt; unfold xcells at hc1; simp only [HG.out, Option.isSome_none, Bool.false_eq_true, if_false, ptr] at hc1)
  generalize hW : w1.alloc (.cells #[.int .i64 1, .int .i64 a2, .float .f64 a3, .bool a4] 139) = W1
  have mW : Mv ro1 [] w1 ro1 W1 := by rw [← hW]; exact (Mv.refl _ _ _).alloc _
  obtain ⟨A, hA⟩ : ∃ A, A = w1.heap.size := ⟨_, rfl⟩
  have hAh : W1.heap[A]? = some (.cells #[.int .i64 1, .int .i64 a2, .float .f64 a3, .bool a4] 139 (0, 0)) := by rw [← hW, hA]; exact heap_alloc_new _ _
  rw [← hA]
  have MW := Lib.hid mW
  have AH := Lib.hid hAh
  have S0 : ∀ W, Mv ro1 [] W1 ro1 W → (W.cell? ⟨X, 0, none⟩ = some (.int .i64 0) ∧ W.cell? ⟨X, 1, none⟩ = some (.int .i64 1) ∧ W.cell? ⟨X, 2, none⟩ = some (.int .i64 2) ∧ W.cell? ⟨X, 3, none⟩ = some (.int .i64 3) ∧ W.cell? ⟨X, 4, none⟩ = some (.int .i64 (3 + C.threads)) ∧ W.cell? ⟨X, 5, none⟩ = some (.int .i64 (3 + C.threads + 3 * C.cells)) ∧ W.cell? ⟨X, 12, none⟩ = some (.pointer (some ⟨q.CB, 0, none⟩)) ∧ W.cell? ⟨A, 1, none⟩ = some (.int .i64 a2)) := fun W mv => by
    have hx := (x1.keep (MW.out.trans mv) (by simp)).cell
    unfold xcells at hx
    refine ⟨hx 0, hx 1, hx 2, hx 3, hx 4, hx 5, hx 12, ?_⟩
    exact cell_of_row _ _ 1 _ _ _ ((mv.block _ (lt_of_heap AH.out) (by simp)).trans AH.out)
  have XS : ∀ ro' W, Mv ro1 [] W1 ro' W → (W.cell? ⟨X, 0, none⟩ = some (.int .i64 0) ∧ W.cell? ⟨X, 1, none⟩ = some (.int .i64 1) ∧ W.cell? ⟨X, 2, none⟩ = some (.int .i64 2) ∧ W.cell? ⟨X, 3, none⟩ = some (.int .i64 3) ∧ W.cell? ⟨X, 4, none⟩ = some (.int .i64 (3 + C.threads)) ∧ W.cell? ⟨X, 5, none⟩ = some (.int .i64 (3 + C.threads + 3 * C.cells)) ∧ W.cell? ⟨X, 12, none⟩ = some (.pointer (some ⟨q.CB, 0, none⟩)) ∧ W.cell? ⟨A, 1, none⟩ = some (.int .i64 a2)) := fun ro' W mv => S0 W ⟨fun _ _ => rfl, mv.os, mv.tape, mv.output, mv.size, mv.block⟩
  have s0 := S0 W1 (Mv.refl _ _ _)
  have hAX : A ≠ X := by have := x1.lt; omega
  clear hW mW hA hAh hc hc1 hf1 hlt1 S0
  go_region_held_law (fun w' => w'.cell? ⟨X, 0, none⟩ = some (.int .i64 0) ∧ w'.cell? ⟨X, 1, none⟩ = some (.int .i64 1) ∧ w'.cell? ⟨X, 2, none⟩ = some (.int .i64 2) ∧ w'.cell? ⟨X, 3, none⟩ = some (.int .i64 3) ∧ w'.cell? ⟨X, 4, none⟩ = some (.int .i64 (3 + C.threads)) ∧ w'.cell? ⟨X, 5, none⟩ = some (.int .i64 (3 + C.threads + 3 * C.cells)) ∧ w'.cell? ⟨X, 12, none⟩ = some (.pointer (some ⟨q.CB, 0, none⟩)) ∧ w'.cell? ⟨A, 1, none⟩ = some (.int .i64 a2)) (first | assumption | (exact XS _ _ ((Mv.refl _ _ _).drew)) | (exact s4 _) | go_keep)
    (first
    | (go_at_call 69; refine (TW ro1 _ ((H.out.come.keep m1 (by simp [mS])).keep (MW.out.drew) (by simp))).mono ?_; rintro e w2 ⟨rfl, rfl⟩)
    | (go_at_call 108; refine (NW ro1 _).mono ?_; rintro e w3 ⟨B3, ro3, rfl, b3, m3⟩; have m3' : Mv ro1 [] W1 ro3 w3 := (Mv.refl _ _ _).drew.trans m3; have s3 := XS _ _ m3'; have s4 : ∀ u, (w3.setCell ⟨X, 13, none⟩ u).cell? ⟨X, 0, none⟩ = some (.int .i64 0) ∧ (w3.setCell ⟨X, 13, none⟩ u).cell? ⟨X, 1, none⟩ = some (.int .i64 1) ∧ (w3.setCell ⟨X, 13, none⟩ u).cell? ⟨X, 2, none⟩ = some (.int .i64 2) ∧ (w3.setCell ⟨X, 13, none⟩ u).cell? ⟨X, 3, none⟩ = some (.int .i64 3) ∧ (w3.setCell ⟨X, 13, none⟩ u).cell? ⟨X, 4, none⟩ = some (.int .i64 (3 + C.threads)) ∧ (w3.setCell ⟨X, 13, none⟩ u).cell? ⟨X, 5, none⟩ = some (.int .i64 (3 + C.threads + 3 * C.cells)) ∧ (w3.setCell ⟨X, 13, none⟩ u).cell? ⟨X, 12, none⟩ = some (.pointer (some ⟨q.CB, 0, none⟩)) ∧ (w3.setCell ⟨X, 13, none⟩ u).cell? ⟨A, 1, none⟩ = some (.int .i64 a2) := (fun u => ⟨far_cell u (by simp) s3.1, far_cell u (by simp) s3.2.1, far_cell u (by simp) s3.2.2.1, far_cell u (by simp) s3.2.2.2.1, far_cell u (by simp) s3.2.2.2.2.1, far_cell u (by simp) s3.2.2.2.2.2.1, far_cell u (by simp) s3.2.2.2.2.2.2.1, far_cell u (fun e => hAX (congrArg Addr.block e).symm) s3.2.2.2.2.2.2.2⟩); have x3 := (x1.keep MW.out (by simp)).keep m3' (by simp); have hc3 := x3.cell 13; have hf3 := x3.free 13; unfold xcells at hc3; simp only [HG.out, Option.isSome_none, Bool.false_eq_true, if_false, ptr, List.getElem?_toArray, List.getElem?_cons_succ, List.getElem?_cons_zero] at hc3))
  have hX : ro3 X ∈ [r + 20] := by rw [x3.role]; simp
  have mX : Mv ro3 [r + 20] w3 ro3 (w3.setCell ⟨X, 13, none⟩ (.pointer (some ⟨B3, 0, none⟩))) := (Mv.refl _ _ _).setCell hX _
  have m13 : Mv ro (mS r) w ro3 w3 := m1.trans ((MW.out.trans m3').mono (by simp))
  have b4 := b3.keep mX (by simp)
  have hm4 := (HM.out.keep m13 (by simp [mS]; omega) (by simp [mS]; omega)).keep mX (by simp; omega) (by simp; omega)
  have B4 := Lib.hid b4
  have HM4 := Lib.hid hm4
  clear XS s0 s3 s4 TW NW SW
  go_wp2_with (go_at_call 109; refine (RW ro3 _ B3 B4.out HM4.out).mono ?_; rintro e w5 ⟨rfl, b5, q5, m5⟩)
  go_end0
  have x5 := (x3.put (i := 13) (v := .pointer (some ⟨B3, 0, none⟩)) rfl).keep m5 (by simp; omega)
  refine ⟨rfl, ro3, { q with p := p1, RB := B3 }, ⟨?_, ((q1.keep0 (MW.out.trans m3')).keep mX (by simp)).keep m5 (by simp; omega), ((H.out.come.keep m13 (by simp [mS])).keep mX (by simp)).keep m5 (by simp; omega), ?_, ((H.out.args.keep m13 (by simp [mS])).keep mX (by simp)).keep m5 (by simp; omega)⟩, q5, ?_⟩
  · unfold xcells at x5 ⊢
    exact x5
  · intro g2 hg2
    cases hg2
    exact b5
  · exact ((m13.mono (by intro x hx; simp [mS, rR] at hx ⊢; omega)).trans (mX.mono (by simp [rR]))).trans (m5.mono (by simp [rR]))
end Go.Proofs.YtphaeodcomgffaaGreat
set_option linter.unusedVariables false
set_option linter.unusedSimpArgs false
namespace Go.Proofs.YtphaeodcomgffaaGreat
open Go.RowKit

/-- A step of a reader over words: the reader, the words, whether it had an access. -/
def Rs.step (C : Cfg) (tag : Int) (code : List Ins) (th : Int) (words : List Nat) (s : Rs) : Rs × List Nat × Bool :=
  if s.part = 1 then
    if s.n = 0 then ({ s with steps := s.steps + 1, n := 1, claim := words.getD 2 0 }, words, true)
    else if s.n = 1 then ({ s with steps := s.steps + 1, n := 2 }, words.set (3 + th.toNat) ((s.claim + 1) % 18446744073709551616), true)
    else ({ s with steps := s.steps + 1, n := 3, stamp := words.getD 2 0, part := 2 }, words, true)
  else if s.part = 3 then ({ s with steps := s.steps + 1, part := 4 }, words.set (3 + th.toNat) 0, true)
  else
    let q := ({ s with steps := s.steps + 1 } : Rs).run C tag code words
    (q.1, words, q.2)
theorem xcells_steps (C : Cfg) (th tag : Int) (s : Rs) (q : Rp) : (xcells C th tag s q).setIfInBounds 10 (.int .i64 (s.steps + 1)) = xcells C th tag { s with steps := s.steps + 1 } q := by
  unfold xcells
  rfl
/-- The reader and the words behind Open and the count of the step. -/
theorem opened {ro : Nat → Nat} {r rm : Nat} {w w2 : World} {X : Nat} {C : Cfg} {th tag : Int} {code : List Ins} {args : List Nat} {s : Rs} {q : Rp} {MB : Nat} {v : Value} {words : List Nat} {cnt : Int} (h : RIs ro r w X C th tag code args s q) (q2 : MemIs ro rm w2 MB v words true cnt) (m2 : Mv ro [rm] w ro w2) (hrm : rm + 1 < r ∨ r + 31 < rm) :
    RIs ro r (w2.setCell ⟨X, 10, none⟩ (.int .i64 (s.steps + 1))) X C th tag code args { s with steps := s.steps + 1 } q ∧ MemIs ro rm (w2.setCell ⟨X, 10, none⟩ (.int .i64 (s.steps + 1))) MB v words true cnt ∧ Mv ro [rm, r + 20] w ro (w2.setCell ⟨X, 10, none⟩ (.int .i64 (s.steps + 1))) := by
  have h2 := h.keep m2 (by simp; omega)
  have hX : ro X ∈ [r + 20] := by rw [h2.blk.role]; simp
  have mX : Mv ro [r + 20] w2 ro (w2.setCell ⟨X, 10, none⟩ (.int .i64 (s.steps + 1))) := (Mv.refl _ _ _).setCell hX _
  exact ⟨⟨h2.blk.put (xcells_steps C th tag s q), h2.mach.keep mX (by simp), h2.come.keep mX (by simp), fun g hg => (h2.read g hg).keep mX (by simp), h2.args.keep mX (by simp)⟩, q2.keep mX (by simp; omega) (by simp; omega), (m2.mono (by simp)).trans (mX.mono (by simp))⟩
set_option maxRecDepth 100000 in
set_option maxHeartbeats 4000000 in
theorem rstep_a {ro : Nat → Nat} {r rm : Nat} {w : World} {X : Nat} {C : Cfg} {th tag : Int} {code : List Ins} {args : List Nat} {s : Rs} {q : Rp} {MB : Nat} {v : Value} {words : List Nat} {op : Bool} {cnt : Int} (h : RIs ro r w X C th tag code args s q) (hm : MemIs ro rm w MB v words op cnt) (hrm : rm + 1 < r ∨ r + 31 < rm) (hl : (words.length : Int) = 3 + C.threads + 3 * C.cells) (hC : C.ok) (t0 : 0 ≤ th) (t1 : th < C.threads) (c0 : 0 ≤ cnt) (c1 : cnt ≤ 1000000000) (s0 : 0 ≤ s.steps) (s1 : s.steps ≤ 1000000) (hp : s.part = 1) (hn : s.n = 0) :
    Calls Tryz.prog 18 #[ptr X, ptr MB] w (RunP ro r rm w X C th tag code args { s with steps := s.steps + 1, n := 1, claim := words.getD 2 0 } MB v words false (cnt + 1) (.tuple #[.bool false, .int .i64 0])) := by
  have hc := h.blk.cell
  have hlt := h.blk.lt
  obtain ⟨C1, C2, C3, C4, _⟩ := id hC
  have LW := fun W (mv : Mv ro [] w ro W) => mlen_walk (hm.keep mv (by simp) (by simp))
  have OW := fun W (mv : Mv ro [] w ro W) => open_walk (hm.keep mv (by simp) (by simp))
  have hle : ¬ (words.length : Int) < 3 + C.threads + 3 * C.cells := by omega
  unfold xcells at hc
  simp only [hp, ptr] at hc LW OW ⊢
  have H := Lib.hid h
  have HP := Lib.hid hp
  have HRM := Lib.hid hrm
  have HN := Lib.hid hn
  have HC := Lib.hid hC
  have HL := Lib.hid hl
  clear h hm hl hn hC
  go_enter Tryz.func18, Tryz.ntmps18
  go_wp2
  go_quiet ((go_at_call 61; exact Calls.quiet_of_same ((LW _ ((Mv.refl _ _ _).drewN _)).mono fun e w' h => ⟨h.1, h.2⟩)))
  go_wp2_with (first
    | (go_at_call 62; refine (OW _ ((Mv.refl _ _ _).drewN _)).mono ?_; rintro e w2 ⟨rfl, q2, m2⟩; have m2' : Mv ro [rm] w ro w2 := (((Mv.refl ro [] w).drewN _).mono (by simp)).trans (m2.mono (by simp)); obtain ⟨H3, Q3, M3⟩ := opened H.out q2 m2' HRM.out; have x2 := H.out.blk.keep m2' (by simp; have := HRM.out; omega); have hc2 := x2.cell; have hf2 := x2.free; have hlt2 := x2.lt; unfold xcells at hc2; simp only [HP.out, ptr] at hc2; have K3 := Lib.hid H3; have J3 := Lib.hid Q3; clear H3 Q3)
    | (go_at_call 63; have cm := K3.out.come; rw [show ({ s with steps := s.steps + 1 } : Rs).n = 0 from HN.out] at cm; refine (come0 cm J3.out (by have := HRM.out; omega) t0 (by omega) (by have := HL.out; omega) (by have := HL.out; omega) c0 c1).mono ?_; rintro e w4 ⟨rfl, b4, q4, m4⟩; have x4 := K3.out.blk.keep m4 (by simp; have := HRM.out; omega); have hc4 := x4.cell; have hf4 := x4.free; unfold xcells at hc4; simp only [HP.out, ptr] at hc4; have hlt4 := x4.lt))
  go_ret2
  have hrm := HRM.out
  refine ⟨rfl, ro, q, ⟨?_, K3.out.mach.keep m4 (by simp; omega), b4, fun g hg => (K3.out.read g hg).keep m4 (by simp; omega), K3.out.args.keep m4 (by simp; omega)⟩, q4, (M3.mono (by simp [rR])).trans (m4.mono (by simp [rR]))⟩
  unfold xcells at x4 ⊢
  simp only [HP.out] at x4
  exact x4
set_option maxRecDepth 100000 in
set_option maxHeartbeats 4000000 in
theorem rstep_b {ro : Nat → Nat} {r rm : Nat} {w : World} {X : Nat} {C : Cfg} {th tag : Int} {code : List Ins} {args : List Nat} {s : Rs} {q : Rp} {MB : Nat} {v : Value} {words : List Nat} {op : Bool} {cnt : Int} (h : RIs ro r w X C th tag code args s q) (hm : MemIs ro rm w MB v words op cnt) (hrm : rm + 1 < r ∨ r + 31 < rm) (hl : (words.length : Int) = 3 + C.threads + 3 * C.cells) (hC : C.ok) (t0 : 0 ≤ th) (t1 : th < C.threads) (c0 : 0 ≤ cnt) (c1 : cnt ≤ 1000000000) (s0 : 0 ≤ s.steps) (s1 : s.steps ≤ 1000000) (hp : s.part = 1) (hn : s.n = 1) :
    Calls Tryz.prog 18 #[ptr X, ptr MB] w (RunP ro r rm w X C th tag code args { s with steps := s.steps + 1, n := 2 } MB v (words.set (3 + th.toNat) ((s.claim + 1) % 18446744073709551616)) false (cnt + 1) (.tuple #[.bool false, .int .i64 0])) := by
  have hc := h.blk.cell
  have hlt := h.blk.lt
  obtain ⟨C1, C2, C3, C4, _⟩ := id hC
  have LW := fun W (mv : Mv ro [] w ro W) => mlen_walk (hm.keep mv (by simp) (by simp))
  have OW := fun W (mv : Mv ro [] w ro W) => open_walk (hm.keep mv (by simp) (by simp))
  have hle : ¬ (words.length : Int) < 3 + C.threads + 3 * C.cells := by omega
  unfold xcells at hc
  simp only [hp, ptr] at hc LW OW ⊢
  have H := Lib.hid h
  have HP := Lib.hid hp
  have HRM := Lib.hid hrm
  have HN := Lib.hid hn
  have HC := Lib.hid hC
  have HL := Lib.hid hl
  clear h hm hl hn hC
  go_enter Tryz.func18, Tryz.ntmps18
  go_wp2
  go_quiet ((go_at_call 61; exact Calls.quiet_of_same ((LW _ ((Mv.refl _ _ _).drewN _)).mono fun e w' h => ⟨h.1, h.2⟩)))
  go_wp2_with (first
    | (go_at_call 62; refine (OW _ ((Mv.refl _ _ _).drewN _)).mono ?_; rintro e w2 ⟨rfl, q2, m2⟩; have m2' : Mv ro [rm] w ro w2 := (((Mv.refl ro [] w).drewN _).mono (by simp)).trans (m2.mono (by simp)); obtain ⟨H3, Q3, M3⟩ := opened H.out q2 m2' HRM.out; have x2 := H.out.blk.keep m2' (by simp; have := HRM.out; omega); have hc2 := x2.cell; have hf2 := x2.free; have hlt2 := x2.lt; unfold xcells at hc2; simp only [HP.out, ptr] at hc2; have K3 := Lib.hid H3; have J3 := Lib.hid Q3; clear H3 Q3)
    | (go_at_call 63; have cm := K3.out.come; rw [show ({ s with steps := s.steps + 1 } : Rs).n = 1 from HN.out] at cm; refine (come1 cm J3.out (by have := HRM.out; omega) t0 (by omega) (by have := HL.out; omega) (by have := HL.out; omega) c0 c1).mono ?_; rintro e w4 ⟨rfl, b4, q4, m4⟩; have x4 := K3.out.blk.keep m4 (by simp; have := HRM.out; omega); have hc4 := x4.cell; have hf4 := x4.free; unfold xcells at hc4; simp only [HP.out, ptr] at hc4; have hlt4 := x4.lt))
  go_ret2
  have hrm := HRM.out
  refine ⟨rfl, ro, q, ⟨?_, K3.out.mach.keep m4 (by simp; omega), b4, fun g hg => (K3.out.read g hg).keep m4 (by simp; omega), K3.out.args.keep m4 (by simp; omega)⟩, q4, (M3.mono (by simp [rR])).trans (m4.mono (by simp [rR]))⟩
  unfold xcells at x4 ⊢
  simp only [HP.out] at x4
  exact x4
set_option maxRecDepth 100000 in
set_option maxHeartbeats 4000000 in
theorem rstep_c {ro : Nat → Nat} {r rm : Nat} {w : World} {X : Nat} {C : Cfg} {th tag : Int} {code : List Ins} {args : List Nat} {s : Rs} {q : Rp} {MB : Nat} {v : Value} {words : List Nat} {op : Bool} {cnt : Int} (h : RIs ro r w X C th tag code args s q) (hm : MemIs ro rm w MB v words op cnt) (hrm : rm + 1 < r ∨ r + 31 < rm) (hl : (words.length : Int) = 3 + C.threads + 3 * C.cells) (hC : C.ok) (t0 : 0 ≤ th) (t1 : th < C.threads) (c0 : 0 ≤ cnt) (c1 : cnt ≤ 1000000000) (s0 : 0 ≤ s.steps) (s1 : s.steps ≤ 1000000) (hp : s.part = 1) (hn : s.n = 2) :
    Calls Tryz.prog 18 #[ptr X, ptr MB] w (RunP ro r rm w X C th tag code args { s with steps := s.steps + 1, n := 3, stamp := words.getD 2 0, part := 2 } MB v words false (cnt + 1) (.tuple #[.bool false, .int .i64 0])) := by
  have hc := h.blk.cell
  have hlt := h.blk.lt
  obtain ⟨C1, C2, C3, C4, _⟩ := id hC
  have LW := fun W (mv : Mv ro [] w ro W) => mlen_walk (hm.keep mv (by simp) (by simp))
  have OW := fun W (mv : Mv ro [] w ro W) => open_walk (hm.keep mv (by simp) (by simp))
  have hle : ¬ (words.length : Int) < 3 + C.threads + 3 * C.cells := by omega
  unfold xcells at hc
  simp only [hp, ptr] at hc LW OW ⊢
  have H := Lib.hid h
  have HP := Lib.hid hp
  have HRM := Lib.hid hrm
  have HN := Lib.hid hn
  have HC := Lib.hid hC
  have HL := Lib.hid hl
  clear h hm hl hn hC
  go_enter Tryz.func18, Tryz.ntmps18
  go_wp2
  go_quiet ((go_at_call 61; exact Calls.quiet_of_same ((LW _ ((Mv.refl _ _ _).drewN _)).mono fun e w' h => ⟨h.1, h.2⟩)))
  go_wp2_with (first
    | (go_at_call 62; refine (OW _ ((Mv.refl _ _ _).drewN _)).mono ?_; rintro e w2 ⟨rfl, q2, m2⟩; have m2' : Mv ro [rm] w ro w2 := (((Mv.refl ro [] w).drewN _).mono (by simp)).trans (m2.mono (by simp)); obtain ⟨H3, Q3, M3⟩ := opened H.out q2 m2' HRM.out; have x2 := H.out.blk.keep m2' (by simp; have := HRM.out; omega); have hc2 := x2.cell; have hf2 := x2.free; have hlt2 := x2.lt; unfold xcells at hc2; simp only [HP.out, ptr] at hc2; have K3 := Lib.hid H3; have J3 := Lib.hid Q3; clear H3 Q3)
    | (go_at_call 63; have cm := K3.out.come; rw [show ({ s with steps := s.steps + 1 } : Rs).n = 2 from HN.out] at cm; refine (come2 cm J3.out (by have := HRM.out; omega) t0 (by omega) (by have := HL.out; omega) (by have := HL.out; omega) c0 c1).mono ?_; rintro e w4 ⟨rfl, b4, q4, m4⟩; have x4 := K3.out.blk.keep m4 (by simp; have := HRM.out; omega); have hc4 := x4.cell; have hf4 := x4.free; unfold xcells at hc4; simp only [HP.out, ptr] at hc4; have hlt4 := x4.lt))
  go_ret2
  have hrm := HRM.out
  have hX : ro X ∈ [r + 20] := by rw [x4.role]; simp
  have mX : Mv ro [r + 20] w4 ro (w4.setCell ⟨X, 9, none⟩ (.int .i64 2)) := (Mv.refl _ _ _).setCell hX _
  refine ⟨rfl, ro, q, ⟨?_, (K3.out.mach.keep m4 (by simp; omega)).keep mX (by simp), b4.keep mX (by simp), fun g hg => ((K3.out.read g hg).keep m4 (by simp; omega)).keep mX (by simp), (K3.out.args.keep m4 (by simp; omega)).keep mX (by simp)⟩, q4.keep mX (by simp; omega) (by simp; omega), ((M3.mono (by simp [rR])).trans (m4.mono (by simp [rR]))).trans (mX.mono (by simp [rR]))⟩
  refine x4.put ?_
  unfold xcells
  rfl
set_option maxRecDepth 100000 in
set_option maxHeartbeats 4000000 in
theorem rstep_d {ro : Nat → Nat} {r rm : Nat} {w : World} {X : Nat} {C : Cfg} {th tag : Int} {code : List Ins} {args : List Nat} {s : Rs} {q : Rp} {MB : Nat} {v : Value} {words : List Nat} {op : Bool} {cnt : Int} (h : RIs ro r w X C th tag code args s q) (hm : MemIs ro rm w MB v words op cnt) (hrm : rm + 1 < r ∨ r + 31 < rm) (hl : (words.length : Int) = 3 + C.threads + 3 * C.cells) (hC : C.ok) (t0 : 0 ≤ th) (t1 : th < C.threads) (c0 : 0 ≤ cnt) (c1 : cnt ≤ 1000000000) (s0 : 0 ≤ s.steps) (s1 : s.steps ≤ 1000000) (hp : s.part = 3) :
    Calls Tryz.prog 18 #[ptr X, ptr MB] w (RunP ro r rm w X C th tag code args { s with steps := s.steps + 1, part := 4 } MB v (words.set (3 + th.toNat) 0) false (cnt + 1) (.tuple #[.bool true, .int .i64 0])) := by
  have hc := h.blk.cell
  have hlt := h.blk.lt
  obtain ⟨C1, C2, C3, C4, _⟩ := id hC
  have LW := fun W (mv : Mv ro [] w ro W) => mlen_walk (hm.keep mv (by simp) (by simp))
  have OW := fun W (mv : Mv ro [] w ro W) => open_walk (hm.keep mv (by simp) (by simp))
  have hle : ¬ (words.length : Int) < 3 + C.threads + 3 * C.cells := by omega
  unfold xcells at hc
  simp only [hp, ptr] at hc LW OW ⊢
  have H := Lib.hid h
  have HP := Lib.hid hp
  have HRM := Lib.hid hrm
  have HL := Lib.hid hl
  clear h hm hl
  go_enter Tryz.func18, Tryz.ntmps18
  go_wp2
  go_quiet ((go_at_call 61; exact Calls.quiet_of_same ((LW _ ((Mv.refl _ _ _).drewN _)).mono fun e w' h => ⟨h.1, h.2⟩)))
  go_wp2_with (go_at_call 62; refine (OW _ ((Mv.refl _ _ _).drewN _)).mono ?_; rintro e w2 ⟨rfl, q2, m2⟩; have m2' : Mv ro [rm] w ro w2 := (((Mv.refl ro [] w).drewN _).mono (by simp)).trans (m2.mono (by simp)); obtain ⟨H3, Q3, M3⟩ := opened H.out q2 m2' HRM.out; have x2 := H.out.blk.keep m2' (by simp; have := HRM.out; omega); have hc2 := x2.cell; have hf2 := x2.free; have hlt2 := x2.lt; unfold xcells at hc2; simp only [HP.out, ptr] at hc2; have K3 := Lib.hid H3; have J3 := Lib.hid Q3; clear H3 Q3)
  have hrm := HRM.out
  have x3 := K3.out.blk
  have hsz := M3.size
  generalize hW : w2.setCell ⟨X, 10, none⟩ (.int .i64 (s.steps + 1)) = W3 at *
  have S0 : ∀ W, Mv ro [] W3 ro W → (W.cell? ⟨X, 0, none⟩ = some (.int .i64 0) ∧ W.cell? ⟨X, 1, none⟩ = some (.int .i64 1) ∧ W.cell? ⟨X, 2, none⟩ = some (.int .i64 2) ∧ W.cell? ⟨X, 3, none⟩ = some (.int .i64 3) ∧ W.cell? ⟨X, 4, none⟩ = some (.int .i64 (3 + C.threads)) ∧ W.cell? ⟨X, 5, none⟩ = some (.int .i64 (3 + C.threads + 3 * C.cells)) ∧ W.cell? ⟨X, 11, none⟩ = some (.int .i64 th)) := fun W mv => by
    have hx := (x3.keep mv (by simp)).cell
    unfold xcells at hx
    exact ⟨hx 0, hx 1, hx 2, hx 3, hx 4, hx 5, hx 11⟩
  have s0' := S0 _ (Mv.refl ro [] W3)
  have VW := leave_walk (C := C) (J3.out.keep (Mv.refl ro [] W3).drew (by simp) (by simp)) t0 (by omega) (by have := HL.out; omega) (by have := HL.out; omega) c0 c1
  unfold planV at VW
  simp only [ptr] at VW
  clear hc2 hf2
  clear hc hlt LW OW hle hlt2 hsz S0
  obtain ⟨e0, e1, e2, e3, e4, e5, e11⟩ := s0'
  refine wp_region_noPanic ?_
  go_region_law (go_simp; go_at_call 65; refine VW.mono ?_; rintro e w4 ⟨rfl, q4, m4⟩; have x4 := (x3.keep (Mv.refl ro [] W3).drew (by simp)).keep m4 (by simp; omega); have hx4 := x4.cell; have hf4 := x4.free; unfold xcells at hx4; simp only [HP.out] at hx4; have hlt4 := x4.lt)
  all_goals
    refine NoPanic.normal ?_
    go_wp2
    go_ret2
    have hX : ro X ∈ [r + 20] := by rw [x4.role]; simp
    have mX : Mv ro [r + 20] w4 ro (w4.setCell ⟨X, 9, none⟩ (.int .i64 4)) := (Mv.refl _ _ _).setCell hX _
    have m34 : Mv ro [rm, rm + 1] W3 ro w4 := ((Mv.refl ro [] W3).drew.mono (by simp)).trans m4
    refine ⟨rfl, ro, q, ⟨?_, (K3.out.mach.keep m34 (by simp; omega)).keep mX (by simp), (K3.out.come.keep m34 (by simp; omega)).keep mX (by simp), fun g hg => ((K3.out.read g hg).keep m34 (by simp; omega)).keep mX (by simp), (K3.out.args.keep m34 (by simp; omega)).keep mX (by simp)⟩, q4.keep mX (by simp; omega) (by simp; omega), ((M3.mono (by simp [rR])).trans (m34.mono (by simp))).trans (mX.mono (by simp [rR]))⟩
    refine x4.put ?_
    unfold xcells
    rfl
set_option maxRecDepth 100000 in
set_option maxHeartbeats 4000000 in
theorem rstep_e {ro : Nat → Nat} {r rm : Nat} {w : World} {X : Nat} {C : Cfg} {th tag : Int} {code : List Ins} {args : List Nat} {s : Rs} {q : Rp} {MB : Nat} {v : Value} {words : List Nat} {op : Bool} {cnt : Int} (h : RIs ro r w X C th tag code args s q) (hm : MemIs ro rm w MB v words op cnt) (hrm : rm + 1 < r ∨ r + 31 < rm) (hl : (words.length : Int) = 3 + C.threads + 3 * C.cells) (hC : C.ok) (t0 : 0 ≤ th) (t1 : th < C.threads) (c0 : 0 ≤ cnt) (c1 : cnt ≤ 1000000000) (s0 : 0 ≤ s.steps) (s1 : s.steps ≤ 1000000) (hp : s.part = 2) (s' : Rs) (acc : Bool) (hq : s'.part ≠ 4) (RW : ∀ ro' W, RIs ro' r W X C th tag code args { s with steps := s.steps + 1 } q → MemIs ro' rm W MB v words true cnt → Calls Tryz.prog 64 #[ptr X, ptr MB] W (RunP ro' r rm W X C th tag code args s' MB v words (!acc) (if acc then cnt + 1 else cnt) (.tuple #[]))) :
    Calls Tryz.prog 18 #[ptr X, ptr MB] w (RunP ro r rm w X C th tag code args s' MB v words (!acc) (if acc then cnt + 1 else cnt) (.tuple #[.bool false, .int .i64 0])) := by
  have hc := h.blk.cell
  have hlt := h.blk.lt
  obtain ⟨C1, C2, C3, C4, _⟩ := id hC
  have LW := fun W (mv : Mv ro [] w ro W) => mlen_walk (hm.keep mv (by simp) (by simp))
  have OW := fun W (mv : Mv ro [] w ro W) => open_walk (hm.keep mv (by simp) (by simp))
  have hle : ¬ (words.length : Int) < 3 + C.threads + 3 * C.cells := by omega
  unfold xcells at hc
  simp only [hp, ptr] at hc LW OW ⊢
  simp only [ptr] at RW
  have hq' : (s'.part == 4) = false := by simpa using hq
  generalize (if acc then cnt + 1 else cnt) = cnt' at *
  generalize (!acc) = op' at *
  have H := Lib.hid h
  have HP := Lib.hid hp
  have HRM := Lib.hid hrm
  have HL := Lib.hid hl
  clear h hm hl
  go_enter Tryz.func18, Tryz.ntmps18
  go_wp2
  go_quiet ((go_at_call 61; exact Calls.quiet_of_same ((LW _ ((Mv.refl _ _ _).drewN _)).mono fun e w' h => ⟨h.1, h.2⟩)))
  go_wp2_with (first
    | (go_at_call 62; refine (OW _ ((Mv.refl _ _ _).drewN _)).mono ?_; rintro e w2 ⟨rfl, q2, m2⟩; have m2' : Mv ro [rm] w ro w2 := (((Mv.refl ro [] w).drewN _).mono (by simp)).trans (m2.mono (by simp)); obtain ⟨H3, Q3, M3⟩ := opened H.out q2 m2' HRM.out; have x2 := H.out.blk.keep m2' (by simp; have := HRM.out; omega); have hc2 := x2.cell; have hf2 := x2.free; have hlt2 := x2.lt; unfold xcells at hc2; simp only [HP.out, ptr] at hc2; have K3 := Lib.hid H3; have J3 := Lib.hid Q3; clear H3 Q3)
    | (go_at_call 64; refine (RW _ _ K3.out J3.out).mono ?_; rintro e w4 ⟨rfl, ro4, q4, h4, n4, m4⟩; have hc4 := h4.blk.cell; unfold xcells at hc4; simp only [ptr] at hc4))
  go_ret2
  exact ⟨rfl, ro4, q4, h4, n4, (M3.mono (by simp [rR])).trans m4⟩
end Go.Proofs.YtphaeodcomgffaaGreat
