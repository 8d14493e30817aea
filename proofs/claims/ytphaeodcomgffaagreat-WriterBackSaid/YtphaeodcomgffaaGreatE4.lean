import Derived.Test.YtphaeodcomgffaaGreatE2
import Derived.Test.YtphaeodcomgffaaGreatR14
set_option linter.unusedVariables false
set_option linter.unusedSimpArgs false
namespace Go.Proofs.YtphaeodcomgffaaGreat
open Go.RowKit

/-- A read of a cell at a stamp. -/
structure Rdg where
  cell : Int
  stamp : Nat
  part : Int
  version : Nat
  value : Nat
  steps : Int
  torn : Bool
def readC (C : Cfg) (g : Rdg) : Array Value := #[.int .i64 0, .int .i64 1, .int .i64 2, .int .i64 3, .int .i64 (3 + C.threads), .int .i64 (3 + C.threads + 3 * C.cells), .int .i64 g.cell, .int .u64 g.stamp, .int .i64 g.part, .int .u64 g.version, .float .f64 g.value, .int .i64 g.steps, .bool g.torn]
/-- What a loaded word makes of it. -/
def Rdg.eat (g : Rdg) (x : Nat) : Rdg :=
  if g.part = 0 then { g with version := x, part := if g.stamp < x then 3 else 1 }
  else if g.part = 1 then { g with value := fx x, part := 2 }
  else if g.part = 2 then { g with torn := x != g.version, part := if x != g.version then 3 else 4 }
  else { g with value := fx x, part := 4 }
/-- Which of the cell's words comes next. -/
def Rdg.which (g : Rdg) : Nat := if g.part = 1 then 1 else if g.part = 3 then 2 else 0
def Ate (ro : Nat → Nat) (a : Nat) (w : World) (C : Cfg) (B : Nat) (g' : Rdg) (e : Ending) (w' : World) : Prop := e = .returned (.tuple #[]) ∧ Blk ro a w' B (readC C g') 197 ∧ Mv ro [a] w ro w'
theorem read_inR {ro : Nat → Nat} {a : Nat} {w : World} {C : Cfg} {B : Nat} {g : Rdg} (hb : Blk ro a w B (readC C g) 197) : ro B ∈ [a] := by rw [hb.role]; simp

set_option maxRecDepth 100000 in
set_option maxHeartbeats 1000000 in
theorem eat0 {ro : Nat → Nat} {a : Nat} {w : World} {C : Cfg} {B : Nat} {g : Rdg} (hb : Blk ro a w B (readC C g) 197) (x : Nat) (hp : g.part = 0) :
    Calls Tryz.prog 173 #[ptr B, .int .u64 x] w (Ate ro a w C B (g.eat x)) := by
  have hc := hb.cell
  have hf := hb.free
  have hR := read_inR hb
  have HB := Lib.hid hb
  unfold readC at hc
  simp only [ptr]
  unfold Rdg.eat
  rw [if_pos hp]
  clear hb hp
  by_cases hs : g.stamp < x
  · rw [if_pos hs]
    go_enter Tryz.func173, Tryz.ntmps173
    go_wp2
    go_end0
    exact ⟨rfl, ((HB.out.put (i := 9) rfl).put (i := 8) rfl).put (i := 8) rfl, (((Mv.refl _ _ _).setCell hR _).setCell hR _).setCell hR _⟩
  · rw [if_neg hs]
    go_enter Tryz.func173, Tryz.ntmps173
    go_wp2
    go_end0
    exact ⟨rfl, (HB.out.put (i := 9) rfl).put (i := 8) rfl, ((Mv.refl _ _ _).setCell hR _).setCell hR _⟩
set_option maxRecDepth 100000 in
set_option maxHeartbeats 1000000 in
theorem eat1 {ro : Nat → Nat} {a : Nat} {w : World} {C : Cfg} {B : Nat} {g : Rdg} (hb : Blk ro a w B (readC C g) 197) (x : Nat) (hp : g.part = 1) :
    Calls Tryz.prog 174 #[ptr B, .int .u64 x] w (Ate ro a w C B (g.eat x)) := by
  have hc := hb.cell
  have hf := hb.free
  have hR := read_inR hb
  have HB := Lib.hid hb
  unfold readC at hc
  simp only [ptr]
  unfold Rdg.eat
  rw [if_neg (by rw [hp]; decide), if_pos hp]
  have sf := run_store_float
  have OW := of_walk x
  generalize fx x = y at *
  clear hb hp
  go_enter Tryz.func174, Tryz.ntmps174
  go_wp2_with (go_at_call 90; refine (OW _).mono ?_; rintro e w1 ⟨rfl, rfl⟩)
  go_end0
  exact ⟨rfl, (HB.out.put (i := 10) rfl).put (i := 8) rfl, ((Mv.refl _ _ _).setCell hR _).setCell hR _⟩
set_option maxRecDepth 100000 in
set_option maxHeartbeats 1000000 in
theorem eat3 {ro : Nat → Nat} {a : Nat} {w : World} {C : Cfg} {B : Nat} {g : Rdg} (hb : Blk ro a w B (readC C g) 197) (x : Nat) (hp : g.part = 3) :
    Calls Tryz.prog 176 #[ptr B, .int .u64 x] w (Ate ro a w C B (g.eat x)) := by
  have hc := hb.cell
  have hf := hb.free
  have hR := read_inR hb
  have HB := Lib.hid hb
  unfold readC at hc
  simp only [ptr]
  unfold Rdg.eat
  rw [if_neg (by rw [hp]; decide), if_neg (by rw [hp]; decide), if_neg (by rw [hp]; decide)]
  have sf := run_store_float
  have OW := of_walk x
  generalize fx x = y at *
  clear hb hp
  go_enter Tryz.func176, Tryz.ntmps176
  go_wp2_with (go_at_call 90; refine (OW _).mono ?_; rintro e w1 ⟨rfl, rfl⟩)
  go_end0
  exact ⟨rfl, (HB.out.put (i := 10) rfl).put (i := 8) rfl, ((Mv.refl _ _ _).setCell hR _).setCell hR _⟩
set_option maxRecDepth 100000 in
set_option maxHeartbeats 1000000 in
theorem eat2 {ro : Nat → Nat} {a : Nat} {w : World} {C : Cfg} {B : Nat} {g : Rdg} (hb : Blk ro a w B (readC C g) 197) (x : Nat) (hp : g.part = 2) :
    Calls Tryz.prog 175 #[ptr B, .int .u64 x] w (Ate ro a w C B (g.eat x)) := by
  have hc := hb.cell
  have hf := hb.free
  have hR := read_inR hb
  have HB := Lib.hid hb
  unfold readC at hc
  simp only [ptr]
  unfold Rdg.eat
  rw [if_neg (by rw [hp]; decide), if_neg (by rw [hp]; decide), if_pos hp]
  clear hb hp
  cases hv : (x != g.version)
  · have hv1 : ((x : Int) != (g.version : Int)) = false := by rw [show x = g.version by simpa using hv]; simp
    clear hv
    simp only [Bool.false_eq_true, if_false]
    go_enter Tryz.func175, Tryz.ntmps175
    go_wp2
    go_end0
    exact ⟨rfl, (HB.out.put (i := 12) rfl).put (i := 8) rfl, ((Mv.refl _ _ _).setCell hR _).setCell hR _⟩
  · have hv1 : ((x : Int) != (g.version : Int)) = true := by simp at hv ⊢; omega
    clear hv
    simp only [if_true]
    go_enter Tryz.func175, Tryz.ntmps175
    go_wp2
    go_end0
    exact ⟨rfl, ((HB.out.put (i := 12) rfl).put (i := 8) rfl).put (i := 8) rfl, (((Mv.refl _ _ _).setCell hR _).setCell hR _).setCell hR _⟩

set_option maxRecDepth 100000 in
set_option maxHeartbeats 1000000 in
/-- The load of a cell's word. -/
theorem cload_walk {ro : Nat → Nat} {r : Nat} {w : World} {C : Cfg} {MB : Nat} {v : Value} {words : List Nat} {cnt : Int} (hC : C.ok) (hm : MemIs ro r w MB v words true cnt) (cell : Int) (k : Nat) (h0 : 0 ≤ cell) (h1 : cell < C.cells) (hk : k < 3) (hl : (words.length : Int) = 3 + C.threads + 3 * C.cells) (c0 : 0 ≤ cnt) (c1 : cnt ≤ 1000000000) :
    Calls Tryz.prog 139 #[ptr MB, planV C, .int .i64 cell, .int .i64 k] w fun e w' => e = .returned (.tuple #[.int .u64 (words.getD (3 + C.threads + 3 * cell + k).toNat 0), .int .i64 0]) ∧ MemIs ro r w' MB v words false (cnt + 1) ∧ Mv ro [r] w ro w' := by
  obtain ⟨a1, a2, a3, a4, _⟩ := hC
  have LW : ∀ W, Mv ro [] w ro W → Calls Tryz.prog 19 #[ptr MB, .int .i64 (3 + C.threads + 3 * cell + k)] W fun e w' => e = .returned (.tuple #[.int .u64 (words.getD (3 + C.threads + 3 * cell + k).toNat 0), .int .i64 0]) ∧ MemIs ro r w' MB v words false (cnt + 1) ∧ Mv ro [r] W ro w' := fun W mv => by
    have := load_ok (hm.keep mv (by simp) (by simp)) (3 + C.threads + 3 * cell + k).toNat (by omega) (by omega) c0 c1
    rwa [show (((3 + C.threads + 3 * cell + k).toNat : Nat) : Int) = 3 + C.threads + 3 * cell + k by omega] at this
  generalize words.getD (3 + C.threads + 3 * cell + k).toNat 0 = y at *
  have e1 : ¬ cell < 0 := by omega
  have e2 : ¬ 256 ≤ cell := by omega
  have e3 : ¬ 3 + C.threads < 0 := by omega
  have e4 : ¬ 4096 < 3 + C.threads := by omega
  have hk' : (k : Int) < 3 := by omega
  have PW : ∀ W, Calls Tryz.prog 89 #[planV C, .int .i64 cell, .int .i64 k] W fun e w' => e = .returned (.tuple #[.int .i64 (3 + C.threads + 3 * cell + k), .int .i64 0]) ∧ Below W.heap.size W w' := fun W => by
    clear LW hm
    unfold planV
    go_enter Tryz.func89, Tryz.ntmps89
    go_wp2
    go_ret2
    exact ⟨rfl, (Below.refl _ _).alloc (Nat.le_refl _) _⟩
  unfold planV at PW ⊢
  simp only [ptr] at LW ⊢
  clear hm
  go_enter Tryz.func139, Tryz.ntmps139
  go_wp2_with (first
    | (go_at_call 89; refine (PW _).mono ?_; rintro e w1 ⟨rfl, b1⟩; have m1 : Mv ro [] w ro w1 := ((Mv.refl ro [] w).alloc _).then_below b1)
    | (go_at_call 19; refine (LW _ m1).mono ?_; rintro e w2 ⟨rfl, q2, m2⟩))
  go_ret2
  exact ⟨rfl, q2, (m1.mono (by simp)).trans m2⟩

/-- A step of a read. -/
def Rdd (ro : Nat → Nat) (r a : Nat) (w : World) (C : Cfg) (B : Nat) (g : Rdg) (MB : Nat) (v : Value) (words : List Nat) (cnt : Int) (e : Ending) (w' : World) : Prop :=
  e = .returned (.tuple #[.bool (g.part == 4), .int .i64 0]) ∧ Blk ro a w' B (readC C g) 197 ∧ MemIs ro r w' MB v words false (cnt + 1) ∧ Mv ro [a, r] w ro w'
def Rdg.more (g : Rdg) : Rdg := { g with steps := g.steps + 1 }
set_option maxRecDepth 100000 in
set_option maxHeartbeats 2000000 in
theorem rstep_0 {ro : Nat → Nat} {r a : Nat} {w : World} {C : Cfg} {B MB : Nat} {g : Rdg} {v : Value} {words : List Nat} {cnt : Int} (hC : C.ok) (hb : Blk ro a w B (readC C g) 197) (hm : MemIs ro r w MB v words true cnt) (ha : a < r ∨ r + 1 < a) (hp : g.part = 0) (h0 : 0 ≤ g.cell) (h1 : g.cell < C.cells) (hl : (words.length : Int) = 3 + C.threads + 3 * C.cells) (c0 : 0 ≤ cnt) (c1 : cnt ≤ 1000000000) (s0 : 0 ≤ g.steps) (s1 : g.steps ≤ 1000) :
    Calls Tryz.prog 109 #[ptr B, ptr MB] w (Rdd ro r a w C B (g.more.eat (words.getD (3 + C.threads + 3 * g.cell + 0).toNat 0)) MB v words cnt) := by
  have hmf : ∀ (fn : Fn) (first cap : Array Value) (w : World), (Instr.makeFunc fn first cap).run Tryz.prog w = .ok (.func fn first cap) w := fun _ _ _ _ => rfl
  have hc := hb.cell
  have LW := fun W (mv : Mv ro [] w ro W) => cload_walk hC (hm.keep mv (by simp) (by simp)) g.cell 0 h0 h1 (by decide) hl c0 c1
  simp only [show (((0 : Nat) : Int)) = 0 from rfl] at LW
  generalize words.getD (3 + C.threads + 3 * g.cell + 0).toNat 0 = y at *
  have HB := Lib.hid hb
  have EW : ∀ W, Blk ro a W B (readC C g.more) 197 → Calls Tryz.prog 173 #[ptr B, .int .u64 y] W (Ate ro a W C B (g.more.eat y)) := fun W b => eat0 b y hp
  unfold readC at hc
  unfold planV at LW
  simp only [hp] at hc
  simp only [ptr] at LW EW ⊢
  clear hb hm
  go_enter Tryz.func109, Tryz.ntmps109
  go_wp2_with (go_in)
  refine wp_region_noPanic ?_
  go_region_law (go_simp; (go_at_call 139; refine (LW _ (Mv.refl ro [] w).drew).mono ?_; rintro e w2 ⟨rfl, q2, m2⟩; have b2 := (HB.out.keep (Mv.refl ro [] w).drew (by simp)).keep m2 (by simp; omega); have hc2 := b2.cell 11; have hf2 := b2.free 11; unfold readC at hc2; simp only [List.getElem?_toArray, List.getElem?_cons_succ, List.getElem?_cons_zero] at hc2; have B3 := Lib.hid (show Blk ro a (w2.setCell ⟨B, 11, none⟩ (.int .i64 (g.steps + 1))) B (readC C g.more) _ from b2.put (i := 11) rfl)))
  all_goals
    refine NoPanic.normal ?_
    go_wp2_with (go_at_call 173; refine (EW _ B3.out).mono ?_; rintro e w3 ⟨rfl, b3, m3⟩; have hc3 := b3.cell 8; unfold readC at hc3; simp only [List.getElem?_toArray, List.getElem?_cons_succ, List.getElem?_cons_zero] at hc3)
    go_ret2
    have hB : ro B ∈ [a] := by rw [b2.role]; simp
    have m23 := (Mv.refl ro [a] w2).setCell (p := ⟨B, 11, none⟩) hB (.int .i64 (g.steps + 1))
    have m4 := m23.trans m3
    exact ⟨rfl, b3, q2.keep m4 (by simp; omega) (by simp; omega), ((Mv.refl ro _ w).drew.trans (m2.mono (by simp))).trans (m4.mono (by simp))⟩
set_option maxRecDepth 100000 in
set_option maxHeartbeats 2000000 in
theorem rstep_1 {ro : Nat → Nat} {r a : Nat} {w : World} {C : Cfg} {B MB : Nat} {g : Rdg} {v : Value} {words : List Nat} {cnt : Int} (hC : C.ok) (hb : Blk ro a w B (readC C g) 197) (hm : MemIs ro r w MB v words true cnt) (ha : a < r ∨ r + 1 < a) (hp : g.part = 1) (h0 : 0 ≤ g.cell) (h1 : g.cell < C.cells) (hl : (words.length : Int) = 3 + C.threads + 3 * C.cells) (c0 : 0 ≤ cnt) (c1 : cnt ≤ 1000000000) (s0 : 0 ≤ g.steps) (s1 : g.steps ≤ 1000) :
    Calls Tryz.prog 109 #[ptr B, ptr MB] w (Rdd ro r a w C B (g.more.eat (words.getD (3 + C.threads + 3 * g.cell + 1).toNat 0)) MB v words cnt) := by
  have hmf : ∀ (fn : Fn) (first cap : Array Value) (w : World), (Instr.makeFunc fn first cap).run Tryz.prog w = .ok (.func fn first cap) w := fun _ _ _ _ => rfl
  have hc := hb.cell
  have LW := fun W (mv : Mv ro [] w ro W) => cload_walk hC (hm.keep mv (by simp) (by simp)) g.cell 1 h0 h1 (by decide) hl c0 c1
  simp only [show (((1 : Nat) : Int)) = 1 from rfl] at LW
  generalize words.getD (3 + C.threads + 3 * g.cell + 1).toNat 0 = y at *
  have HB := Lib.hid hb
  have EW : ∀ W, Blk ro a W B (readC C g.more) 197 → Calls Tryz.prog 174 #[ptr B, .int .u64 y] W (Ate ro a W C B (g.more.eat y)) := fun W b => eat1 b y hp
  unfold readC at hc
  unfold planV at LW
  simp only [hp] at hc
  simp only [ptr] at LW EW ⊢
  clear hb hm
  go_enter Tryz.func109, Tryz.ntmps109
  go_wp2_with (go_in)
  refine wp_region_noPanic ?_
  go_region_law (go_simp; (go_at_call 139; refine (LW _ (Mv.refl ro [] w).drew).mono ?_; rintro e w2 ⟨rfl, q2, m2⟩; have b2 := (HB.out.keep (Mv.refl ro [] w).drew (by simp)).keep m2 (by simp; omega); have hc2 := b2.cell 11; have hf2 := b2.free 11; unfold readC at hc2; simp only [List.getElem?_toArray, List.getElem?_cons_succ, List.getElem?_cons_zero] at hc2; have B3 := Lib.hid (show Blk ro a (w2.setCell ⟨B, 11, none⟩ (.int .i64 (g.steps + 1))) B (readC C g.more) _ from b2.put (i := 11) rfl)))
  all_goals
    refine NoPanic.normal ?_
    go_wp2_with (go_at_call 174; refine (EW _ B3.out).mono ?_; rintro e w3 ⟨rfl, b3, m3⟩; have hc3 := b3.cell 8; unfold readC at hc3; simp only [List.getElem?_toArray, List.getElem?_cons_succ, List.getElem?_cons_zero] at hc3)
    go_ret2
    have hB : ro B ∈ [a] := by rw [b2.role]; simp
    have m23 := (Mv.refl ro [a] w2).setCell (p := ⟨B, 11, none⟩) hB (.int .i64 (g.steps + 1))
    have m4 := m23.trans m3
    exact ⟨rfl, b3, q2.keep m4 (by simp; omega) (by simp; omega), ((Mv.refl ro _ w).drew.trans (m2.mono (by simp))).trans (m4.mono (by simp))⟩
set_option maxRecDepth 100000 in
set_option maxHeartbeats 2000000 in
theorem rstep_2 {ro : Nat → Nat} {r a : Nat} {w : World} {C : Cfg} {B MB : Nat} {g : Rdg} {v : Value} {words : List Nat} {cnt : Int} (hC : C.ok) (hb : Blk ro a w B (readC C g) 197) (hm : MemIs ro r w MB v words true cnt) (ha : a < r ∨ r + 1 < a) (hp : g.part = 2) (h0 : 0 ≤ g.cell) (h1 : g.cell < C.cells) (hl : (words.length : Int) = 3 + C.threads + 3 * C.cells) (c0 : 0 ≤ cnt) (c1 : cnt ≤ 1000000000) (s0 : 0 ≤ g.steps) (s1 : g.steps ≤ 1000) :
    Calls Tryz.prog 109 #[ptr B, ptr MB] w (Rdd ro r a w C B (g.more.eat (words.getD (3 + C.threads + 3 * g.cell + 0).toNat 0)) MB v words cnt) := by
  have hmf : ∀ (fn : Fn) (first cap : Array Value) (w : World), (Instr.makeFunc fn first cap).run Tryz.prog w = .ok (.func fn first cap) w := fun _ _ _ _ => rfl
  have hc := hb.cell
  have LW := fun W (mv : Mv ro [] w ro W) => cload_walk hC (hm.keep mv (by simp) (by simp)) g.cell 0 h0 h1 (by decide) hl c0 c1
  simp only [show (((0 : Nat) : Int)) = 0 from rfl] at LW
  generalize words.getD (3 + C.threads + 3 * g.cell + 0).toNat 0 = y at *
  have HB := Lib.hid hb
  have EW : ∀ W, Blk ro a W B (readC C g.more) 197 → Calls Tryz.prog 175 #[ptr B, .int .u64 y] W (Ate ro a W C B (g.more.eat y)) := fun W b => eat2 b y hp
  unfold readC at hc
  unfold planV at LW
  simp only [hp] at hc
  simp only [ptr] at LW EW ⊢
  clear hb hm
  go_enter Tryz.func109, Tryz.ntmps109
  go_wp2_with (go_in)
  refine wp_region_noPanic ?_
  go_region_law (go_simp; (go_at_call 139; refine (LW _ (Mv.refl ro [] w).drew).mono ?_; rintro e w2 ⟨rfl, q2, m2⟩; have b2 := (HB.out.keep (Mv.refl ro [] w).drew (by simp)).keep m2 (by simp; omega); have hc2 := b2.cell 11; have hf2 := b2.free 11; unfold readC at hc2; simp only [List.getElem?_toArray, List.getElem?_cons_succ, List.getElem?_cons_zero] at hc2; have B3 := Lib.hid (show Blk ro a (w2.setCell ⟨B, 11, none⟩ (.int .i64 (g.steps + 1))) B (readC C g.more) _ from b2.put (i := 11) rfl)))
  all_goals
    refine NoPanic.normal ?_
    go_wp2_with (go_at_call 175; refine (EW _ B3.out).mono ?_; rintro e w3 ⟨rfl, b3, m3⟩; have hc3 := b3.cell 8; unfold readC at hc3; simp only [List.getElem?_toArray, List.getElem?_cons_succ, List.getElem?_cons_zero] at hc3)
    go_ret2
    have hB : ro B ∈ [a] := by rw [b2.role]; simp
    have m23 := (Mv.refl ro [a] w2).setCell (p := ⟨B, 11, none⟩) hB (.int .i64 (g.steps + 1))
    have m4 := m23.trans m3
    exact ⟨rfl, b3, q2.keep m4 (by simp; omega) (by simp; omega), ((Mv.refl ro _ w).drew.trans (m2.mono (by simp))).trans (m4.mono (by simp))⟩
set_option maxRecDepth 100000 in
set_option maxHeartbeats 2000000 in
theorem rstep_3 {ro : Nat → Nat} {r a : Nat} {w : World} {C : Cfg} {B MB : Nat} {g : Rdg} {v : Value} {words : List Nat} {cnt : Int} (hC : C.ok) (hb : Blk ro a w B (readC C g) 197) (hm : MemIs ro r w MB v words true cnt) (ha : a < r ∨ r + 1 < a) (hp : g.part = 3) (h0 : 0 ≤ g.cell) (h1 : g.cell < C.cells) (hl : (words.length : Int) = 3 + C.threads + 3 * C.cells) (c0 : 0 ≤ cnt) (c1 : cnt ≤ 1000000000) (s0 : 0 ≤ g.steps) (s1 : g.steps ≤ 1000) :
    Calls Tryz.prog 109 #[ptr B, ptr MB] w (Rdd ro r a w C B (g.more.eat (words.getD (3 + C.threads + 3 * g.cell + 2).toNat 0)) MB v words cnt) := by
  have hmf : ∀ (fn : Fn) (first cap : Array Value) (w : World), (Instr.makeFunc fn first cap).run Tryz.prog w = .ok (.func fn first cap) w := fun _ _ _ _ => rfl
  have hc := hb.cell
  have LW := fun W (mv : Mv ro [] w ro W) => cload_walk hC (hm.keep mv (by simp) (by simp)) g.cell 2 h0 h1 (by decide) hl c0 c1
  simp only [show (((2 : Nat) : Int)) = 2 from rfl] at LW
  generalize words.getD (3 + C.threads + 3 * g.cell + 2).toNat 0 = y at *
  have HB := Lib.hid hb
  have EW : ∀ W, Blk ro a W B (readC C g.more) 197 → Calls Tryz.prog 176 #[ptr B, .int .u64 y] W (Ate ro a W C B (g.more.eat y)) := fun W b => eat3 b y hp
  unfold readC at hc
  unfold planV at LW
  simp only [hp] at hc
  simp only [ptr] at LW EW ⊢
  clear hb hm
  go_enter Tryz.func109, Tryz.ntmps109
  go_wp2_with (go_in)
  refine wp_region_noPanic ?_
  go_region_law (go_simp; (go_at_call 139; refine (LW _ (Mv.refl ro [] w).drew).mono ?_; rintro e w2 ⟨rfl, q2, m2⟩; have b2 := (HB.out.keep (Mv.refl ro [] w).drew (by simp)).keep m2 (by simp; omega); have hc2 := b2.cell 11; have hf2 := b2.free 11; unfold readC at hc2; simp only [List.getElem?_toArray, List.getElem?_cons_succ, List.getElem?_cons_zero] at hc2; have B3 := Lib.hid (show Blk ro a (w2.setCell ⟨B, 11, none⟩ (.int .i64 (g.steps + 1))) B (readC C g.more) _ from b2.put (i := 11) rfl)))
  all_goals
    refine NoPanic.normal ?_
    go_wp2_with (go_at_call 176; refine (EW _ B3.out).mono ?_; rintro e w3 ⟨rfl, b3, m3⟩; have hc3 := b3.cell 8; unfold readC at hc3; simp only [List.getElem?_toArray, List.getElem?_cons_succ, List.getElem?_cons_zero] at hc3)
    go_ret2
    have hB : ro B ∈ [a] := by rw [b2.role]; simp
    have m23 := (Mv.refl ro [a] w2).setCell (p := ⟨B, 11, none⟩) hB (.int .i64 (g.steps + 1))
    have m4 := m23.trans m3
    exact ⟨rfl, b3, q2.keep m4 (by simp; omega) (by simp; omega), ((Mv.refl ro _ w).drew.trans (m2.mono (by simp))).trans (m4.mono (by simp))⟩
end Go.Proofs.YtphaeodcomgffaaGreat
set_option linter.unusedVariables false
set_option linter.unusedSimpArgs false
namespace Go.Proofs.YtphaeodcomgffaaGreat
open Go.RowKit

/-- A reader. -/
structure Rs where
  m : Ms
  part : Int
  steps : Int
  n : Int
  claim : Nat
  stamp : Nat
  read : Option Rdg
def Rdg.new (cell : Int) (stamp : Nat) : Rdg := ⟨cell, stamp, 0, 0, 0, 0, false⟩
def Rdg.loc (C : Cfg) (g : Rdg) : Nat := (3 + C.threads + 3 * g.cell + g.which).toNat
def Rdg.next (C : Cfg) (words : List Nat) (g : Rdg) : Rdg := g.more.eat (words.getD (g.loc C) 0)
/-- A step of the read that is under way. -/
def Rs.rd (C : Cfg) (words : List Nat) (s : Rs) (g : Rdg) : Rs :=
  if (g.next C words).part = 4 then { s with m := (s.m.give (g.next C words).value).1, read := none } else { s with read := some (g.next C words) }
/-- A step of its program; and whether it had an access. -/
def Rs.run (C : Cfg) (tag : Int) (code : List Ins) (words : List Nat) (s : Rs) : Rs × Bool :=
  match s.read with
  | some g => (s.rd C words g, true)
  | none =>
    let q := s.m.step C tag code
    if q.2.kind = 4 then ({ s with m := q.1, part := 3 }, false)
    else if q.2.kind = 1 then (({ s with m := q.1 } : Rs).rd C words (Rdg.new q.2.cell s.stamp), true)
    else ({ s with m := q.1 }, false)

theorem rstep_walk {ro : Nat → Nat} {r a : Nat} {w : World} {C : Cfg} {B MB : Nat} {g : Rdg} {v : Value} {words : List Nat} {cnt : Int} (hC : C.ok) (hb : Blk ro a w B (readC C g) 197) (hm : MemIs ro r w MB v words true cnt) (ha : a < r ∨ r + 1 < a) (hp : 0 ≤ g.part ∧ g.part ≤ 3) (h0 : 0 ≤ g.cell) (h1 : g.cell < C.cells) (hl : (words.length : Int) = 3 + C.threads + 3 * C.cells) (c0 : 0 ≤ cnt) (c1 : cnt ≤ 1000000000) (s0 : 0 ≤ g.steps) (s1 : g.steps ≤ 1000) :
    Calls Tryz.prog 109 #[ptr B, ptr MB] w (Rdd ro r a w C B (g.next C words) MB v words cnt) := by
  unfold Rdg.next Rdg.loc Rdg.which
  rcases (by omega : g.part = 0 ∨ g.part = 1 ∨ g.part = 2 ∨ g.part = 3) with e | e | e | e
  · rw [e]; exact rstep_0 hC hb hm ha e h0 h1 hl c0 c1 s0 s1
  · rw [e]; exact rstep_1 hC hb hm ha e h0 h1 hl c0 c1 s0 s1
  · rw [e]; exact rstep_2 hC hb hm ha e h0 h1 hl c0 c1 s0 s1
  · rw [e]; exact rstep_3 hC hb hm ha e h0 h1 hl c0 c1 s0 s1
set_option maxRecDepth 100000 in
theorem value_walk {ro : Nat → Nat} {a : Nat} {w : World} {C : Cfg} {B : Nat} {g : Rdg} (hb : Blk ro a w B (readC C g) 197) (hp : g.part = 4) :
    Calls Tryz.prog 110 #[ptr B] w fun e w' => e = .returned (.float .f64 g.value) ∧ w' = w := by
  have hc := hb.cell
  unfold readC at hc
  simp only [hp] at hc
  simp only [ptr]
  clear hb
  go_enter Tryz.func110, Tryz.ntmps110
  go_wp2
  go_ret
  exact ⟨rfl, rfl⟩
set_option maxRecDepth 100000 in
theorem newread_walk (ro : Nat → Nat) (a : Nat) (C : Cfg) (cell : Int) (stamp : Nat) (w : World) :
    Calls Tryz.prog 108 #[planV C, .int .i64 cell, .int .u64 stamp] w fun e w' => ∃ B ro', e = .returned (ptr B) ∧ Blk ro' a w' B (readC C (Rdg.new cell stamp)) 197 ∧ Mv ro [] w ro' w' := by
  unfold planV
  go_enter Tryz.func108, Tryz.ntmps108
  go_wp2
  go_ret
  refine ⟨w.heap.size + 1, setRo ro (w.heap.size + 1) a, rfl, ⟨?_, setRo_at _ _ _⟩, (((Mv.refl ro [] w).alloc _).alloc _).give (by omega)⟩
  exact alloc2_heap _ _ _ _

/-- Where a reader's things lie. -/
structure Rp where
  M : Nat
  CB : Nat
  RB : Nat
  va : Value
  p : Mp
def xcells (C : Cfg) (th tag : Int) (s : Rs) (q : Rp) : Array Value :=
  #[.int .i64 0, .int .i64 1, .int .i64 2, .int .i64 3, .int .i64 (3 + C.threads), .int .i64 (3 + C.threads + 3 * C.cells), ptr q.M, .int .i64 tag, q.va, .int .i64 s.part, .int .i64 s.steps, .int .i64 th, ptr q.CB, if s.read.isSome then ptr q.RB else .pointer none]
/-- Block X is a reader that stands at s. -/
structure RIs (ro : Nat → Nat) (r : Nat) (w : World) (X : Nat) (C : Cfg) (th tag : Int) (code : List Ins) (args : List Nat) (s : Rs) (q : Rp) : Prop where
  blk : Blk ro (r + 20) w X (xcells C th tag s q) 58
  mach : MIs ro r w q.M C tag code s.m q.p
  come : Blk ro (r + 21) w q.CB (comeC C th s.n s.claim s.stamp) 177
  read : ∀ g, s.read = some g → Blk ro (r + 22) w q.RB (readC C g) 197
  args : OwnL cF ro (r + 23) w 74 1 q.va (args.map fx)
def rR (r : Nat) : List Nat := [r, r + 1, r + 2, r + 3, r + 4, r + 5, r + 6, r + 7, r + 8, r + 9, r + 10, r + 11, r + 12, r + 13, r + 14, r + 15, r + 20, r + 21, r + 22, r + 23]
theorem RIs.keep {ro ro' : Nat → Nat} {r : Nat} {w w' : World} {X C th tag code args s q R} (h : RIs ro r w X C th tag code args s q) (mv : Mv ro R w ro' w') (hR : ∀ x ∈ R, x < r ∨ r + 23 < x) : RIs ro' r w' X C th tag code args s q := by
  have k : ∀ i, i ≤ 23 → r + i ∉ R := fun i hi hx => by have := hR _ hx; omega
  exact ⟨h.blk.keep mv (k 20 (by omega)), h.mach.keep mv fun x hx => by have := hR x hx; omega, h.come.keep mv (k 21 (by omega)), fun g hg => (h.read g hg).keep mv (k 22 (by omega)), h.args.keep mv (k 23 (by omega))⟩
/-- What a step of the reader leaves: the reader, the words. -/
def RunP (ro : Nat → Nat) (r rm : Nat) (w : World) (X : Nat) (C : Cfg) (th tag : Int) (code : List Ins) (args : List Nat) (s : Rs) (MB : Nat) (v : Value) (words : List Nat) (op : Bool) (cnt : Int) (val : Value) (e : Ending) (w' : World) : Prop :=
  e = .returned val ∧ ∃ ro' q', RIs ro' r w' X C th tag code args s q' ∧ MemIs ro' rm w' MB v words op cnt ∧ Mv ro ([rm, rm + 1] ++ rR r) w ro' w'

set_option maxRecDepth 100000 in
set_option maxHeartbeats 2000000 in
/-- run, where a read is under way and goes on. -/
theorem run_goes {ro : Nat → Nat} {r rm : Nat} {w : World} {X : Nat} {C : Cfg} {th tag : Int} {code : List Ins} {args : List Nat} {s : Rs} {q : Rp} {g : Rdg} {MB : Nat} {v : Value} {words : List Nat} {cnt : Int} (hC : C.ok) (h : RIs ro r w X C th tag code args s q) (hm : MemIs ro rm w MB v words true cnt) (hrm : rm + 1 < r ∨ r + 31 < rm) (hg : s.read = some g) (hp : 0 ≤ g.part ∧ g.part ≤ 3) (h0 : 0 ≤ g.cell) (h1 : g.cell < C.cells) (hl : (words.length : Int) = 3 + C.threads + 3 * C.cells) (c0 : 0 ≤ cnt) (c1 : cnt ≤ 1000000000) (s0 : 0 ≤ g.steps) (s1 : g.steps ≤ 1000) (hn : (g.next C words).part ≠ 4) :
    Calls Tryz.prog 64 #[ptr X, ptr MB] w (RunP ro r rm w X C th tag code args { s with read := some (g.next C words) } MB v words false (cnt + 1) (.tuple #[])) := by
  have hc := h.blk.cell
  have RW := rstep_walk hC (h.read g hg) hm (by omega) hp h0 h1 hl c0 c1 s0 s1
  have hn' : ((g.next C words).part == 4) = false := by simpa using hn
  unfold Rdd at RW
  rw [hn'] at RW
  generalize g.next C words = g' at *
  unfold xcells at hc
  simp only [hg, Option.isSome_some, if_true, ptr] at hc RW ⊢
  have H := Lib.hid h
  have HG := Lib.hid hg
  clear h hg hn hm
  go_enter Tryz.func64, Tryz.ntmps64
  go_wp2_with (go_at_call 109; refine RW.mono ?_; rintro e w1 ⟨rfl, b1, q1, m1⟩)
  go_end0
  have m1' : Mv ro [r + 22, rm] w ro w1 := m1
  refine ⟨rfl, ro, q, ⟨?_, H.out.mach.keep m1 (by simp; omega), H.out.come.keep m1 (by simp; omega), ?_, H.out.args.keep m1 (by simp; omega)⟩, q1, m1.mono (by simp [rR])⟩
  · have := H.out.blk.keep m1 (by simp; omega)
    unfold xcells at this ⊢
    rw [HG.out] at this
    exact this
  · intro g2 hg2
    cases hg2
    exact b1
end Go.Proofs.YtphaeodcomgffaaGreat
