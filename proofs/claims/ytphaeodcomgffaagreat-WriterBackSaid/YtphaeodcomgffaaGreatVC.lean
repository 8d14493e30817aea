import Derived.Test.YtphaeodcomgffaaGreatE6
import Derived.Test.YtphaeodcomgffaaGreatQC
import Derived.Deep.QuietTactic
import Derived.WalkMore
set_option linter.unusedVariables false
set_option linter.unusedSimpArgs false
namespace Go.Proofs.YtphaeodcomgffaaGreat
open Go.RowKit

/-! The program's writer: what it holds, what a step does. -/
/-- A cell's three words that are being written. -/
structure Wb where
  cell : Int
  w0 : Nat
  w1 : Nat
  w2 : Nat
  n : Int
structure Wr where
  m : Ms
  part : Int
  steps : Int
  ticket : Nat
  stamp : Nat
  number : Int
  was : List Nat
  scan : Option (Int × Int)
  back : Option Wb
  written : Int
/-- Where a cell's word lies. -/
def Cfg.cellAt (C : Cfg) (cell k : Int) : Nat := (3 + C.threads + 3 * cell + k).toNat
def inc64 (x : Nat) : Nat := (x + 1) % 18446744073709551616
/-- Which of a cell's words is written at a step. -/
def Wb.which (b : Wb) : Int := if b.n = 0 then 2 else if b.n = 1 then 0 else 1
def Wb.word (b : Wb) : Nat := if b.n = 0 then b.w0 else if b.n = 1 then b.w1 else b.w2
/-- The writing of the next cell, begun. -/
def Wr.start (s : Wr) : Wb :=
  ⟨(s.m.writes.getD s.written.toNat (0, 0)).1, s.was.getD s.written.toNat 0, inc64 s.stamp, (s.m.writes.getD s.written.toNat (0, 0)).2, 0⟩
def Wr.more (s : Wr) : Wr := { s with steps := s.steps + 1 }
/-- A step of its program. -/
def Wr.runs (C : Cfg) (tag : Int) (code : List Ins) (words : List Nat) (s : Wr) : Wr × Bool :=
  let q := s.m.step C tag code
  let y := fx (words.getD (C.cellAt q.2.cell 1) 0)
  if q.2.kind = 1 then ({ s with m := (q.1.give y).1 }, true)
  else if q.2.kind = 3 ∧ q.2.first = true then ({ s with m := q.1, was := s.was ++ [y] }, true)
  else if q.2.kind = 4 then (if q.1.how = 1 then { s with m := q.1, scan := some (0, 0), part := 5 } else { s with m := q.1, part := 8 }, false)
  else ({ s with m := q.1 }, false)
/-- A step of its look at the census: where it is, how often it found a claim that is too old. -/
def Wr.scans (C : Cfg) (words : List Nat) (s : Wr) (g : Int × Int) : Wr :=
  let x := words.getD (3 + g.1).toNat 0
  if x ≠ 0 ∧ x ≤ s.stamp then { s with scan := some (g.1, g.2 + 1) }
  else { s with scan := some (g.1 + 1, g.2), part := if g.1 + 1 = C.threads then (if 0 < s.was.length then 6 else 7) else 5 }
/-- A step of the writing of a cell. -/
def Wr.puts (s : Wr) (b : Wb) : Wr :=
  if b.n = 2 then { s with back := none, written := s.written + 1, part := if s.written + 1 = s.was.length then 7 else 6 }
  else { s with back := some { b with n := b.n + 1 }, part := if s.written = s.was.length then 7 else 6 }
/-- A step: the writer, the words, whether there was an access. -/
def Wr.step (C : Cfg) (tag : Int) (code : List Ins) (words : List Nat) (s : Wr) : Wr × List Nat × Bool :=
  if s.part = 1 then ({ s.more with ticket := words.getD 0 0, part := 2 }, words.set 0 (inc64 (words.getD 0 0)), true)
  else if s.part = 2 then ({ s.more with part := if words.getD 1 0 = s.ticket then 3 else 2 }, words, true)
  else if s.part = 3 then ({ s.more with stamp := words.getD 2 0, part := 4 }, words, true)
  else if s.part = 4 then ((s.more.runs C tag code words).1, words, (s.more.runs C tag code words).2)
  else if s.part = 5 then (s.more.scans C words (s.scan.getD (0, 0)), words, true)
  else if s.part = 6 then
    let b := s.back.getD s.start
    (s.more.puts b, words.set (C.cellAt b.cell b.which) b.word, true)
  else if s.part = 7 then ({ s.more with number := IntKind.i64.wrap (inc64 s.stamp), part := 8 }, words.set 2 (inc64 s.stamp), true)
  else ({ s.more with part := 9 }, words.set 1 (inc64 s.ticket), true)
def newWr (bad : Bool) (args : List Nat) : Wr := ⟨newMs bad args args.length, 1, 0, 0, 0, 0, [], none, none, 0⟩
end Go.Proofs.YtphaeodcomgffaaGreat
set_option linter.unusedVariables false
set_option linter.unusedSimpArgs false
namespace Go.Proofs.YtphaeodcomgffaaGreat
open Go.RowKit

/-! The writer's accesses: a ticket drawn, looked for, passed on; the stamp; a cell's number now. -/
set_option maxRecDepth 100000 in
set_option maxHeartbeats 1000000 in
theorem add_ok {ro : Nat → Nat} {r : Nat} {w : World} {B : Nat} {v : Value} {words : List Nat} {cnt : Int} (h : MemIs ro r w B v words true cnt) (i : Nat) (hi : i < words.length) (hl : words.length ≤ 4096) (c0 : 0 ≤ cnt) (c1 : cnt ≤ 1000000000) :
    Calls Tryz.prog 218 #[.pointer (some ⟨B, 0, none⟩), .int .i64 i, .int .u64 1] w fun e w' => e = .returned (.tuple #[.int .u64 (words.getD i 0), .int .i64 0]) ∧ MemIs ro r w' B v (words.set i (inc64 (words.getD i 0))) false (cnt + 1) ∧ Mv ro [r, r + 1] w ro w' := by
  have hmf : ∀ (fn : Fn) (first cap : Array Value) (w : World), (Instr.makeFunc fn first cap).run Tryz.prog w = .ok (.func fn first cap) w := fun _ _ _ _ => rfl
  have hc := h.blk.cell
  have hf := h.blk.free
  have hlt := h.blk.lt
  obtain ⟨g, cap, rfl, hg, q1, q2⟩ := h.own.pos (by omega)
  have hx := h.own.at1 cU_len hi
  have hgl := block_lt_of_cell (hx.trans rfl : _ = some (.int .u64 (words[i]'hi)))
  have hfg := Own.free h.own i
  simp only [cU, List.getElem?_cons_zero] at hx
  have ey : words.getD i 0 = words[i]'hi := by rw [List.getD_eq_getElem?_getD, List.getElem?_eq_getElem hi]; rfl
  rw [ey]
  clear ey
  generalize words[i]'hi = y at *
  have hne : B ≠ g := by rintro rfl; have := h.blk.role; omega
  have hne2 := hne.symm
  have hi1 : (i : Int) < words.length := by omega
  have H := Lib.hid h
  simp only at hgl
  have eu : IntKind.u64.wrap ((y : Int) + 1) = ((inc64 y : Nat) : Int) := by rw [wrapU]; unfold inc64; omega
  clear h
  go_enter Tryz.func218, Tryz.ntmps218
  go_wp2_with (go_in)
  go_region
  all_goals
    go_end0
    go_wp2_with (go_in)
    go_ret2
    have hB : ro B ∈ [r, r + 1] := by rw [H.out.blk.role]; simp
    have mB : Mv ro [r] w ro ((w.setCell ⟨B, 1, none⟩ (.bool false)).setCell ⟨B, 2, none⟩ (.int .i64 (cnt + 1))) := ((Mv.refl _ _ _).setCell (by rw [H.out.blk.role]; simp) _).setCell (by rw [H.out.blk.role]; simp) _
    have mG : Mv ro [r + 1] ((w.setCell ⟨B, 1, none⟩ (.bool false)).setCell ⟨B, 2, none⟩ (.int .i64 (cnt + 1))) ro (((((w.setCell ⟨B, 1, none⟩ (.bool false)).setCell ⟨B, 2, none⟩ (.int .i64 (cnt + 1))).setCell ⟨g, i, none⟩ (.int .u64 (inc64 y))).alloc (.cells #[.int .u64 1] 40)).alloc (.cells #[.int .u64 y] 40)).drew := ((((Mv.refl _ _ _).setCell (by rw [hg]; simp) _).alloc _).alloc _).drew
    exact ⟨rfl, ⟨((H.out.blk.put (i := 1) rfl).put (i := 2) rfl).keep mG (by simp), ((H.out.own.keep mB (by simp)).setU i (inc64 y) hi).keep ((((Mv.refl _ [] _).alloc _).alloc _).drew) (by simp)⟩, (mB.mono (by simp)).trans (mG.mono (by simp))⟩
/-- What an access leaves, that writes no word. -/
def LdP (ro : Nat → Nat) (r : Nat) (w : World) (B : Nat) (v : Value) (words : List Nat) (cnt : Int) (val : Value) (e : Ending) (w' : World) : Prop := e = .returned val ∧ MemIs ro r w' B v words false (cnt + 1) ∧ Mv ro [r] w ro w'
/-- What an access leaves that writes. -/
def StP (ro : Nat → Nat) (r : Nat) (w : World) (B : Nat) (v : Value) (words : List Nat) (cnt : Int) (val : Value) (e : Ending) (w' : World) : Prop := e = .returned val ∧ MemIs ro r w' B v words false (cnt + 1) ∧ Mv ro [r, r + 1] w ro w'
set_option maxRecDepth 100000 in
set_option maxHeartbeats 1000000 in
theorem draw_walk {ro : Nat → Nat} {r : Nat} {w : World} {C : Cfg} {MB : Nat} {v : Value} {words : List Nat} {cnt : Int} (hm : MemIs ro r w MB v words true cnt) (hl : 3 ≤ words.length) (hl2 : words.length ≤ 4096) (c0 : 0 ≤ cnt) (c1 : cnt ≤ 1000000000) :
    Calls Tryz.prog 189 #[ptr MB, planV C] w (StP ro r w MB v (words.set 0 (inc64 (words.getD 0 0))) cnt (.tuple #[.int .u64 (words.getD 0 0), .int .i64 0])) := by
  have hmf : ∀ (fn : Fn) (first cap : Array Value) (w : World), (Instr.makeFunc fn first cap).run Tryz.prog w = .ok (.func fn first cap) w := fun _ _ _ _ => rfl
  have AW : ∀ W, Mv ro [] w ro W → Calls Tryz.prog 218 #[ptr MB, .int .i64 0, .int .u64 1] W fun e w' => e = .returned (.tuple #[.int .u64 (words.getD 0 0), .int .i64 0]) ∧ MemIs ro r w' MB v (words.set 0 (inc64 (words.getD 0 0))) false (cnt + 1) ∧ Mv ro [r, r + 1] W ro w' := fun W mv => add_ok (hm.keep mv (by simp) (by simp)) 0 (by omega) hl2 c0 c1
  unfold StP planV
  generalize words.getD 0 0 = y at *
  simp only [ptr] at *
  clear hm
  go_enter Tryz.func189, Tryz.ntmps189
  go_wp2_with (first
    | (go_at_call 218; refine (AW _ (((Mv.refl ro [] w).alloc _).alloc _)).mono ?_; rintro e w2 ⟨rfl, q2, m2⟩)
    | go_in)
  go_ret2
  exact ⟨rfl, q2, ((((Mv.refl ro [] w).alloc _).alloc _).mono (by simp)).trans m2⟩
set_option maxRecDepth 100000 in
set_option maxHeartbeats 1000000 in
theorem look_walk {ro : Nat → Nat} {r : Nat} {w : World} {C : Cfg} {MB : Nat} {v : Value} {words : List Nat} {cnt : Int} (ticket : Nat) (b : Bool) (hb : (words.getD 1 0 == ticket) = b) (hm : MemIs ro r w MB v words true cnt) (hl : 3 ≤ words.length) (hl2 : words.length ≤ 4096) (c0 : 0 ≤ cnt) (c1 : cnt ≤ 1000000000) :
    Calls Tryz.prog 190 #[ptr MB, planV C, .int .u64 ticket] w fun e w' => e = .returned (.tuple #[.bool b, .int .i64 0]) ∧ ∃ ro', MemIs ro' r w' MB v words false (cnt + 1) ∧ Mv ro [r] w ro' w' := by
  have hmf : ∀ (fn : Fn) (first cap : Array Value) (w : World), (Instr.makeFunc fn first cap).run Tryz.prog w = .ok (.func fn first cap) w := fun _ _ _ _ => rfl
  have M3 : Mv ro [] w (setRo ro (w.heap.size + 1 + 1) (r + 2)) (((w.alloc (.cells #[ptr MB] 43)).alloc (.cells #[.int .i64 0, .int .i64 1, .int .i64 2, .int .i64 3, .int .i64 (3 + C.threads), .int .i64 (3 + C.threads + 3 * C.cells)] 38)).alloc (.cells #[.int .u64 ticket] 40)) := ((((Mv.refl ro [] w).alloc _).alloc _).alloc _).give (by omega)
  have B3 : Blk (setRo ro (w.heap.size + 1 + 1) (r + 2)) (r + 2) (((w.alloc (.cells #[ptr MB] 43)).alloc (.cells #[.int .i64 0, .int .i64 1, .int .i64 2, .int .i64 3, .int .i64 (3 + C.threads), .int .i64 (3 + C.threads + 3 * C.cells)] 38)).alloc (.cells #[.int .u64 ticket] 40)) (w.heap.size + 1 + 1) #[.int .u64 ticket] 40 := ⟨by rw [show w.heap.size + 1 + 1 = ((w.alloc (.cells #[ptr MB] 43)).alloc (.cells #[.int .i64 0, .int .i64 1, .int .i64 2, .int .i64 3, .int .i64 (3 + C.threads), .int .i64 (3 + C.threads + 3 * C.cells)] 38)).heap.size by simp]; exact heap_alloc_new _ _, setRo_at _ _ _⟩
  have AW : ∀ ro' W, Mv ro [] w ro' W → Calls Tryz.prog 19 #[ptr MB, .int .i64 1] W fun e w' => e = .returned (.tuple #[.int .u64 (words.getD 1 0), .int .i64 0]) ∧ MemIs ro' r w' MB v words false (cnt + 1) ∧ Mv ro' [r] W ro' w' := fun ro' W mv => load_ok (hm.keep mv (by simp) (by simp)) 1 (by omega) hl2 c0 c1
  unfold planV
  generalize words.getD 1 0 = y at *
  have hb' : (((y : Nat) : Int) == ((ticket : Nat) : Int)) = b := by
    rw [← hb]
    by_cases e : y = ticket
    · subst e; simp
    · rw [beq_eq_false_iff_ne.2 (show ((y : Nat) : Int) ≠ (ticket : Nat) by omega), beq_eq_false_iff_ne.2 e]
  simp only [ptr] at *
  have HM3 := Lib.hid M3
  have HB3 := Lib.hid B3
  clear hm hb M3 B3
  cases b
  all_goals
    go_enter Tryz.func190, Tryz.ntmps190
    go_wp2_with (first
      | (go_at_call 19; refine (AW _ _ HM3.out).mono ?_; rintro e w2 ⟨rfl, q2, m2⟩; have hc2 := (HB3.out.keep m2 (by simp)).cell)
      | go_in)
    go_ret2
    exact ⟨rfl, _, q2, (HM3.out.mono (by simp)).trans m2⟩
set_option maxRecDepth 100000 in
set_option maxHeartbeats 1000000 in
theorem pass_walk {ro : Nat → Nat} {r : Nat} {w : World} {C : Cfg} {MB : Nat} {v : Value} {words : List Nat} {cnt : Int} (ticket : Nat) (hm : MemIs ro r w MB v words true cnt) (hl : 3 ≤ words.length) (hl2 : words.length ≤ 4096) (c0 : 0 ≤ cnt) (c1 : cnt ≤ 1000000000) :
    Calls Tryz.prog 198 #[ptr MB, planV C, .int .u64 ticket] w (StP ro r w MB v (words.set 1 (inc64 ticket)) cnt (.int .i64 0)) := by
  have hmf : ∀ (fn : Fn) (first cap : Array Value) (w : World), (Instr.makeFunc fn first cap).run Tryz.prog w = .ok (.func fn first cap) w := fun _ _ _ _ => rfl
  have AW : ∀ W, Mv ro [] w ro W → Calls Tryz.prog 107 #[ptr MB, .int .i64 1, .int .u64 (inc64 ticket)] W fun e w' => e = .returned (.int .i64 0) ∧ MemIs ro r w' MB v (words.set 1 (inc64 ticket)) false (cnt + 1) ∧ Mv ro [r, r + 1] W ro w' := fun W mv => store_ok (hm.keep mv (by simp) (by simp)) 1 (inc64 ticket) (by omega) hl2 c0 c1
  have eu : IntKind.u64.wrap ((ticket : Int) + 1) = ((inc64 ticket : Nat) : Int) := by rw [wrapU]; unfold inc64; omega
  unfold StP planV
  simp only [ptr] at *
  clear hm
  go_enter Tryz.func198, Tryz.ntmps198
  go_wp2_with (first
    | (go_at_call 107; refine (AW _ ((((Mv.refl ro [] w).alloc _).alloc _).alloc _)).mono ?_; rintro e w2 ⟨rfl, q2, m2⟩)
    | go_in)
  go_ret
  exact ⟨rfl, q2, (((((Mv.refl ro [] w).alloc _).alloc _).alloc _).mono (by simp)).trans m2⟩
set_option maxRecDepth 100000 in
theorem cstamp_walk {ro : Nat → Nat} {r : Nat} {w : World} {C : Cfg} {MB : Nat} {v : Value} {words : List Nat} {cnt : Int} (hm : MemIs ro r w MB v words true cnt) (hl : 3 ≤ words.length) (hl2 : words.length ≤ 4096) (c0 : 0 ≤ cnt) (c1 : cnt ≤ 1000000000) :
    Calls Tryz.prog 191 #[ptr MB, planV C] w (LdP ro r w MB v words cnt (.tuple #[.int .u64 (words.getD 2 0), .int .i64 0])) := by
  have AW : ∀ W, Mv ro [] w ro W → Calls Tryz.prog 19 #[ptr MB, .int .i64 2] W fun e w' => e = .returned (.tuple #[.int .u64 (words.getD 2 0), .int .i64 0]) ∧ MemIs ro r w' MB v words false (cnt + 1) ∧ Mv ro [r] W ro w' := fun W mv => load_ok (hm.keep mv (by simp) (by simp)) 2 (by omega) hl2 c0 c1
  unfold LdP planV
  generalize words.getD 2 0 = y at *
  simp only [ptr] at *
  clear hm
  go_enter Tryz.func191, Tryz.ntmps191
  go_wp2_with (go_at_call 19; refine (AW _ ((Mv.refl ro [] w).alloc _)).mono ?_; rintro e w2 ⟨rfl, q2, m2⟩)
  go_ret2
  exact ⟨rfl, q2, (((Mv.refl ro [] w).alloc _).mono (by simp)).trans m2⟩
set_option maxRecDepth 100000 in
theorem publish_walk {ro : Nat → Nat} {r : Nat} {w : World} {C : Cfg} {MB : Nat} {v : Value} {words : List Nat} {cnt : Int} (x : Nat) (hm : MemIs ro r w MB v words true cnt) (hl : 3 ≤ words.length) (hl2 : words.length ≤ 4096) (c0 : 0 ≤ cnt) (c1 : cnt ≤ 1000000000) :
    Calls Tryz.prog 197 #[ptr MB, planV C, .int .u64 x] w (StP ro r w MB v (words.set 2 x) cnt (.int .i64 0)) := by
  have AW : ∀ W, Mv ro [] w ro W → Calls Tryz.prog 107 #[ptr MB, .int .i64 2, .int .u64 x] W fun e w' => e = .returned (.int .i64 0) ∧ MemIs ro r w' MB v (words.set 2 x) false (cnt + 1) ∧ Mv ro [r, r + 1] W ro w' := fun W mv => store_ok (hm.keep mv (by simp) (by simp)) 2 x (by omega) hl2 c0 c1
  unfold StP planV
  simp only [ptr] at *
  clear hm
  go_enter Tryz.func197, Tryz.ntmps197
  go_wp2_with (go_at_call 107; refine (AW _ ((Mv.refl ro [] w).alloc _)).mono ?_; rintro e w2 ⟨rfl, q2, m2⟩)
  go_ret
  exact ⟨rfl, q2, (((Mv.refl ro [] w).alloc _).mono (by simp)).trans m2⟩
set_option maxRecDepth 100000 in
theorem now_walk {ro : Nat → Nat} {r : Nat} {w : World} {C : Cfg} {MB : Nat} {v : Value} {words : List Nat} {cnt : Int} (hC : C.ok) (hm : MemIs ro r w MB v words true cnt) (cell : Int) (h0 : 0 ≤ cell) (h1 : cell < C.cells) (hl : (words.length : Int) = 3 + C.threads + 3 * C.cells) (c0 : 0 ≤ cnt) (c1 : cnt ≤ 1000000000) :
    Calls Tryz.prog 192 #[ptr MB, planV C, .int .i64 cell] w (LdP ro r w MB v words cnt (.tuple #[.float .f64 (fx (words.getD (C.cellAt cell 1) 0)), .int .i64 0])) := by
  have AW := fun W (mv : Mv ro [] w ro W) => cload_walk hC (hm.keep mv (by simp) (by simp)) cell 1 h0 h1 (by decide) hl c0 c1
  have OW := of_walk
  rw [show (3 + C.threads + 3 * cell + ((1 : Nat) : Int)).toNat = C.cellAt cell 1 from rfl] at AW
  unfold LdP
  unfold planV at AW ⊢
  generalize words.getD (C.cellAt cell 1) 0 = y at *
  simp only [ptr] at *
  clear hm
  go_enter Tryz.func192, Tryz.ntmps192
  go_wp2_with (first
    | (go_at_call 139; refine (AW _ ((Mv.refl ro [] w).alloc _)).mono ?_; rintro e w2 ⟨rfl, q2, m2⟩)
    | (go_at_call 90; refine (OW _ _).mono ?_; rintro e w3 ⟨rfl, rfl⟩))
  go_ret2
  exact ⟨rfl, q2, (((Mv.refl ro [] w).alloc _).mono (by simp)).trans m2⟩
end Go.Proofs.YtphaeodcomgffaaGreat
set_option linter.unusedVariables false
set_option linter.unusedSimpArgs false
namespace Go.Proofs.YtphaeodcomgffaaGreat
open Go.RowKit

/-! The writer's look at the census, and the writing of a cell. -/
def scanC (C : Cfg) (need : Nat) (next polls : Int) : Array Value := #[.int .i64 0, .int .i64 1, .int .i64 2, .int .i64 3, .int .i64 (3 + C.threads), .int .i64 (3 + C.threads + 3 * C.cells), .int .i64 C.threads, .int .u64 need, .int .i64 next, .int .i64 polls]
def wbC (C : Cfg) (b : Wb) : Array Value := #[.int .i64 0, .int .i64 1, .int .i64 2, .int .i64 3, .int .i64 (3 + C.threads), .int .i64 (3 + C.threads + 3 * C.cells), .int .i64 b.cell, .int .u64 b.w0, .int .u64 b.w1, .int .u64 b.w2, .int .i64 b.n]
set_option maxRecDepth 100000 in
theorem newscan_walk (ro : Nat → Nat) (a : Nat) (C : Cfg) (need : Nat) (w : World) :
    Calls Tryz.prog 193 #[planV C, .int .i64 C.threads, .int .u64 need] w fun e w' => ∃ B ro', e = .returned (ptr B) ∧ Blk ro' a w' B (scanC C need 0 0) 199 ∧ Mv ro [] w ro' w' := by
  unfold planV
  go_enter Tryz.func193, Tryz.ntmps193
  go_wp2
  go_ret
  refine ⟨w.heap.size + 1, setRo ro (w.heap.size + 1) a, rfl, ⟨?_, setRo_at _ _ _⟩, (((Mv.refl ro [] w).alloc _).alloc _).give (by omega)⟩
  exact alloc2_heap _ _ _ _
/-- What a step of the look leaves. -/
def Scd (ro : Nat → Nat) (r a : Nat) (w : World) (C : Cfg) (B : Nat) (need : Nat) (next polls : Int) (MB : Nat) (v : Value) (words : List Nat) (cnt : Int) (done : Bool) (e : Ending) (w' : World) : Prop :=
  e = .returned (.tuple #[.bool done, .int .i64 0]) ∧ Blk ro a w' B (scanC C need next polls) 199 ∧ MemIs ro r w' MB v words false (cnt + 1) ∧ Mv ro [a, r] w ro w'
set_option maxRecDepth 100000 in
set_option maxHeartbeats 2000000 in
/-- A claim that is too old: it waits. -/
theorem scan_old {ro : Nat → Nat} {r a : Nat} {w : World} {C : Cfg} {B MB : Nat} {need : Nat} {next polls : Int} {v : Value} {words : List Nat} {cnt : Int} (hC : C.ok) (hb : Blk ro a w B (scanC C need next polls) 199) (hm : MemIs ro r w MB v words true cnt) (ha : a < r ∨ r + 1 < a) (h0 : 0 ≤ next) (h1 : next < C.threads) (p0 : 0 ≤ polls) (p1 : polls ≤ 1000000) (hl : 3 + C.threads ≤ words.length) (hl2 : words.length ≤ 4096) (c0 : 0 ≤ cnt) (c1 : cnt ≤ 1000000000) (hx : words.getD (3 + next).toNat 0 ≠ 0 ∧ words.getD (3 + next).toNat 0 ≤ need) :
    Calls Tryz.prog 194 #[ptr B, ptr MB] w (Scd ro r a w C B need next (polls + 1) MB v words cnt false) := by
  obtain ⟨C1, C2, C3, C4, _⟩ := hC
  have hc := hb.cell
  have PW := fun W => place_walk C next h0 (by omega) W
  have LW : ∀ W, Mv ro [] w ro W → Calls Tryz.prog 19 #[ptr MB, .int .i64 (3 + next)] W fun e w' => e = .returned (.tuple #[.int .u64 (words.getD (3 + next).toNat 0), .int .i64 0]) ∧ MemIs ro r w' MB v words false (cnt + 1) ∧ Mv ro [r] W ro w' := fun W mv => by
    have := load_ok (hm.keep mv (by simp) (by simp)) (3 + next).toNat (by omega) hl2 c0 c1
    rwa [show (((3 + next).toNat : Nat) : Int) = 3 + next by omega] at this
  have hW : ∀ W, Mv ro [] w ro W → ∀ o, W.cell? ⟨B, o, none⟩ = (scanC C need next polls)[o]? := fun W mv => (hb.keep mv (by simp)).cell
  generalize words.getD (3 + next).toNat 0 = y at *
  have hy0 : ¬ ((y : Nat) : Int) = 0 := by omega
  have hy1 : ((y : Nat) : Int) ≤ need := by omega
  have HB := Lib.hid hb
  have HM := Lib.hid hm
  have t1 : decide (C.threads < 1) = false := decide_eq_false (by omega)
  have t2 : decide (8 < C.threads) = false := decide_eq_false (by omega)
  unfold scanC at hc hW
  unfold planV at PW
  simp only [ptr] at LW ⊢
  clear hb hm hx
  go_enter Tryz.func194, Tryz.ntmps194
  go_wp2
  go_step3
  go_wp2
  go_step3
  go_wp2
  go_loopw [5] (fun i wr => i = .int .i64 0 ∧ wr = w) (fun i _ => 0)
  case atStart => exact ⟨rfl, rfl⟩
  obtain ⟨rfl, rfl⟩ := hrel
  go_wp2
  go_quiet (fail)
  go_wp2
  refine wp_region_noPanic ?_
  go_region_law (go_simp; go_at_call 106; refine (PW _).mono ?_; rintro e w1 ⟨rfl, b1⟩; have m1 := ((Mv.refl ro [] wr).drewN (nq + 1)).then_below b1; have hc1 := hW _ m1)
  all_goals
    refine NoPanic.normal ?_
    go_wp2_with (go_at_call 19; refine (LW _ m1).mono ?_; rintro e w2 ⟨rfl, q2, m2⟩; have b2 := (HB.out.keep m1 (by simp)).keep m2 (by simp; omega); have hc2 := b2.cell; have hf2 := b2.free; unfold scanC at hc2)
    have hB : ro B ∈ [a] := by rw [b2.role]; simp
    have mB : Mv ro [a] w2 ro (w2.setCell ⟨B, 9, none⟩ (.int .i64 (polls + 1))) := (Mv.refl _ _ _).setCell hB _
    have b3 : Blk ro a (w2.setCell ⟨B, 9, none⟩ (.int .i64 (polls + 1))) B (scanC C need next (polls + 1)) 199 := b2.put (i := 9) rfl
    generalize w2.setCell ⟨B, 9, none⟩ (.int .i64 (polls + 1)) = w3 at *
    have hc3 := b3.cell
    unfold scanC at hc3
    go_quiet (fail)
    go_wp2
    go_ret2
    exact ⟨rfl, b3.keep ((Mv.refl ro [] w3).drewN nq) (by simp), q2.keep (mB.drewN nq) (by simp; omega) (by simp; omega), (((m1.mono (by simp)).trans (m2.mono (by simp))).trans (mB.mono (by simp))).drewN nq⟩
set_option maxRecDepth 100000 in
set_option maxHeartbeats 2000000 in
/-- Nobody there, or a claim that is not too old: on to the next. -/
theorem scan_on {ro : Nat → Nat} {r a : Nat} {w : World} {C : Cfg} {B MB : Nat} {need : Nat} {next polls : Int} {v : Value} {words : List Nat} {cnt : Int} (hC : C.ok) (hb : Blk ro a w B (scanC C need next polls) 199) (hm : MemIs ro r w MB v words true cnt) (ha : a < r ∨ r + 1 < a) (h0 : 0 ≤ next) (h1 : next < C.threads) (p0 : 0 ≤ polls) (p1 : polls ≤ 1000000) (hl : 3 + C.threads ≤ words.length) (hl2 : words.length ≤ 4096) (c0 : 0 ≤ cnt) (c1 : cnt ≤ 1000000000) (hx : ¬ (words.getD (3 + next).toNat 0 ≠ 0 ∧ words.getD (3 + next).toNat 0 ≤ need)) (d : Bool) (hd : (next + 1 == C.threads) = d) :
    Calls Tryz.prog 194 #[ptr B, ptr MB] w (Scd ro r a w C B need (next + 1) polls MB v words cnt d) := by
  obtain ⟨C1, C2, C3, C4, _⟩ := hC
  have hc := hb.cell
  have PW := fun W => place_walk C next h0 (by omega) W
  have LW : ∀ W, Mv ro [] w ro W → Calls Tryz.prog 19 #[ptr MB, .int .i64 (3 + next)] W fun e w' => e = .returned (.tuple #[.int .u64 (words.getD (3 + next).toNat 0), .int .i64 0]) ∧ MemIs ro r w' MB v words false (cnt + 1) ∧ Mv ro [r] W ro w' := fun W mv => by
    have := load_ok (hm.keep mv (by simp) (by simp)) (3 + next).toNat (by omega) hl2 c0 c1
    rwa [show (((3 + next).toNat : Nat) : Int) = 3 + next by omega] at this
  have hW : ∀ W, Mv ro [] w ro W → ∀ o, W.cell? ⟨B, o, none⟩ = (scanC C need next polls)[o]? := fun W mv => (hb.keep mv (by simp)).cell
  generalize words.getD (3 + next).toNat 0 = y at *
  have HB := Lib.hid hb
  have HM := Lib.hid hm
  have t1 : decide (C.threads < 1) = false := decide_eq_false (by omega)
  have t2 : decide (8 < C.threads) = false := decide_eq_false (by omega)
  unfold scanC at hc hW
  unfold planV at PW
  simp only [ptr] at LW ⊢
  clear hb hm
  have hx' : ((y : Nat) : Int) = 0 ∨ (¬ ((y : Nat) : Int) = 0 ∧ ¬ ((y : Nat) : Int) ≤ need) := by omega
  clear hx
  cases d
  all_goals
    rcases hx' with hy0 | ⟨hy0, hy1⟩
    all_goals
      go_enter Tryz.func194, Tryz.ntmps194
      go_wp2
      go_step3
      go_wp2
      go_step3
      go_wp2
      go_loopw [5] (fun i wr => i = .int .i64 0 ∧ wr = w) (fun i _ => 0)
      case atStart => exact ⟨rfl, rfl⟩
      obtain ⟨rfl, rfl⟩ := hrel
      go_wp2
      go_quiet (fail)
      go_wp2
      refine wp_region_noPanic ?_
      go_region_law (go_simp; go_at_call 106; refine (PW _).mono ?_; rintro e w1 ⟨rfl, b1⟩; have m1 := ((Mv.refl ro [] wr).drewN (nq + 1)).then_below b1; have hc1 := hW _ m1)
      all_goals
        refine NoPanic.normal ?_
        go_wp2_with (go_at_call 19; refine (LW _ m1).mono ?_; rintro e w2 ⟨rfl, q2, m2⟩; have b2 := (HB.out.keep m1 (by simp)).keep m2 (by simp; omega); have hc2 := b2.cell; have hf2 := b2.free; unfold scanC at hc2)
        have hB : ro B ∈ [a] := by rw [b2.role]; simp
        have mB : Mv ro [a] w2 ro (w2.setCell ⟨B, 8, none⟩ (.int .i64 (next + 1))) := (Mv.refl _ _ _).setCell hB _
        have b3 : Blk ro a (w2.setCell ⟨B, 8, none⟩ (.int .i64 (next + 1))) B (scanC C need (next + 1) polls) 199 := b2.put (i := 8) rfl
        generalize w2.setCell ⟨B, 8, none⟩ (.int .i64 (next + 1)) = w3 at *
        have hc3 := b3.cell
        unfold scanC at hc3
        go_quiet (fail)
        go_wp2
        go_ret2
        exact ⟨rfl, b3.keep ((Mv.refl ro [] w3).drewN nq) (by simp), q2.keep (mB.drewN nq) (by simp; omega) (by simp; omega), (((m1.mono (by simp)).trans (m2.mono (by simp))).trans (mB.mono (by simp))).drewN nq⟩
end Go.Proofs.YtphaeodcomgffaaGreat
