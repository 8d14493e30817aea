import Derived.Test.YtphaeodcomgffaaGreatDS
import Derived.Test.YtphaeodcomgffaaGreatDO
import Derived.Test.YtphaeodcomgffaaGreatDZ
import Derived.Test.YtphaeodcomgffaaGreatR7
import Derived.Deep.QuietTactic
import Derived.Deep.RegionLaw
set_option linter.unusedVariables false
set_option linter.unusedSimpArgs false
namespace Go.Proofs.YtphaeodcomgffaaGreat
open Go.RowKit

/-! The document's machine: an instruction. -/
theorem rd_lit1 (w : World) (B : Nat) (hB : B = w.heap.size) (y : Nat) : Rd (w.alloc (.cells #[.float .f64 y] 74)) 1 (.slice (some ⟨B, 0, none⟩) 1 1) ([y].map cF) := by
  subst hB
  refine .inr ⟨w.heap.size, 0, 1, rfl, by simp, by simp, fun i j hi hj => ?_⟩
  rw [cell_of_row _ _ _ _ _ _ (heap_alloc_new w _)]
  have hi' : i < 1 := by simpa using hi
  obtain rfl : i = 0 := by omega
  obtain rfl : j = 0 := by omega
  rfl
theorem rd_lit2 (w : World) (B : Nat) (hB : B = w.heap.size) (y z : Nat) : Rd (w.alloc (.cells #[.float .f64 y, .float .f64 z] 74)) 1 (.slice (some ⟨B, 0, none⟩) 2 2) ([y, z].map cF) := by
  subst hB
  refine .inr ⟨w.heap.size, 0, 2, rfl, by simp, by simp, fun i j hi hj => ?_⟩
  rw [cell_of_row _ _ _ _ _ _ (heap_alloc_new w _)]
  have hi' : i < 2 := by simpa using hi
  obtain rfl : j = 0 := by omega
  rcases (by omega : i = 0 ∨ i = 1) with rfl | rfl <;> rfl
theorem rd_nil0 (w : World) : Rd w 1 (.slice none 0 0) (([] : List Nat).map cF) := .inl ⟨rfl, .inl rfl⟩
theorem dR_mv {ro ro0 ro1 : Nat → Nat} {r : Nat} {w W w' : World} (m0 : Mv ro [] w ro0 W) (m1 : Mv ro0 [r, r + 4] W ro1 w') : Mv ro [r, r + 4] w ro1 w' := (m0.mono (by simp)).trans m1
/-- An instruction, the errors too. -/
def Ms.doD (C : Cfg) (tag : Int) (x : Ins) (m : Ms) : Ms × Ask := match m.doS C tag x with | .error e => m.fails e | .ok r => r
def DoD (ro : Nat → Nat) (r : Nat) (w : World) (M : Nat) (C : Cfg) (tag : Int) (vc : Value) (q : Ms × Ask) (e : Ending) (w' : World) : Prop := DUp ro r w M C tag vc q.1.dm q.2.v e w'
/-- Behind a trade within do: the machine, and the block of the answer. -/
def TrP (ro : Nat → Nat) (r : Nat) (w : World) (M : Nat) (C : Cfg) (tag : Int) (vc : Value) (d : Dm) (e : Ending) (w' : World) : Prop :=
  e = .returned (.tuple #[]) ∧ ∃ ro1 p1, DM ro1 r w' M C tag vc d p1 ∧ Mv ro [r, r + 4] w ro1 w' ∧ Blk ro1 (r + 12) w' (w.heap.size + 1) #[.int .i64 0, .int .i64 0, .float .f64 0, .bool false] 139
theorem dtrade_do {ro ro0 : Nat → Nat} {r : Nat} {w W : World} {M C tag vc p} {m : Ms} (o n : Int) (x : Nat) (mv : Mv (ro2 ro w.heap.size r) [r, r + 4] (boxW w o n x) ro0 W) (h : DM ro0 r W M C tag vc m.dm p) (c : Nat) (hn : c ≤ m.stack.length) (hl : m.stack.length ≤ 64) (u : Value) (ys : List Nat) (hk : ys.length ≤ 2) (hu : Rd W 1 u (ys.map cF)) :
    Calls Tryz.prog 140 #[ptr M, .int .i64 c, u] W (TrP ro r w M C tag vc (m.trade c ys).dm) := by
  refine (dtrade_ms h c hn (by omega) u ys hk hu).mono ?_
  rintro e w' ⟨rfl, ro1, p1, h1, m1⟩
  have m2 := mv.trans m1
  exact ⟨rfl, ro1, p1, h1, dR_mv (box_mv ro r w o n x) m2, (box_res ro r w o n x).keep m2 (by simp)⟩
/-- What top tells within do. -/
structure TopC (M : Nat) (ro0 : Nat → Nat) (W0 : World) (a : Int) (y : Nat) : Prop where
  call : ∀ W, Mv ro0 [] W0 ro0 W → Calls Tryz.prog 142 #[ptr M, .int .i64 a] W fun e w' => e = .returned (.float .f64 y) ∧ ∃ q, w' = W.drewN q
theorem topc_at {M : Nat} {ro0 : Nat → Nat} {W0 : World} {a : Int} {y : Nat} (h : TopC M ro0 W0 a y) (W : World) (mv : Mv ro0 [] W0 ro0 W) : Calls Tryz.prog 142 #[.pointer (some ⟨M, 0, none⟩), .int .i64 a] W fun e w' => e = .returned (.float .f64 y) ∧ ∃ q, w' = W.drewN q := h.call W mv
/-- Cells of the arguments and the locals. -/
theorem setF_flat (l : List Nat) (i x : Nat) : (l.set i x).flatMap cF = (l.flatMap cF).set i (.float .f64 x) := by
  induction l generalizing i with
  | nil => simp
  | cons a l ih =>
    cases i with
    | zero => rfl
    | succ i => rw [List.set_cons_succ, List.flatMap_cons, List.flatMap_cons, ih]; rfl
theorem OwnL.setF {ro : Nat → Nat} {r : Nat} {w : World} {E g n cap : Nat} {l : List Nat} (h : OwnL cF ro r w E 1 (.slice (some ⟨g, 0, none⟩) n cap) l) (i x : Nat) (hi : i < l.length) : OwnL cF ro r (w.setCell ⟨g, i, none⟩ (.float .f64 x)) E 1 (.slice (some ⟨g, 0, none⟩) n cap) (l.set i x) := by
  have hl : n = l.length := by obtain ⟨a, c, e⟩ := h.form; cases e; rfl
  subst hl
  refine ⟨⟨?_, ?_⟩, fun k hk => h.role k hk⟩
  · rw [setF_flat, List.length_set, List.length_set]; exact h.own.1
  · rcases h.own.2 with ⟨h1, h2⟩ | ⟨g', cap', cur, h1, hB, hg, hc, hm, hs, ht⟩
    · cases h1
    · cases h1
      refine .inr ⟨g, cap, cur.setIfInBounds i (.float .f64 x), by rw [List.length_set], hB, heap_put hg rfl, by rw [List.length_set]; exact hc, hm, by simpa using hs, ?_⟩
      rw [List.length_set, setF_flat, ← ht, Array.toList_setIfInBounds, List.take_set]
theorem range_set (f : Nat → Nat) (k y : Nat) (hk : k < 8) : ((List.range 8).map f).set k y = (List.range 8).map fun i => if i = k then y else f i := by
  rcases (by omega : k = 0 ∨ k = 1 ∨ k = 2 ∨ k = 3 ∨ k = 4 ∨ k = 5 ∨ k = 6 ∨ k = 7) with rfl | rfl | rfl | rfl | rfl | rfl | rfl | rfl <;> rfl
theorem DM.setLoc {ro : Nat → Nat} {r : Nat} {w : World} {M C tag vc p} {m : Ms} {g c : Nat} (h : DM ro r w M C tag vc m.dm p) (hg : p.vl = .slice (some ⟨g, 0, none⟩) 8 c) (k : Nat) (hk : k < 8) (y : Nat) :
    DM ro r (w.setCell ⟨g, k, none⟩ (.float .f64 y)) M C tag vc ({ m with locals := fun i => if i = k then y else m.locals i } : Ms).dm p ∧ Mv ro [r + 4] w ro (w.setCell ⟨g, k, none⟩ (.float .f64 y)) := by
  have hl := h.locals
  rw [hg] at hl
  have hro : ro g = r + 4 := (hl.blk g rfl).2
  have ms : Mv ro [r + 4] w ro (w.setCell ⟨g, k, none⟩ (.float .f64 y)) := (Mv.refl _ _ _).setCell (p := ⟨g, k, none⟩) (by show ro g ∈ _; rw [hro]; simp) _
  have e : ({ m with locals := fun i => if i = k then y else m.locals i } : Ms).dm.locals = m.dm.locals.set k y := (range_set m.locals k y hk).symm
  refine ⟨⟨h.blk.keep ms (by simp), h.args.keep ms (by simp), h.stack.keep ms (by simp), h.calls.keep ms (by simp), ?_, h.out.keep ms (by simp), h.reads.keep ms (by simp), h.writes.keep ms (by simp)⟩, ms⟩
  rw [e, hg]
  exact hl.setF k y (by simpa [Ms.dm] using hk)
theorem roneq {op : Int} {x : Nat} (h1 : 1 ≤ op) (h8 : op ≤ 8) (hx : fx x = x) (hl : x < 18446744073709551616) (w : World) : Calls Tryz.prog 143 #[.int .i64 op, .float .f64 x] w fun e w' => e = .returned (.tuple #[.float .f64 (oneF op x), .int .i64 0]) ∧ ∃ q, w' = w.drewN q :=
  (rone_walk op h1 h8 x hx hl w).mono fun e w' ⟨q, a, b⟩ => ⟨a, q, b⟩
theorem rtwoq {op : Int} {x y : Nat} (h1 : 1 ≤ op) (h8 : op ≤ 12) (hx : fx x = x) (hy : fx y = y) (hl : x < 18446744073709551616) (hm : y < 18446744073709551616) (w : World) : Calls Tryz.prog 144 #[.int .i64 op, .float .f64 x, .float .f64 y] w fun e w' => e = .returned (.tuple #[.float .f64 (twoF op x y), .int .i64 0]) ∧ ∃ q, w' = w.drewN q :=
  (rtwo_walk op h1 h8 x y hx hy hl hm w).mono fun e w' ⟨q, a, b⟩ => ⟨a, q, b⟩
theorem rd_litI (w : World) (B : Nat) (hB : B = w.heap.size) (y : Int) : Rd (w.alloc (.cells #[.int .i64 y] 3)) 1 (.slice (some ⟨B, 0, none⟩) 1 1) ([y].map cI) := by
  subst hB
  refine .inr ⟨w.heap.size, 0, 1, rfl, by simp, by simp, fun i j hi hj => ?_⟩
  rw [cell_of_row _ _ _ _ _ _ (heap_alloc_new w _)]
  have hi' : i < 1 := by simpa using hi
  obtain rfl : i = 0 := by omega
  obtain rfl : j = 0 := by omega
  rfl
theorem DM.argAt {ro : Nat → Nat} {r : Nat} {w : World} {M C tag vc p} {m : Ms} (h : DM ro r w M C tag vc m.dm p) : ∃ b off c, p.va = .slice (some ⟨b, off, none⟩) 8 c ∧ b < w.heap.size ∧ ∀ k, k < 8 → w.cell? ⟨b, off + k, none⟩ = some (.float .f64 (m.args k)) := by
  have ha := h.args
  rcases ha.form with ⟨e1, e2⟩ | ⟨b, off, c, e1, _, hb, _⟩
  · exact absurd (congrArg List.length e2) (by simp [Ms.dm])
  · refine ⟨b, off, c, e1, hb, fun k hk => ?_⟩
    rw [e1] at ha
    have := ha.at1 (i := k) hk
    rw [this]
    simp [Ms.dm, cF]
theorem DM.locAt {ro : Nat → Nat} {r : Nat} {w : World} {M C tag vc p} {m : Ms} (h : DM ro r w M C tag vc m.dm p) : ∃ g c, p.vl = .slice (some ⟨g, 0, none⟩) 8 c ∧ g < w.heap.size ∧ ro g = r + 4 ∧ (∀ k, k < 8 → w.cell? ⟨g, k, none⟩ = some (.float .f64 (m.locals k))) ∧ ∀ k, w.frozen? ⟨g, k, none⟩ = false := by
  obtain ⟨g, c, e1, hro, _, _⟩ := h.locals.pos (by simp [Ms.dm])
  have hl := h.locals
  rw [e1] at hl
  refine ⟨g, c, e1, (hl.blk g rfl).1, hro, fun k hk => ?_, fun k => Own.free (n := 8) hl k⟩
  have := hl.at1 cF_len (i := k) hk
  rw [this]
  simp [Ms.dm, cF]
theorem TrP.base {ro : Nat → Nat} {r : Nat} {w W0 : World} {M C tag vc d e w'} (mb : Mv ro [r, r + 4] w ro W0) (hs : W0.heap.size = w.heap.size) (h : TrP ro r W0 M C tag vc d e w') : TrP ro r w M C tag vc d e w' := by
  obtain ⟨he, ro1, p1, h1, m1, r1⟩ := h
  exact ⟨he, ro1, p1, h1, mb.trans m1, hs ▸ r1⟩
theorem size_set (w : World) (a : Addr) (v : Value) : (w.setCell a v).heap.size = w.heap.size := by simp [World.setCell]
/-- The first n, the room as it was. -/
theorem RdL.cut {α : Type} {f : α → List Value} {ro r w size k c b off} {l : List α} (h : RdL f ro r w size (.slice (some ⟨b, off, none⟩) k c) l) {n : Nat} (hn : n ≤ l.length) : RdL f ro r w size (.slice (some ⟨b, off, none⟩) n c) (l.take n) := by
  have h2 := h.front hn
  rcases h.form with ⟨h1, _⟩ | ⟨b1, off1, c1, hv, hc, hb, hro⟩
  · cases h1
  · simp only [Value.slice.injEq, Option.some.injEq, Addr.mk.injEq] at hv
    obtain ⟨⟨rfl, rfl, -⟩, hk, rfl⟩ := hv
    refine ⟨?_, .inr ⟨b, off, c, by rw [List.length_take, Nat.min_eq_left hn], by rw [List.length_take]; omega, hb, hro⟩⟩
    rcases h2.rd with ⟨e1, e2⟩ | ⟨b2, off2, c2, e1, e2⟩
    · have hn0 : n = 0 := by have e4 := congrArg List.length e1; rw [List.length_map, List.length_take, List.length_nil] at e4; omega
      subst hn0
      exact .inl ⟨e1, .inr ⟨_, _, rfl⟩⟩
    · simp only [Value.slice.injEq, Option.some.injEq, Addr.mk.injEq] at e1
      obtain ⟨⟨rfl, rfl, -⟩, e3, -⟩ := e1
      exact .inr ⟨b, off, c, congrArg (fun z => Value.slice (some ⟨b, off, none⟩) z c) e3, e2⟩
theorem DM.putK {ro ro' : Nat → Nat} {r : Nat} {w w' : World} {M C tag vc d p v} {l : List Int} (h : DM ro r w M C tag vc d p) (m : Mv ro [] w ro' w') (o : RdL cI ro' (r + 3) w' 1 v l) :
    DM ro' r (w'.setCell ⟨M, 9, none⟩ v) M C tag vc { d with calls := l } { p with vk := v } ∧ Mv ro [r, r + 4] w ro' (w'.setCell ⟨M, 9, none⟩ v) := by
  have k := h.keep0 m
  have hM : ro' M = r := k.blk.role
  have ms : Mv ro' [r] w' ro' (w'.setCell ⟨M, 9, none⟩ v) := (Mv.refl _ _ _).setCell (p := ⟨M, 9, none⟩) (by show ro' M ∈ _; rw [hM]; simp) v
  exact ⟨⟨k.blk.put rfl, k.args.keep ms (by simp), k.stack.keep ms (by simp), o.keep ms (by simp), k.locals.keep ms (by simp), k.out.keep ms (by simp), k.reads.keep ms (by simp), k.writes.keep ms (by simp)⟩, (m.mono (by simp)).trans (ms.mono (by simp))⟩
theorem DM.putO {ro ro' : Nat → Nat} {r : Nat} {w w' : World} {M C tag vc d p v} {l : List Nat} (h : DM ro r w M C tag vc d p) (m : Mv ro [] w ro' w') (o : RdL cF ro' (r + 5) w' 1 v l) :
    DM ro' r (w'.setCell ⟨M, 17, none⟩ v) M C tag vc { d with out := l } { p with vo := v } ∧ Mv ro [r, r + 4] w ro' (w'.setCell ⟨M, 17, none⟩ v) := by
  have k := h.keep0 m
  have hM : ro' M = r := k.blk.role
  have ms : Mv ro' [r] w' ro' (w'.setCell ⟨M, 17, none⟩ v) := (Mv.refl _ _ _).setCell (p := ⟨M, 17, none⟩) (by show ro' M ∈ _; rw [hM]; simp) v
  exact ⟨⟨k.blk.put rfl, k.args.keep ms (by simp), k.stack.keep ms (by simp), k.calls.keep ms (by simp), k.locals.keep ms (by simp), o.keep ms (by simp), k.reads.keep ms (by simp), k.writes.keep ms (by simp)⟩, (m.mono (by simp)).trans (ms.mono (by simp))⟩
theorem DM.putR {ro ro' : Nat → Nat} {r : Nat} {w w' : World} {M C tag vc d p v} {l : List (Int × Nat)} (h : DM ro r w M C tag vc d p) (m : Mv ro [] w ro' w') (o : RdL cT ro' (r + 6) w' 2 v l) :
    DM ro' r (w'.setCell ⟨M, 18, none⟩ v) M C tag vc { d with reads := l } { p with vr := v } ∧ Mv ro [r, r + 4] w ro' (w'.setCell ⟨M, 18, none⟩ v) := by
  have k := h.keep0 m
  have hM : ro' M = r := k.blk.role
  have ms : Mv ro' [r] w' ro' (w'.setCell ⟨M, 18, none⟩ v) := (Mv.refl _ _ _).setCell (p := ⟨M, 18, none⟩) (by show ro' M ∈ _; rw [hM]; simp) v
  exact ⟨⟨k.blk.put rfl, k.args.keep ms (by simp), k.stack.keep ms (by simp), k.calls.keep ms (by simp), k.locals.keep ms (by simp), k.out.keep ms (by simp), o.keep ms (by simp), k.writes.keep ms (by simp)⟩, (m.mono (by simp)).trans (ms.mono (by simp))⟩
theorem DM.putB {ro ro' : Nat → Nat} {r : Nat} {w w' : World} {M C tag vc d p v} {l : List (Int × Nat)} (h : DM ro r w M C tag vc d p) (m : Mv ro [] w ro' w') (o : RdL cT ro' (r + 7) w' 2 v l) :
    DM ro' r (w'.setCell ⟨M, 19, none⟩ v) M C tag vc { d with writes := l } { p with vb := v } ∧ Mv ro [r, r + 4] w ro' (w'.setCell ⟨M, 19, none⟩ v) := by
  have k := h.keep0 m
  have hM : ro' M = r := k.blk.role
  have ms : Mv ro' [r] w' ro' (w'.setCell ⟨M, 19, none⟩ v) := (Mv.refl _ _ _).setCell (p := ⟨M, 19, none⟩) (by show ro' M ∈ _; rw [hM]; simp) v
  exact ⟨⟨k.blk.put rfl, k.args.keep ms (by simp), k.stack.keep ms (by simp), k.calls.keep ms (by simp), k.locals.keep ms (by simp), k.out.keep ms (by simp), k.reads.keep ms (by simp), o.keep ms (by simp)⟩, (m.mono (by simp)).trans (ms.mono (by simp))⟩
set_option maxRecDepth 100000 in
set_option maxHeartbeats 2000000 in
theorem ddo_1 {ro : Nat → Nat} {r : Nat} {w : World} {M C tag vc p} {m : Ms} (h : DM ro r w M C tag vc m.dm p) (hl : m.stack.length ≤ 64) (n : Int) (x : Nat) :
    Calls Tryz.prog 116 #[ptr M, insV 1 n x] w (DoD ro r w M C tag vc (m.trade 0 [fx x], askNone)) := by
  have FW := rfix_walk x
  obtain ⟨y, hy⟩ : ∃ y, y = fx x := ⟨_, rfl⟩
  rw [← hy] at FW ⊢
  clear hy
  have KW := Lib.hid (show ∀ W, Mv (ro2 ro w.heap.size r) [] (boxW w 1 n x) (ro2 ro w.heap.size r) W → Rd W 1 (.slice (some ⟨w.heap.size + 2, 0, none⟩) 1 1) (([y] : List Nat).map cF) → Calls Tryz.prog 140 #[ptr M, .int .i64 0, (.slice (some ⟨w.heap.size + 2, 0, none⟩) 1 1)] W (TrP ro r w M C tag vc (m.trade 0 [y]).dm) from fun W mv hu => dtrade_do 1 n x (mv.mono (by simp)) ((h.keep0 (box_mv ro r w 1 n x)).keep0 mv) 0 (by omega) hl _ _ (by simp) hu)
  clear h
  have sf := run_store_float
  simp only [ptr, insV, Ask.v, askNone, askEnd, DoD] at *
  go_enter Tryz.func116, Tryz.ntmps116
  go_wp2_with (first | (go_at_call 105; refine (FW _).mono ?_; rintro e w0 ⟨rfl, rfl⟩) | (go_at_call 140; refine (KW.out _ (by unfold boxW; repeat (first | with_reducible exact Mv.refl _ _ _ | refine Mv.alloc ?_ _ | refine Mv.drewN ?_ _ | refine Mv.drew ?_)) (by first | exact rd_lit1 _ _ (by simp) _ | exact rd_lit2 _ _ (by simp) _ _ | exact rd_nil0 _ | exact (rd_lit1 _ _ (by simp) _).keep0 ((Chg.refl _ _).drew) | exact (rd_lit1 _ _ (by simp) _).keep0 (((Chg.refl _ _).drew).drew))).mono ?_; rintro e w1 ⟨rfl, ro1, p1, h1, m1, r1⟩; have bc := r1.cell; have bf := r1.free))
  refine bodyPost_ret (v := .agg #[.int .i64 0, .int .i64 0, .float .f64 0, .bool false]) (by simp [results, Tryz.results116, go_sem, bc, bf]) rfl ?_
  have hR : ro1 (w.heap.size + 1) ∈ [r + 12] := by rw [r1.role]; simp
  have n0 := Nat.le_succ w.heap.size
  exact ⟨rfl, ro1, p1, h1.keep (((((Mv.refl _ _ _).setCell hR _).setCell hR _).setCell hR _).setCell hR _) (by simp), (((m1.setNew n0 _).setNew n0 _).setNew n0 _).setNew n0 _⟩
set_option maxRecDepth 100000 in
set_option maxHeartbeats 2000000 in
theorem ddo_2 {ro : Nat → Nat} {r : Nat} {w : World} {M C tag vc p} {m : Ms} (h : DM ro r w M C tag vc m.dm p) (hl : m.stack.length ≤ 64) (n : Int) (x : Nat) (h1 : 1 ≤ m.stack.length) :
    Calls Tryz.prog 116 #[ptr M, insV 2 n x] w (DoD ro r w M C tag vc (m.trade 1 [], askNone)) := by
  have KW := Lib.hid (show ∀ W, Mv (ro2 ro w.heap.size r) [] (boxW w 2 n x) (ro2 ro w.heap.size r) W → Rd W 1 (.slice none 0 0) (([] : List Nat).map cF) → Calls Tryz.prog 140 #[ptr M, .int .i64 1, (.slice none 0 0)] W (TrP ro r w M C tag vc (m.trade 1 []).dm) from fun W mv hu => dtrade_do 2 n x (mv.mono (by simp)) ((h.keep0 (box_mv ro r w 2 n x)).keep0 mv) 1 (by omega) hl _ _ (by simp) hu)
  clear h h1
  have sf := run_store_float
  simp only [ptr, insV, Ask.v, askNone, askEnd, DoD] at *
  go_enter Tryz.func116, Tryz.ntmps116
  go_wp2_with ((go_at_call 140; refine (KW.out _ (by unfold boxW; repeat (first | with_reducible exact Mv.refl _ _ _ | refine Mv.alloc ?_ _ | refine Mv.drewN ?_ _ | refine Mv.drew ?_)) (by first | exact rd_lit1 _ _ (by simp) _ | exact rd_lit2 _ _ (by simp) _ _ | exact rd_nil0 _ | exact (rd_lit1 _ _ (by simp) _).keep0 ((Chg.refl _ _).drew) | exact (rd_lit1 _ _ (by simp) _).keep0 (((Chg.refl _ _).drew).drew))).mono ?_; rintro e w1 ⟨rfl, ro1, p1, h1, m1, r1⟩; have bc := r1.cell; have bf := r1.free))
  refine bodyPost_ret (v := .agg #[.int .i64 0, .int .i64 0, .float .f64 0, .bool false]) (by simp [results, Tryz.results116, go_sem, bc, bf]) rfl ?_
  have hR : ro1 (w.heap.size + 1) ∈ [r + 12] := by rw [r1.role]; simp
  have n0 := Nat.le_succ w.heap.size
  exact ⟨rfl, ro1, p1, h1.keep (((((Mv.refl _ _ _).setCell hR _).setCell hR _).setCell hR _).setCell hR _) (by simp), (((m1.setNew n0 _).setNew n0 _).setNew n0 _).setNew n0 _⟩
set_option maxRecDepth 100000 in
set_option maxHeartbeats 2000000 in
theorem ddo_3 {ro : Nat → Nat} {r : Nat} {w : World} {M C tag vc p} {m : Ms} (h : DM ro r w M C tag vc m.dm p) (hl : m.stack.length ≤ 64) (n : Int) (x : Nat) (h1 : 1 ≤ m.stack.length) :
    Calls Tryz.prog 116 #[ptr M, insV 3 n x] w (DoD ro r w M C tag vc (m.trade 0 [m.top 0], askNone)) := by
  have TW0 : TopC M (ro2 ro w.heap.size r) (boxW w 3 n x) 0 (m.top 0) := ⟨fun W mv => dtop_walk ((h.keep0 (box_mv ro r w 3 n x)).keep0 mv) 0 (by omega) (by omega)⟩
  have KW := Lib.hid (show ∀ W, Mv (ro2 ro w.heap.size r) [] (boxW w 3 n x) (ro2 ro w.heap.size r) W → Rd W 1 (.slice (some ⟨w.heap.size + 2, 0, none⟩) 1 1) (([(m.top 0)] : List Nat).map cF) → Calls Tryz.prog 140 #[ptr M, .int .i64 0, (.slice (some ⟨w.heap.size + 2, 0, none⟩) 1 1)] W (TrP ro r w M C tag vc (m.trade 0 [(m.top 0)]).dm) from fun W mv hu => dtrade_do 3 n x (mv.mono (by simp)) ((h.keep0 (box_mv ro r w 3 n x)).keep0 mv) 0 (by omega) hl _ _ (by simp) hu)
  clear h
  generalize m.top 0 = y0 at *
  have sf := run_store_float
  simp only [ptr, insV, Ask.v, askNone, askEnd, DoD] at *
  go_enter Tryz.func116, Tryz.ntmps116
  go_wp2_with (first | (go_at_call 142; refine (topc_at (by assumption) _ (by unfold boxW; repeat (first | with_reducible exact Mv.refl _ _ _ | refine Mv.alloc ?_ _ | refine Mv.drewN ?_ _ | refine Mv.drew ?_))).mono ?_; rintro e w0 ⟨rfl, q0, rfl⟩) | (go_at_call 140; refine (KW.out _ (by unfold boxW; repeat (first | with_reducible exact Mv.refl _ _ _ | refine Mv.alloc ?_ _ | refine Mv.drewN ?_ _ | refine Mv.drew ?_)) (by first | exact rd_lit1 _ _ (by simp) _ | exact rd_lit2 _ _ (by simp) _ _ | exact rd_nil0 _ | exact (rd_lit1 _ _ (by simp) _).keep0 ((Chg.refl _ _).drew) | exact (rd_lit1 _ _ (by simp) _).keep0 (((Chg.refl _ _).drew).drew))).mono ?_; rintro e w1 ⟨rfl, ro1, p1, h1, m1, r1⟩; have bc := r1.cell; have bf := r1.free))
  refine bodyPost_ret (v := .agg #[.int .i64 0, .int .i64 0, .float .f64 0, .bool false]) (by simp [results, Tryz.results116, go_sem, bc, bf]) rfl ?_
  have hR : ro1 (w.heap.size + 1) ∈ [r + 12] := by rw [r1.role]; simp
  have n0 := Nat.le_succ w.heap.size
  exact ⟨rfl, ro1, p1, h1.keep (((((Mv.refl _ _ _).setCell hR _).setCell hR _).setCell hR _).setCell hR _) (by simp), (((m1.setNew n0 _).setNew n0 _).setNew n0 _).setNew n0 _⟩
set_option maxRecDepth 100000 in
set_option maxHeartbeats 2000000 in
theorem ddo_4 {ro : Nat → Nat} {r : Nat} {w : World} {M C tag vc p} {m : Ms} (h : DM ro r w M C tag vc m.dm p) (hl : m.stack.length ≤ 64) (n : Int) (x : Nat) (h1 : 2 ≤ m.stack.length) :
    Calls Tryz.prog 116 #[ptr M, insV 4 n x] w (DoD ro r w M C tag vc (m.trade 2 [m.top 0, m.top 1], askNone)) := by
  have TW0 : TopC M (ro2 ro w.heap.size r) (boxW w 4 n x) 0 (m.top 0) := ⟨fun W mv => dtop_walk ((h.keep0 (box_mv ro r w 4 n x)).keep0 mv) 0 (by omega) (by omega)⟩
  have TW1 : TopC M (ro2 ro w.heap.size r) (boxW w 4 n x) 1 (m.top 1) := ⟨fun W mv => dtop_walk ((h.keep0 (box_mv ro r w 4 n x)).keep0 mv) 1 (by omega) (by omega)⟩
  have KW := Lib.hid (show ∀ W, Mv (ro2 ro w.heap.size r) [] (boxW w 4 n x) (ro2 ro w.heap.size r) W → Rd W 1 (.slice (some ⟨w.heap.size + 2, 0, none⟩) 2 2) (([(m.top 0), (m.top 1)] : List Nat).map cF) → Calls Tryz.prog 140 #[ptr M, .int .i64 2, (.slice (some ⟨w.heap.size + 2, 0, none⟩) 2 2)] W (TrP ro r w M C tag vc (m.trade 2 [(m.top 0), (m.top 1)]).dm) from fun W mv hu => dtrade_do 4 n x (mv.mono (by simp)) ((h.keep0 (box_mv ro r w 4 n x)).keep0 mv) 2 (by omega) hl _ _ (by simp) hu)
  clear h
  generalize m.top 0 = y0 at *
  generalize m.top 1 = y1 at *
  have sf := run_store_float
  simp only [ptr, insV, Ask.v, askNone, askEnd, DoD] at *
  go_enter Tryz.func116, Tryz.ntmps116
  go_wp2_with (first | (go_at_call 142; refine (topc_at (by assumption) _ (by unfold boxW; repeat (first | with_reducible exact Mv.refl _ _ _ | refine Mv.alloc ?_ _ | refine Mv.drewN ?_ _ | refine Mv.drew ?_))).mono ?_; rintro e w0 ⟨rfl, q0, rfl⟩) | (go_at_call 142; refine (topc_at (by assumption) _ (by unfold boxW; repeat (first | with_reducible exact Mv.refl _ _ _ | refine Mv.alloc ?_ _ | refine Mv.drewN ?_ _ | refine Mv.drew ?_))).mono ?_; rintro e w0 ⟨rfl, q0, rfl⟩) | (go_at_call 140; refine (KW.out _ (by unfold boxW; repeat (first | with_reducible exact Mv.refl _ _ _ | refine Mv.alloc ?_ _ | refine Mv.drewN ?_ _ | refine Mv.drew ?_)) (by first | exact rd_lit1 _ _ (by simp) _ | exact rd_lit2 _ _ (by simp) _ _ | exact rd_nil0 _ | exact (rd_lit1 _ _ (by simp) _).keep0 ((Chg.refl _ _).drew) | exact (rd_lit1 _ _ (by simp) _).keep0 (((Chg.refl _ _).drew).drew))).mono ?_; rintro e w1 ⟨rfl, ro1, p1, h1, m1, r1⟩; have bc := r1.cell; have bf := r1.free))
  refine bodyPost_ret (v := .agg #[.int .i64 0, .int .i64 0, .float .f64 0, .bool false]) (by simp [results, Tryz.results116, go_sem, bc, bf]) rfl ?_
  have hR : ro1 (w.heap.size + 1) ∈ [r + 12] := by rw [r1.role]; simp
  have n0 := Nat.le_succ w.heap.size
  exact ⟨rfl, ro1, p1, h1.keep (((((Mv.refl _ _ _).setCell hR _).setCell hR _).setCell hR _).setCell hR _) (by simp), (((m1.setNew n0 _).setNew n0 _).setNew n0 _).setNew n0 _⟩
set_option maxRecDepth 100000 in
set_option maxHeartbeats 2000000 in
theorem ddo_5 {ro : Nat → Nat} {r : Nat} {w : World} {M C tag vc p} {m : Ms} (h : DM ro r w M C tag vc m.dm p) (hl : m.stack.length ≤ 64) (k : Nat) (x : Nat) (h1 : k < m.stack.length) :
    Calls Tryz.prog 116 #[ptr M, insV 5 (k : Int) x] w (DoD ro r w M C tag vc (m.trade 0 [m.top k], askNone)) := by
  have TWk : TopC M (ro2 ro w.heap.size r) (boxW w 5 (k : Int) x) (k : Int) (m.top k) := ⟨fun W mv => dtop_walk ((h.keep0 (box_mv ro r w 5 (k : Int) x)).keep0 mv) k (by omega) (by omega)⟩
  have KW := Lib.hid (show ∀ W, Mv (ro2 ro w.heap.size r) [] (boxW w 5 (k : Int) x) (ro2 ro w.heap.size r) W → Rd W 1 (.slice (some ⟨w.heap.size + 2, 0, none⟩) 1 1) (([(m.top k)] : List Nat).map cF) → Calls Tryz.prog 140 #[ptr M, .int .i64 0, (.slice (some ⟨w.heap.size + 2, 0, none⟩) 1 1)] W (TrP ro r w M C tag vc (m.trade 0 [(m.top k)]).dm) from fun W mv hu => dtrade_do 5 (k : Int) x (mv.mono (by simp)) ((h.keep0 (box_mv ro r w 5 (k : Int) x)).keep0 mv) 0 (by omega) hl _ _ (by simp) hu)
  clear h h1
  generalize m.top k = y0 at *
  have sf := run_store_float
  simp only [ptr, insV, Ask.v, askNone, askEnd, DoD] at *
  go_enter Tryz.func116, Tryz.ntmps116
  go_wp2_with (first | (go_at_call 142; refine (topc_at (by assumption) _ (by unfold boxW; repeat (first | with_reducible exact Mv.refl _ _ _ | refine Mv.alloc ?_ _ | refine Mv.drewN ?_ _ | refine Mv.drew ?_))).mono ?_; rintro e w0 ⟨rfl, q0, rfl⟩) | (go_at_call 140; refine (KW.out _ (by unfold boxW; repeat (first | with_reducible exact Mv.refl _ _ _ | refine Mv.alloc ?_ _ | refine Mv.drewN ?_ _ | refine Mv.drew ?_)) (by first | exact rd_lit1 _ _ (by simp) _ | exact rd_lit2 _ _ (by simp) _ _ | exact rd_nil0 _ | exact (rd_lit1 _ _ (by simp) _).keep0 ((Chg.refl _ _).drew) | exact (rd_lit1 _ _ (by simp) _).keep0 (((Chg.refl _ _).drew).drew))).mono ?_; rintro e w1 ⟨rfl, ro1, p1, h1, m1, r1⟩; have bc := r1.cell; have bf := r1.free))
  refine bodyPost_ret (v := .agg #[.int .i64 0, .int .i64 0, .float .f64 0, .bool false]) (by simp [results, Tryz.results116, go_sem, bc, bf]) rfl ?_
  have hR : ro1 (w.heap.size + 1) ∈ [r + 12] := by rw [r1.role]; simp
  have n0 := Nat.le_succ w.heap.size
  exact ⟨rfl, ro1, p1, h1.keep (((((Mv.refl _ _ _).setCell hR _).setCell hR _).setCell hR _).setCell hR _) (by simp), (((m1.setNew n0 _).setNew n0 _).setNew n0 _).setNew n0 _⟩
set_option maxRecDepth 100000 in
set_option maxHeartbeats 2000000 in
theorem ddo_6 {ro : Nat → Nat} {r : Nat} {w : World} {M C tag vc p} {m : Ms} (h : DM ro r w M C tag vc m.dm p) (hl : m.stack.length ≤ 64) (k : Nat) (x : Nat) (h1 : k < 8) :
    Calls Tryz.prog 116 #[ptr M, insV 6 (k : Int) x] w (DoD ro r w M C tag vc (m.trade 0 [m.args k], askNone)) := by
  obtain ⟨b, off, c, ev, hb, hx⟩ := h.argAt
  have hx := hx k h1
  have hc := h.blk.cell
  have hlt := h.blk.lt
  unfold dcells at hc
  rw [ev] at hc
  have hk8 : (k : Int) < 8 := by omega
  have KW := Lib.hid (show ∀ W, Mv (ro2 ro w.heap.size r) [] (boxW w 6 (k : Int) x) (ro2 ro w.heap.size r) W → Rd W 1 (.slice (some ⟨w.heap.size + 2, 0, none⟩) 1 1) (([(m.args k)] : List Nat).map cF) → Calls Tryz.prog 140 #[ptr M, .int .i64 0, (.slice (some ⟨w.heap.size + 2, 0, none⟩) 1 1)] W (TrP ro r w M C tag vc (m.trade 0 [(m.args k)]).dm) from fun W mv hu => dtrade_do 6 (k : Int) x (mv.mono (by simp)) ((h.keep0 (box_mv ro r w 6 (k : Int) x)).keep0 mv) 0 (by omega) hl _ _ (by simp) hu)
  clear h h1 ev
  generalize m.args k = y0 at *
  have sf := run_store_float
  simp only [ptr, insV, Ask.v, askNone, askEnd, DoD] at *
  go_enter Tryz.func116, Tryz.ntmps116
  go_wp2
  refine wp_region_noPanic ?_
  go_region_law (go_simp; first | (go_at_call 140; refine (KW.out _ (by unfold boxW; repeat (first | with_reducible exact Mv.refl _ _ _ | refine Mv.alloc ?_ _ | refine Mv.drewN ?_ _ | refine Mv.drew ?_)) (by first | exact rd_lit1 _ _ (by simp) _ | exact rd_lit2 _ _ (by simp) _ _ | exact rd_nil0 _ | exact (rd_lit1 _ _ (by simp) _).keep0 ((Chg.refl _ _).drew) | exact (rd_lit1 _ _ (by simp) _).keep0 (((Chg.refl _ _).drew).drew))).mono ?_; rintro e w1 ⟨rfl, ro1, p1, h1, m1, r1⟩; have bc := r1.cell; have bf := r1.free))
  all_goals
    refine NoPanic.normal ?_
    go_wp2
    refine bodyPost_ret (v := .agg #[.int .i64 0, .int .i64 0, .float .f64 0, .bool false]) (by simp [results, Tryz.results116, go_sem, bc, bf]) rfl ?_
    have hR : ro1 (w.heap.size + 1) ∈ [r + 12] := by rw [r1.role]; simp
    have n0 := Nat.le_succ w.heap.size
    exact ⟨rfl, ro1, p1, h1.keep (((((Mv.refl _ _ _).setCell hR _).setCell hR _).setCell hR _).setCell hR _) (by simp), (((m1.setNew n0 _).setNew n0 _).setNew n0 _).setNew n0 _⟩
set_option maxRecDepth 100000 in
set_option maxHeartbeats 2000000 in
theorem ddo_7 {ro : Nat → Nat} {r : Nat} {w : World} {M C tag vc p} {m : Ms} (h : DM ro r w M C tag vc m.dm p) (hl : m.stack.length ≤ 64) (k : Nat) (x : Nat) (h1 : k < 8) :
    Calls Tryz.prog 116 #[ptr M, insV 7 (k : Int) x] w (DoD ro r w M C tag vc (m.trade 0 [m.locals k], askNone)) := by
  obtain ⟨b, c, ev, hb, -, hx, -⟩ := h.locAt
  have hx := hx k h1
  have hc := h.blk.cell
  have hlt := h.blk.lt
  unfold dcells at hc
  rw [ev] at hc
  have hk8 : (k : Int) < 8 := by omega
  have KW := Lib.hid (show ∀ W, Mv (ro2 ro w.heap.size r) [] (boxW w 7 (k : Int) x) (ro2 ro w.heap.size r) W → Rd W 1 (.slice (some ⟨w.heap.size + 2, 0, none⟩) 1 1) (([(m.locals k)] : List Nat).map cF) → Calls Tryz.prog 140 #[ptr M, .int .i64 0, (.slice (some ⟨w.heap.size + 2, 0, none⟩) 1 1)] W (TrP ro r w M C tag vc (m.trade 0 [(m.locals k)]).dm) from fun W mv hu => dtrade_do 7 (k : Int) x (mv.mono (by simp)) ((h.keep0 (box_mv ro r w 7 (k : Int) x)).keep0 mv) 0 (by omega) hl _ _ (by simp) hu)
  clear h h1 ev
  generalize m.locals k = y0 at *
  have sf := run_store_float
  simp only [ptr, insV, Ask.v, askNone, askEnd, DoD] at *
  go_enter Tryz.func116, Tryz.ntmps116
  go_wp2
  refine wp_region_noPanic ?_
  go_region_law (go_simp; first | (go_at_call 140; refine (KW.out _ (by unfold boxW; repeat (first | with_reducible exact Mv.refl _ _ _ | refine Mv.alloc ?_ _ | refine Mv.drewN ?_ _ | refine Mv.drew ?_)) (by first | exact rd_lit1 _ _ (by simp) _ | exact rd_lit2 _ _ (by simp) _ _ | exact rd_nil0 _ | exact (rd_lit1 _ _ (by simp) _).keep0 ((Chg.refl _ _).drew) | exact (rd_lit1 _ _ (by simp) _).keep0 (((Chg.refl _ _).drew).drew))).mono ?_; rintro e w1 ⟨rfl, ro1, p1, h1, m1, r1⟩; have bc := r1.cell; have bf := r1.free))
  all_goals
    refine NoPanic.normal ?_
    go_wp2
    refine bodyPost_ret (v := .agg #[.int .i64 0, .int .i64 0, .float .f64 0, .bool false]) (by simp [results, Tryz.results116, go_sem, bc, bf]) rfl ?_
    have hR : ro1 (w.heap.size + 1) ∈ [r + 12] := by rw [r1.role]; simp
    have n0 := Nat.le_succ w.heap.size
    exact ⟨rfl, ro1, p1, h1.keep (((((Mv.refl _ _ _).setCell hR _).setCell hR _).setCell hR _).setCell hR _) (by simp), (((m1.setNew n0 _).setNew n0 _).setNew n0 _).setNew n0 _⟩
set_option maxRecDepth 100000 in
set_option maxHeartbeats 2000000 in
theorem ddo_9 {ro : Nat → Nat} {r : Nat} {w : World} {M C tag vc p} {m : Ms} (h : DM ro r w M C tag vc m.dm p) (hl : m.stack.length ≤ 64) (n : Int) (x : Nat) (h1 : 1 ≤ m.stack.length) (n1 : 1 ≤ n) (n8 : n ≤ 8) (hx : fx (m.top 0) = m.top 0) (hf : m.top 0 < 18446744073709551616) :
    Calls Tryz.prog 116 #[ptr M, insV 9 n x] w (DoD ro r w M C tag vc (m.trade 1 [oneF n (fx (m.top 0))], askNone)) := by
  rw [hx]
  have TW0 : TopC M (ro2 ro w.heap.size r) (boxW w 9 n x) 0 (m.top 0) := ⟨fun W mv => dtop_walk ((h.keep0 (box_mv ro r w 9 n x)).keep0 mv) 0 (by omega) (by omega)⟩
  have KW := Lib.hid (show ∀ W, Mv (ro2 ro w.heap.size r) [] (boxW w 9 n x) (ro2 ro w.heap.size r) W → Rd W 1 (.slice (some ⟨w.heap.size + 2, 0, none⟩) 1 1) (([(oneF n (m.top 0))] : List Nat).map cF) → Calls Tryz.prog 140 #[ptr M, .int .i64 1, (.slice (some ⟨w.heap.size + 2, 0, none⟩) 1 1)] W (TrP ro r w M C tag vc (m.trade 1 [(oneF n (m.top 0))]).dm) from fun W mv hu => dtrade_do 9 n x (mv.mono (by simp)) ((h.keep0 (box_mv ro r w 9 n x)).keep0 mv) 1 (by omega) hl _ _ (by simp) hu)
  have OW := Lib.hid (fun w => roneq n1 n8 hx hf w)
  clear h hx hf
  generalize m.top 0 = y0 at *
  generalize oneF n y0 = z0 at *
  have sf := run_store_float
  simp only [ptr, insV, Ask.v, askNone, askEnd, DoD] at *
  go_enter Tryz.func116, Tryz.ntmps116
  go_wp2
  go_quiet (first | (go_at_call 142; exact Calls.quiet_of (topc_at (by assumption) _ (by unfold boxW; repeat (first | with_reducible exact Mv.refl _ _ _ | refine Mv.alloc ?_ _ | refine Mv.drewN ?_ _ | refine Mv.drew ?_)))) | (go_at_call 143; exact Calls.quiet_of (OW.out _)))
  go_wp2_with ((go_at_call 140; refine (KW.out _ (by unfold boxW; repeat (first | with_reducible exact Mv.refl _ _ _ | refine Mv.alloc ?_ _ | refine Mv.drewN ?_ _ | refine Mv.drew ?_)) (by first | exact rd_lit1 _ _ (by simp) _ | exact rd_lit2 _ _ (by simp) _ _ | exact rd_nil0 _ | exact (rd_lit1 _ _ (by simp) _).keep0 ((Chg.refl _ _).drew) | exact (rd_lit1 _ _ (by simp) _).keep0 (((Chg.refl _ _).drew).drew))).mono ?_; rintro e w1 ⟨rfl, ro1, p1, h1, m1, r1⟩; have bc := r1.cell; have bf := r1.free))
  refine bodyPost_ret (v := .agg #[.int .i64 0, .int .i64 0, .float .f64 0, .bool false]) (by simp [results, Tryz.results116, go_sem, bc, bf]) rfl ?_
  have hR : ro1 (w.heap.size + 1) ∈ [r + 12] := by rw [r1.role]; simp
  have n0 := Nat.le_succ w.heap.size
  exact ⟨rfl, ro1, p1, h1.keep (((((Mv.refl _ _ _).setCell hR _).setCell hR _).setCell hR _).setCell hR _) (by simp), (((m1.setNew n0 _).setNew n0 _).setNew n0 _).setNew n0 _⟩
set_option maxRecDepth 100000 in
set_option maxHeartbeats 2000000 in
theorem ddo_10 {ro : Nat → Nat} {r : Nat} {w : World} {M C tag vc p} {m : Ms} (h : DM ro r w M C tag vc m.dm p) (hl : m.stack.length ≤ 64) (n : Int) (x : Nat) (h1 : 2 ≤ m.stack.length) (n1 : 1 ≤ n) (n12 : n ≤ 12) (hx : fx (m.top 0) = m.top 0) (hf : m.top 0 < 18446744073709551616) (hy : fx (m.top 1) = m.top 1) (hg : m.top 1 < 18446744073709551616) :
    Calls Tryz.prog 116 #[ptr M, insV 10 n x] w (DoD ro r w M C tag vc (m.trade 2 [twoF n (fx (m.top 1)) (fx (m.top 0))], askNone)) := by
  rw [hx, hy]
  have TW0 : TopC M (ro2 ro w.heap.size r) (boxW w 10 n x) 0 (m.top 0) := ⟨fun W mv => dtop_walk ((h.keep0 (box_mv ro r w 10 n x)).keep0 mv) 0 (by omega) (by omega)⟩
  have TW1 : TopC M (ro2 ro w.heap.size r) (boxW w 10 n x) 1 (m.top 1) := ⟨fun W mv => dtop_walk ((h.keep0 (box_mv ro r w 10 n x)).keep0 mv) 1 (by omega) (by omega)⟩
  have KW := Lib.hid (show ∀ W, Mv (ro2 ro w.heap.size r) [] (boxW w 10 n x) (ro2 ro w.heap.size r) W → Rd W 1 (.slice (some ⟨w.heap.size + 2, 0, none⟩) 1 1) (([(twoF n (m.top 1) (m.top 0))] : List Nat).map cF) → Calls Tryz.prog 140 #[ptr M, .int .i64 2, (.slice (some ⟨w.heap.size + 2, 0, none⟩) 1 1)] W (TrP ro r w M C tag vc (m.trade 2 [(twoF n (m.top 1) (m.top 0))]).dm) from fun W mv hu => dtrade_do 10 n x (mv.mono (by simp)) ((h.keep0 (box_mv ro r w 10 n x)).keep0 mv) 2 (by omega) hl _ _ (by simp) hu)
  have OW := Lib.hid (fun w => rtwoq n1 n12 hy hx hg hf w)
  clear h hx hf hy hg
  generalize m.top 0 = y0 at *
  generalize m.top 1 = y1 at *
  generalize twoF n y1 y0 = z0 at *
  have sf := run_store_float
  simp only [ptr, insV, Ask.v, askNone, askEnd, DoD] at *
  go_enter Tryz.func116, Tryz.ntmps116
  go_wp2
  go_quiet (first | (go_at_call 142; exact Calls.quiet_of (topc_at (by assumption) _ (by unfold boxW; repeat (first | with_reducible exact Mv.refl _ _ _ | refine Mv.alloc ?_ _ | refine Mv.drewN ?_ _ | refine Mv.drew ?_)))) | (go_at_call 144; exact Calls.quiet_of (OW.out _)))
  go_wp2_with ((go_at_call 140; refine (KW.out _ (by unfold boxW; repeat (first | with_reducible exact Mv.refl _ _ _ | refine Mv.alloc ?_ _ | refine Mv.drewN ?_ _ | refine Mv.drew ?_)) (by first | exact rd_lit1 _ _ (by simp) _ | exact rd_lit2 _ _ (by simp) _ _ | exact rd_nil0 _ | exact (rd_lit1 _ _ (by simp) _).keep0 ((Chg.refl _ _).drew) | exact (rd_lit1 _ _ (by simp) _).keep0 (((Chg.refl _ _).drew).drew))).mono ?_; rintro e w1 ⟨rfl, ro1, p1, h1, m1, r1⟩; have bc := r1.cell; have bf := r1.free))
  refine bodyPost_ret (v := .agg #[.int .i64 0, .int .i64 0, .float .f64 0, .bool false]) (by simp [results, Tryz.results116, go_sem, bc, bf]) rfl ?_
  have hR : ro1 (w.heap.size + 1) ∈ [r + 12] := by rw [r1.role]; simp
  have n0 := Nat.le_succ w.heap.size
  exact ⟨rfl, ro1, p1, h1.keep (((((Mv.refl _ _ _).setCell hR _).setCell hR _).setCell hR _).setCell hR _) (by simp), (((m1.setNew n0 _).setNew n0 _).setNew n0 _).setNew n0 _⟩
set_option maxRecDepth 100000 in
set_option maxHeartbeats 2000000 in
theorem ddo_11 {ro : Nat → Nat} {r : Nat} {w : World} {M C tag vc p} {m : Ms} (h : DM ro r w M C tag vc m.dm p) (hl : m.stack.length ≤ 64) (n : Int) (x : Nat) :
    Calls Tryz.prog 116 #[ptr M, insV 11 n x] w (DoD ro r w M C tag vc ({ m with place := n }, askNone)) := by
  have k0 := h
  obtain ⟨k1, m01⟩ := k0.put (d' := { m.dm with place := n }) 11 (.int .i64 n) rfl rfl rfl rfl rfl rfl rfl rfl
  have M1 := Lib.hid (show Mv ro [r, r + 4] w ro _ from (m01.mono (by simp)))
  have K1 := Lib.hid k1
  clear k1 m01 k0
  have hc := h.blk.cell
  have hf := h.blk.free
  have hlt := h.blk.lt
  unfold dcells at hc
  clear h
  have sf := run_store_float
  simp only [ptr, insV, Ask.v, askNone, askEnd, DoD] at *
  go_enter Tryz.func116, Tryz.ntmps116
  go_wp2
  refine bodyPost_ret (v := .agg #[.int .i64 0, .int .i64 0, .float .f64 0, .bool false]) (by simp [results, Tryz.results116, go_sem]) rfl ?_
  exact ⟨rfl, ro, p, K1.out.keep0 (((Mv.refl _ _ _).alloc _).alloc _), (M1.out.alloc _).alloc _⟩
set_option maxRecDepth 100000 in
set_option maxHeartbeats 2000000 in
theorem ddo_19 {ro : Nat → Nat} {r : Nat} {w : World} {M C tag vc p} {m : Ms} (h : DM ro r w M C tag vc m.dm p) (hl : m.stack.length ≤ 64) (n : Int) (x : Nat) :
    Calls Tryz.prog 116 #[ptr M, insV 19 n x] w (DoD ro r w M C tag vc (m.ends 2 n 0)) := by
  have k0 := h
  obtain ⟨k1, m01⟩ := k0.put (d' := { m.dm with how := 2 }) 14 (.int .i64 2) rfl rfl rfl rfl rfl rfl rfl rfl
  obtain ⟨k2, m02⟩ := k1.put (d' := { m.dm with how := 2, ecode := n }) 15 (.int .i64 n) rfl rfl rfl rfl rfl rfl rfl rfl
  obtain ⟨k3, m03⟩ := k2.put (d' := { m.dm with how := 2, ecode := n, err := 0 }) 16 (.int .i64 0) rfl rfl rfl rfl rfl rfl rfl rfl
  have M1 := Lib.hid (show Mv ro [r, r + 4] w ro _ from (((m01.mono (by simp)).trans (m02.mono (by simp))).trans (m03.mono (by simp))))
  have K1 := Lib.hid k3
  clear k1 m01 k2 m02 k3 m03 k0
  have hc := h.blk.cell
  have hf := h.blk.free
  have hlt := h.blk.lt
  unfold dcells at hc
  clear h
  have sf := run_store_float
  simp only [ptr, insV, Ask.v, askNone, askEnd, DoD] at *
  simp only [Ms.ends] at *
  go_enter Tryz.func116, Tryz.ntmps116
  go_wp2
  refine bodyPost_ret (v := .agg #[.int .i64 4, .int .i64 0, .float .f64 0, .bool false]) (by simp [results, Tryz.results116, go_sem]) rfl ?_
  exact ⟨rfl, ro, p, K1.out.keep0 (((Mv.refl _ _ _).alloc _).alloc _), (M1.out.alloc _).alloc _⟩
set_option maxRecDepth 100000 in
set_option maxHeartbeats 2000000 in
theorem ddo_20 {ro : Nat → Nat} {r : Nat} {w : World} {M C tag vc p} {m : Ms} (h : DM ro r w M C tag vc m.dm p) (hl : m.stack.length ≤ 64) (n : Int) (x : Nat) (e1 : m.ecode = 0) (e2 : m.err = 0) :
    Calls Tryz.prog 116 #[ptr M, insV 20 n x] w (DoD ro r w M C tag vc (m.ends 1 0 0)) := by
  have em : (m.ends 1 0 0) = (({ m with how := 1 } : Ms), askEnd) := by unfold Ms.ends; rw [show ({ m with how := 1, ecode := 0, err := 0 } : Ms) = { m with how := 1, ecode := m.ecode, err := m.err } by rw [e1, e2]]
  rw [em]
  clear em
  have k0 := h
  obtain ⟨k1, m01⟩ := k0.put (d' := { m.dm with how := 1 }) 14 (.int .i64 1) rfl rfl rfl rfl rfl rfl rfl rfl
  have M1 := Lib.hid (show Mv ro [r, r + 4] w ro _ from (m01.mono (by simp)))
  have K1 := Lib.hid k1
  clear k1 m01 k0
  have hc := h.blk.cell
  have hf := h.blk.free
  have hlt := h.blk.lt
  unfold dcells at hc
  clear h
  have sf := run_store_float
  simp only [ptr, insV, Ask.v, askNone, askEnd, DoD] at *
  go_enter Tryz.func116, Tryz.ntmps116
  go_wp2
  refine bodyPost_ret (v := .agg #[.int .i64 4, .int .i64 0, .float .f64 0, .bool false]) (by simp [results, Tryz.results116, go_sem]) rfl ?_
  exact ⟨rfl, ro, p, K1.out.keep0 (((Mv.refl _ _ _).alloc _).alloc _), (M1.out.alloc _).alloc _⟩
set_option maxRecDepth 100000 in
set_option maxHeartbeats 2000000 in
theorem ddo_8 {ro : Nat → Nat} {r : Nat} {w : World} {M C tag vc p} {m : Ms} (h : DM ro r w M C tag vc m.dm p) (hl : m.stack.length ≤ 64) (k : Nat) (x : Nat) (h1 : k < 8) (h2 : 1 ≤ m.stack.length) :
    Calls Tryz.prog 116 #[ptr M, insV 8 (k : Int) x] w (DoD ro r w M C tag vc ({ m.trade 1 [] with locals := fun i => if i = k then m.top 0 else m.locals i }, askNone)) := by
  obtain ⟨g, c, ev, hb, hro, hx, hfz⟩ := h.locAt
  have hx := hx k h1
  have hfz := hfz k
  have hc := h.blk.cell
  have hlt := h.blk.lt
  unfold dcells at hc
  rw [ev] at hc
  have hk8 : (k : Int) < 8 := by omega
  have TW0 : TopC M (ro2 ro w.heap.size r) (boxW w 8 (k : Int) x) 0 (m.top 0) := ⟨fun W mv => dtop_walk ((h.keep0 (box_mv ro r w 8 (k : Int) x)).keep0 mv) 0 (by omega) (by omega)⟩
  have KW := Lib.hid (show ∀ W, Mv (ro2 ro w.heap.size r) [] (boxW w 8 (k : Int) x) (ro2 ro w.heap.size r) W → Rd (W.setCell ⟨g, k, none⟩ (.float .f64 (m.top 0))) 1 (.slice none 0 0) (([] : List Nat).map cF) → Calls Tryz.prog 140 #[ptr M, .int .i64 1, .slice none 0 0] (W.setCell ⟨g, k, none⟩ (.float .f64 (m.top 0))) (TrP ro r w M C tag vc (({ m with locals := fun i => if i = k then m.top 0 else m.locals i }).trade 1 []).dm) from fun W mv hu => by
    have hW := (h.keep0 (box_mv ro r w 8 (k : Int) x)).keep0 mv
    obtain ⟨a, b⟩ := hW.setLoc ev k h1 (m.top 0)
    exact dtrade_do (m := { m with locals := fun i => if i = k then m.top 0 else m.locals i }) 8 (k : Int) x ((mv.mono (by simp)).trans (b.mono (by simp))) a 1 (by show 1 ≤ m.stack.length; omega) hl _ [] (by simp) hu)
  clear h h1 ev
  generalize m.top 0 = y0 at *
  have sf := run_store_float
  simp only [ptr, insV, Ask.v, askNone, askEnd, DoD] at *
  go_enter Tryz.func116, Tryz.ntmps116
  go_wp2
  refine wp_region_noPanic ?_
  go_region_law (go_simp; first | (go_at_call 142; refine (topc_at (by assumption) _ (by unfold boxW; repeat (first | with_reducible exact Mv.refl _ _ _ | refine Mv.alloc ?_ _ | refine Mv.drewN ?_ _ | refine Mv.drew ?_))).mono ?_; rintro e w0 ⟨rfl, q0, rfl⟩))
  all_goals
    refine NoPanic.normal ?_
    go_wp2_with ((go_at_call 140; refine (KW.out _ (by unfold boxW; repeat (first | with_reducible exact Mv.refl _ _ _ | refine Mv.alloc ?_ _ | refine Mv.drewN ?_ _ | refine Mv.drew ?_)) (by first | exact rd_lit1 _ _ (by simp) _ | exact rd_lit2 _ _ (by simp) _ _ | exact rd_nil0 _ | exact (rd_lit1 _ _ (by simp) _).keep0 ((Chg.refl _ _).drew) | exact (rd_lit1 _ _ (by simp) _).keep0 (((Chg.refl _ _).drew).drew))).mono ?_; rintro e w1 ⟨rfl, ro1, p1, h1, m1, r1⟩; have bc := r1.cell; have bf := r1.free))
    refine bodyPost_ret (v := .agg #[.int .i64 0, .int .i64 0, .float .f64 0, .bool false]) (by simp [results, Tryz.results116, go_sem, bc, bf]) rfl ?_
    have hR : ro1 (w.heap.size + 1) ∈ [r + 12] := by rw [r1.role]; simp
    have n0 := Nat.le_succ w.heap.size
    exact ⟨rfl, ro1, p1, h1.keep (((((Mv.refl _ _ _).setCell hR _).setCell hR _).setCell hR _).setCell hR _) (by simp), (((m1.setNew n0 _).setNew n0 _).setNew n0 _).setNew n0 _⟩
set_option maxRecDepth 100000 in
set_option maxHeartbeats 2000000 in
theorem ddo_12y {ro : Nat → Nat} {r : Nat} {w : World} {M C tag vc p} {m : Ms} (h : DM ro r w M C tag vc m.dm p) (hl : m.stack.length ≤ 64) (n : Int) (x : Nat) (h1 : 1 ≤ m.stack.length) (hb : trueF (m.top 0) = true) :
    Calls Tryz.prog 116 #[ptr M, insV 12 n x] w (DoD ro r w M C tag vc ({ m.trade 1 [] with place := n }, askNone)) := by
  have hc := h.blk.cell
  have hf := h.blk.free
  have hlt := h.blk.lt
  unfold dcells at hc
  have TW0 : TopC M (ro2 ro w.heap.size r) (boxW w 12 n x) 0 (m.top 0) := ⟨fun W mv => dtop_walk ((h.keep0 (box_mv ro r w 12 n x)).keep0 mv) 0 (by omega) (by omega)⟩
  have KW := Lib.hid (show ∀ W, Mv (ro2 ro w.heap.size r) [] (boxW w 12 n x) (ro2 ro w.heap.size r) W → Rd (W.setCell ⟨M, 11, none⟩ (.int .i64 n)) 1 (.slice none 0 0) (([] : List Nat).map cF) → Calls Tryz.prog 140 #[ptr M, .int .i64 1, .slice none 0 0] (W.setCell ⟨M, 11, none⟩ (.int .i64 n)) (TrP ro r w M C tag vc (({ m with place := n }).trade 1 []).dm) from fun W mv hu => by
    have hW := (h.keep0 (box_mv ro r w 12 n x)).keep0 mv
    obtain ⟨a, b⟩ := hW.put (d' := { m.dm with place := n }) 11 (.int .i64 n) rfl rfl rfl rfl rfl rfl rfl rfl
    exact dtrade_do (m := { m with place := n }) 12 n x ((mv.mono (by simp)).trans (b.mono (by simp))) a 1 (by show 1 ≤ m.stack.length; omega) hl _ [] (by simp) hu)
  have BW := rtrue_walk (m.top 0)
  rw [hb] at BW
  clear h hb
  generalize m.top 0 = y0 at *
  have sf := run_store_float
  simp only [ptr, insV, Ask.v, askNone, askEnd, DoD] at *
  go_enter Tryz.func116, Tryz.ntmps116
  go_wp2
  go_quiet (first | (go_at_call 142; exact Calls.quiet_of (topc_at (by assumption) _ (by unfold boxW; repeat (first | with_reducible exact Mv.refl _ _ _ | refine Mv.alloc ?_ _ | refine Mv.drewN ?_ _ | refine Mv.drew ?_)))) | (go_at_call 145; exact Calls.quiet_of_same (BW _)))
  go_wp2_with ((go_at_call 140; refine (KW.out _ (by unfold boxW; repeat (first | with_reducible exact Mv.refl _ _ _ | refine Mv.alloc ?_ _ | refine Mv.drewN ?_ _ | refine Mv.drew ?_)) (by first | exact rd_lit1 _ _ (by simp) _ | exact rd_lit2 _ _ (by simp) _ _ | exact rd_nil0 _ | exact (rd_lit1 _ _ (by simp) _).keep0 ((Chg.refl _ _).drew) | exact (rd_lit1 _ _ (by simp) _).keep0 (((Chg.refl _ _).drew).drew))).mono ?_; rintro e w1 ⟨rfl, ro1, p1, h1, m1, r1⟩; have bc := r1.cell; have bf := r1.free))
  refine bodyPost_ret (v := .agg #[.int .i64 0, .int .i64 0, .float .f64 0, .bool false]) (by simp [results, Tryz.results116, go_sem, bc, bf]) rfl ?_
  have hR : ro1 (w.heap.size + 1) ∈ [r + 12] := by rw [r1.role]; simp
  have n0 := Nat.le_succ w.heap.size
  exact ⟨rfl, ro1, p1, h1.keep (((((Mv.refl _ _ _).setCell hR _).setCell hR _).setCell hR _).setCell hR _) (by simp), (((m1.setNew n0 _).setNew n0 _).setNew n0 _).setNew n0 _⟩
set_option maxRecDepth 100000 in
set_option maxHeartbeats 2000000 in
theorem ddo_12n {ro : Nat → Nat} {r : Nat} {w : World} {M C tag vc p} {m : Ms} (h : DM ro r w M C tag vc m.dm p) (hl : m.stack.length ≤ 64) (n : Int) (x : Nat) (h1 : 1 ≤ m.stack.length) (hb : trueF (m.top 0) = false) :
    Calls Tryz.prog 116 #[ptr M, insV 12 n x] w (DoD ro r w M C tag vc (m.trade 1 [], askNone)) := by
  have hc := h.blk.cell
  have hf := h.blk.free
  have hlt := h.blk.lt
  unfold dcells at hc
  have TW0 : TopC M (ro2 ro w.heap.size r) (boxW w 12 n x) 0 (m.top 0) := ⟨fun W mv => dtop_walk ((h.keep0 (box_mv ro r w 12 n x)).keep0 mv) 0 (by omega) (by omega)⟩
  have KW := Lib.hid (show ∀ W, Mv (ro2 ro w.heap.size r) [] (boxW w 12 n x) (ro2 ro w.heap.size r) W → Rd W 1 (.slice none 0 0) (([] : List Nat).map cF) → Calls Tryz.prog 140 #[ptr M, .int .i64 1, (.slice none 0 0)] W (TrP ro r w M C tag vc (m.trade 1 []).dm) from fun W mv hu => dtrade_do 12 n x (mv.mono (by simp)) ((h.keep0 (box_mv ro r w 12 n x)).keep0 mv) 1 (by omega) hl _ _ (by simp) hu)
  have BW := rtrue_walk (m.top 0)
  rw [hb] at BW
  clear h hb
  generalize m.top 0 = y0 at *
  have sf := run_store_float
  simp only [ptr, insV, Ask.v, askNone, askEnd, DoD] at *
  go_enter Tryz.func116, Tryz.ntmps116
  go_wp2
  go_quiet (first | (go_at_call 142; exact Calls.quiet_of (topc_at (by assumption) _ (by unfold boxW; repeat (first | with_reducible exact Mv.refl _ _ _ | refine Mv.alloc ?_ _ | refine Mv.drewN ?_ _ | refine Mv.drew ?_)))) | (go_at_call 145; exact Calls.quiet_of_same (BW _)))
  go_wp2_with ((go_at_call 140; refine (KW.out _ (by unfold boxW; repeat (first | with_reducible exact Mv.refl _ _ _ | refine Mv.alloc ?_ _ | refine Mv.drewN ?_ _ | refine Mv.drew ?_)) (by first | exact rd_lit1 _ _ (by simp) _ | exact rd_lit2 _ _ (by simp) _ _ | exact rd_nil0 _ | exact (rd_lit1 _ _ (by simp) _).keep0 ((Chg.refl _ _).drew) | exact (rd_lit1 _ _ (by simp) _).keep0 (((Chg.refl _ _).drew).drew))).mono ?_; rintro e w1 ⟨rfl, ro1, p1, h1, m1, r1⟩; have bc := r1.cell; have bf := r1.free))
  refine bodyPost_ret (v := .agg #[.int .i64 0, .int .i64 0, .float .f64 0, .bool false]) (by simp [results, Tryz.results116, go_sem, bc, bf]) rfl ?_
  have hR : ro1 (w.heap.size + 1) ∈ [r + 12] := by rw [r1.role]; simp
  have n0 := Nat.le_succ w.heap.size
  exact ⟨rfl, ro1, p1, h1.keep (((((Mv.refl _ _ _).setCell hR _).setCell hR _).setCell hR _).setCell hR _) (by simp), (((m1.setNew n0 _).setNew n0 _).setNew n0 _).setNew n0 _⟩
set_option maxRecDepth 100000 in
set_option maxHeartbeats 2000000 in
theorem ddo_13y {ro : Nat → Nat} {r : Nat} {w : World} {M C tag vc p} {m : Ms} (h : DM ro r w M C tag vc m.dm p) (hl : m.stack.length ≤ 64) (n : Int) (x : Nat) (h1 : 1 ≤ m.stack.length) (hb : trueF (m.top 0) = false) :
    Calls Tryz.prog 116 #[ptr M, insV 13 n x] w (DoD ro r w M C tag vc ({ m.trade 1 [] with place := n }, askNone)) := by
  have hc := h.blk.cell
  have hf := h.blk.free
  have hlt := h.blk.lt
  unfold dcells at hc
  have TW0 : TopC M (ro2 ro w.heap.size r) (boxW w 13 n x) 0 (m.top 0) := ⟨fun W mv => dtop_walk ((h.keep0 (box_mv ro r w 13 n x)).keep0 mv) 0 (by omega) (by omega)⟩
  have KW := Lib.hid (show ∀ W, Mv (ro2 ro w.heap.size r) [] (boxW w 13 n x) (ro2 ro w.heap.size r) W → Rd (W.setCell ⟨M, 11, none⟩ (.int .i64 n)) 1 (.slice none 0 0) (([] : List Nat).map cF) → Calls Tryz.prog 140 #[ptr M, .int .i64 1, .slice none 0 0] (W.setCell ⟨M, 11, none⟩ (.int .i64 n)) (TrP ro r w M C tag vc (({ m with place := n }).trade 1 []).dm) from fun W mv hu => by
    have hW := (h.keep0 (box_mv ro r w 13 n x)).keep0 mv
    obtain ⟨a, b⟩ := hW.put (d' := { m.dm with place := n }) 11 (.int .i64 n) rfl rfl rfl rfl rfl rfl rfl rfl
    exact dtrade_do (m := { m with place := n }) 13 n x ((mv.mono (by simp)).trans (b.mono (by simp))) a 1 (by show 1 ≤ m.stack.length; omega) hl _ [] (by simp) hu)
  have BW := rtrue_walk (m.top 0)
  rw [hb] at BW
  clear h hb
  generalize m.top 0 = y0 at *
  have sf := run_store_float
  simp only [ptr, insV, Ask.v, askNone, askEnd, DoD] at *
  go_enter Tryz.func116, Tryz.ntmps116
  go_wp2
  go_quiet (first | (go_at_call 142; exact Calls.quiet_of (topc_at (by assumption) _ (by unfold boxW; repeat (first | with_reducible exact Mv.refl _ _ _ | refine Mv.alloc ?_ _ | refine Mv.drewN ?_ _ | refine Mv.drew ?_)))) | (go_at_call 145; exact Calls.quiet_of_same (BW _)))
  go_wp2_with ((go_at_call 140; refine (KW.out _ (by unfold boxW; repeat (first | with_reducible exact Mv.refl _ _ _ | refine Mv.alloc ?_ _ | refine Mv.drewN ?_ _ | refine Mv.drew ?_)) (by first | exact rd_lit1 _ _ (by simp) _ | exact rd_lit2 _ _ (by simp) _ _ | exact rd_nil0 _ | exact (rd_lit1 _ _ (by simp) _).keep0 ((Chg.refl _ _).drew) | exact (rd_lit1 _ _ (by simp) _).keep0 (((Chg.refl _ _).drew).drew))).mono ?_; rintro e w1 ⟨rfl, ro1, p1, h1, m1, r1⟩; have bc := r1.cell; have bf := r1.free))
  refine bodyPost_ret (v := .agg #[.int .i64 0, .int .i64 0, .float .f64 0, .bool false]) (by simp [results, Tryz.results116, go_sem, bc, bf]) rfl ?_
  have hR : ro1 (w.heap.size + 1) ∈ [r + 12] := by rw [r1.role]; simp
  have n0 := Nat.le_succ w.heap.size
  exact ⟨rfl, ro1, p1, h1.keep (((((Mv.refl _ _ _).setCell hR _).setCell hR _).setCell hR _).setCell hR _) (by simp), (((m1.setNew n0 _).setNew n0 _).setNew n0 _).setNew n0 _⟩
set_option maxRecDepth 100000 in
set_option maxHeartbeats 2000000 in
theorem ddo_13n {ro : Nat → Nat} {r : Nat} {w : World} {M C tag vc p} {m : Ms} (h : DM ro r w M C tag vc m.dm p) (hl : m.stack.length ≤ 64) (n : Int) (x : Nat) (h1 : 1 ≤ m.stack.length) (hb : trueF (m.top 0) = true) :
    Calls Tryz.prog 116 #[ptr M, insV 13 n x] w (DoD ro r w M C tag vc (m.trade 1 [], askNone)) := by
  have hc := h.blk.cell
  have hf := h.blk.free
  have hlt := h.blk.lt
  unfold dcells at hc
  have TW0 : TopC M (ro2 ro w.heap.size r) (boxW w 13 n x) 0 (m.top 0) := ⟨fun W mv => dtop_walk ((h.keep0 (box_mv ro r w 13 n x)).keep0 mv) 0 (by omega) (by omega)⟩
  have KW := Lib.hid (show ∀ W, Mv (ro2 ro w.heap.size r) [] (boxW w 13 n x) (ro2 ro w.heap.size r) W → Rd W 1 (.slice none 0 0) (([] : List Nat).map cF) → Calls Tryz.prog 140 #[ptr M, .int .i64 1, (.slice none 0 0)] W (TrP ro r w M C tag vc (m.trade 1 []).dm) from fun W mv hu => dtrade_do 13 n x (mv.mono (by simp)) ((h.keep0 (box_mv ro r w 13 n x)).keep0 mv) 1 (by omega) hl _ _ (by simp) hu)
  have BW := rtrue_walk (m.top 0)
  rw [hb] at BW
  clear h hb
  generalize m.top 0 = y0 at *
  have sf := run_store_float
  simp only [ptr, insV, Ask.v, askNone, askEnd, DoD] at *
  go_enter Tryz.func116, Tryz.ntmps116
  go_wp2
  go_quiet (first | (go_at_call 142; exact Calls.quiet_of (topc_at (by assumption) _ (by unfold boxW; repeat (first | with_reducible exact Mv.refl _ _ _ | refine Mv.alloc ?_ _ | refine Mv.drewN ?_ _ | refine Mv.drew ?_)))) | (go_at_call 145; exact Calls.quiet_of_same (BW _)))
  go_wp2_with ((go_at_call 140; refine (KW.out _ (by unfold boxW; repeat (first | with_reducible exact Mv.refl _ _ _ | refine Mv.alloc ?_ _ | refine Mv.drewN ?_ _ | refine Mv.drew ?_)) (by first | exact rd_lit1 _ _ (by simp) _ | exact rd_lit2 _ _ (by simp) _ _ | exact rd_nil0 _ | exact (rd_lit1 _ _ (by simp) _).keep0 ((Chg.refl _ _).drew) | exact (rd_lit1 _ _ (by simp) _).keep0 (((Chg.refl _ _).drew).drew))).mono ?_; rintro e w1 ⟨rfl, ro1, p1, h1, m1, r1⟩; have bc := r1.cell; have bf := r1.free))
  refine bodyPost_ret (v := .agg #[.int .i64 0, .int .i64 0, .float .f64 0, .bool false]) (by simp [results, Tryz.results116, go_sem, bc, bf]) rfl ?_
  have hR : ro1 (w.heap.size + 1) ∈ [r + 12] := by rw [r1.role]; simp
  have n0 := Nat.le_succ w.heap.size
  exact ⟨rfl, ro1, p1, h1.keep (((((Mv.refl _ _ _).setCell hR _).setCell hR _).setCell hR _).setCell hR _) (by simp), (((m1.setNew n0 _).setNew n0 _).setNew n0 _).setNew n0 _⟩
set_option maxRecDepth 100000 in
set_option maxHeartbeats 2000000 in
theorem ddo_15nil {ro : Nat → Nat} {r : Nat} {w : World} {M C tag vc p} {m : Ms} (h : DM ro r w M C tag vc m.dm p) (hl : m.stack.length ≤ 64) (n : Int) (x : Nat) (e1 : m.ecode = 0) (e2 : m.err = 0) (hk : m.calls = []) :
    Calls Tryz.prog 116 #[ptr M, insV 15 n x] w (DoD ro r w M C tag vc (m.ends 1 0 0)) := by
  have em : (m.ends 1 0 0) = (({ m with how := 1 } : Ms), askEnd) := by unfold Ms.ends; rw [show ({ m with how := 1, ecode := 0, err := 0 } : Ms) = { m with how := 1, ecode := m.ecode, err := m.err } by rw [e1, e2]]
  rw [em]
  clear em
  have k0 := h
  obtain ⟨k1, m01⟩ := k0.put (d' := { m.dm with how := 1 }) 14 (.int .i64 1) rfl rfl rfl rfl rfl rfl rfl rfl
  have M1 := Lib.hid (show Mv ro [r, r + 4] w ro _ from (m01.mono (by simp)))
  have K1 := Lib.hid k1
  clear k1 m01 k0
  have hc := h.blk.cell
  have hf := h.blk.free
  have hlt := h.blk.lt
  unfold dcells at hc
  obtain ⟨ka, kc, ek, _⟩ := h.calls.slice
  rw [show m.dm.calls = m.calls from rfl, hk] at ek
  rw [ek] at hc
  clear h
  have sf := run_store_float
  simp only [ptr, insV, Ask.v, askNone, askEnd, DoD] at *
  go_enter Tryz.func116, Tryz.ntmps116
  go_wp2
  refine bodyPost_ret (v := .agg #[.int .i64 4, .int .i64 0, .float .f64 0, .bool false]) (by simp [results, Tryz.results116, go_sem]) rfl ?_
  exact ⟨rfl, ro, p, K1.out.keep0 (((Mv.refl _ _ _).alloc _).alloc _), (M1.out.alloc _).alloc _⟩
set_option maxRecDepth 100000 in
set_option maxHeartbeats 2000000 in
theorem ddo_16 {ro : Nat → Nat} {r : Nat} {w : World} {M C tag vc p} {m : Ms} (h : DM ro r w M C tag vc m.dm p) (hl : m.stack.length ≤ 64) (n : Int) (x : Nat) (q : Ms × Ask) (CW : ∀ ro' W, DM ro' r W M C tag vc m.dm p → Calls Tryz.prog 146 #[ptr M] W (DUp ro' r W M C tag vc q.1.dm q.2.v)) :
    Calls Tryz.prog 116 #[ptr M, insV 16 n x] w (DoD ro r w M C tag vc q) := by
  have KW := CW _ _ (h.keep0 (box_mv ro r w 16 n x))
  have rx := box_res ro r w 16 n x
  have M0 := Lib.hid (box_mv ro r w 16 n x)
  obtain ⟨m', a1, a2, a3, a4⟩ := q
  clear CW h
  unfold boxW at KW rx
  have sf := run_store_float
  simp only [ptr, insV, Ask.v, askNone, askEnd, DoD] at *
  go_enter Tryz.func116, Tryz.ntmps116
  go_wp2_with (go_at_call 146; refine KW.mono ?_; rintro e w1 ⟨rfl, ro1, p1, h1, m1⟩; have r1 := rx.keep m1 (by simp); have bc := r1.cell; have bf := r1.free)
  refine bodyPost_ret (v := .agg #[.int .i64 a1, .int .i64 a2, .float .f64 a3, .bool a4]) (by simp [results, Tryz.results116, go_sem, bc, bf]) rfl ?_
  have hR : ro1 (w.heap.size + 1) ∈ [r + 12] := by rw [r1.role]; simp
  have n0 := Nat.le_succ w.heap.size
  exact ⟨rfl, ro1, p1, h1.keep (((((Mv.refl _ _ _).setCell hR _).setCell hR _).setCell hR _).setCell hR _) (by simp), ((((dR_mv M0.out m1).setNew n0 _).setNew n0 _).setNew n0 _).setNew n0 _⟩
set_option maxRecDepth 100000 in
set_option maxHeartbeats 2000000 in
theorem ddo_17 {ro : Nat → Nat} {r : Nat} {w : World} {M C tag vc p} {m : Ms} (h : DM ro r w M C tag vc m.dm p) (hl : m.stack.length ≤ 64) (n : Int) (x : Nat) (q : Ms × Ask) (CW : ∀ ro' W, DM ro' r W M C tag vc m.dm p → Calls Tryz.prog 147 #[ptr M] W (DUp ro' r W M C tag vc q.1.dm q.2.v)) :
    Calls Tryz.prog 116 #[ptr M, insV 17 n x] w (DoD ro r w M C tag vc q) := by
  have KW := CW _ _ (h.keep0 (box_mv ro r w 17 n x))
  have rx := box_res ro r w 17 n x
  have M0 := Lib.hid (box_mv ro r w 17 n x)
  obtain ⟨m', a1, a2, a3, a4⟩ := q
  clear CW h
  unfold boxW at KW rx
  have sf := run_store_float
  simp only [ptr, insV, Ask.v, askNone, askEnd, DoD] at *
  go_enter Tryz.func116, Tryz.ntmps116
  go_wp2_with (go_at_call 147; refine KW.mono ?_; rintro e w1 ⟨rfl, ro1, p1, h1, m1⟩; have r1 := rx.keep m1 (by simp); have bc := r1.cell; have bf := r1.free)
  refine bodyPost_ret (v := .agg #[.int .i64 a1, .int .i64 a2, .float .f64 a3, .bool a4]) (by simp [results, Tryz.results116, go_sem, bc, bf]) rfl ?_
  have hR : ro1 (w.heap.size + 1) ∈ [r + 12] := by rw [r1.role]; simp
  have n0 := Nat.le_succ w.heap.size
  exact ⟨rfl, ro1, p1, h1.keep (((((Mv.refl _ _ _).setCell hR _).setCell hR _).setCell hR _).setCell hR _) (by simp), ((((dR_mv M0.out m1).setNew n0 _).setNew n0 _).setNew n0 _).setNew n0 _⟩
end Go.Proofs.YtphaeodcomgffaaGreat
