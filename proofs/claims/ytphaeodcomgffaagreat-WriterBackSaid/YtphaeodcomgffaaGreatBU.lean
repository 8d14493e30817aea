import Derived.Test.YtphaeodcomgffaaGreatS2
import Derived.Maps.OwnSet
import Derived.Deep.RegionLaw
set_option linter.unusedVariables false
set_option linter.unusedSimpArgs false
namespace Go.Proofs.YtphaeodcomgffaaGreat
open Go.RowKit Go.ChangeMaps

/-- The entries of a map from whole numbers to numbers, in their order. -/
def ents (l : List (Int × Nat)) : List (Value × Value) := l.map fun t => (.int .i64 t.1, .float .f64 t.2)
/-- Block b is the map that holds l. -/
structure MapB (ro : Nat → Nat) (r : Nat) (w : World) (b : Nat) (l : List (Int × Nat)) : Prop where
  heap : ∃ es clock, w.heap[b]? = some (.map es clock) ∧ es.toList.map (fun e => (e.key, e.val)) = ents l
  role : ro b = r
theorem MapB.lt {ro r w b l} (h : MapB ro r w b l) : b < w.heap.size := by obtain ⟨es, c, hb, _⟩ := h.heap; exact lt_of_heap hb
theorem MapB.keep {ro ro' : Nat → Nat} {r : Nat} {w w' : World} {b l R} (h : MapB ro r w b l) (m : Mv ro R w ro' w') (hr : r ∉ R) : MapB ro' r w' b l := by
  refine ⟨?_, (m.ext b h.lt).trans h.role⟩
  obtain ⟨es, c, hb, he⟩ := h.heap
  exact ⟨es, c, (m.block b (lt_of_heap hb) (by rw [h.role]; exact hr)).trans hb, he⟩

def findL (c : Int) : List (Int × Nat) → Nat → Option (Nat × Value)
  | [], _ => none
  | t :: l, i => if t.1 = c then some (i, .float .f64 t.2) else findL c l (i + 1)
theorem findNow_ents (c : Int) : ∀ (es : List MapEntry) (l : List (Int × Nat)) (i : Nat), es.map (fun e => (e.key, e.val)) = ents l → Instr.findNow (.int .i64) (.int .i64 c) es i = some (findL c l i)
  | [], [], i, _ => rfl
  | [], t :: l, i, h => by simp [ents] at h
  | e :: es, [], i, h => by simp [ents] at h
  | e :: es, t :: l, i, h => by
    simp only [ents, List.map_cons, List.cons.injEq, Prod.mk.injEq] at h
    obtain ⟨⟨h1, h2⟩, h3⟩ := h
    unfold Instr.findNow findL
    rw [h1]
    simp only [Instr.sameNow, if_true]
    by_cases e1 : t.1 = c
    · rw [if_pos e1, e1, h2]; simp
    · rw [if_neg e1]
      have : (c == t.1) = false := by simpa using fun e => e1 e.symm
      rw [this]
      exact findNow_ents c es l (i + 1) h3
theorem findL_wrote (c : Int) : ∀ (l : List (Int × Nat)) (i : Nat), (findL c l i).map (·.2) = (wrote l c).map (fun x => Value.float .f64 x)
  | [], i => rfl
  | t :: l, i => by
    unfold findL wrote
    by_cases e : t.1 = c
    · simp [e]
    · simp only [if_neg e, List.find?_cons]
      have : (t.1 == c) = false := by simpa using e
      rw [this]
      exact findL_wrote c l (i + 1)

theorem underMap : Tryz.prog.underlying 228 = some (.map 3 74) := by kernel_rfl
theorem underInt : Tryz.prog.underlying 3 = some (.int .i64) := by kernel_rfl
theorem zeroFloat (w : World) : (zeroValue 74).run Tryz.prog w = .ok (.float .f64 0) w := by kernel_rfl
theorem run_checkKey_int (e : Bool) (c : Int) (w : World) : (Instr.checkKey e 10000 3 (.int .i64 c)).run Tryz.prog w = .ok () w := by
  unfold Instr.checkKey
  simp [Sem.run_bind, run_underlying underInt w]
theorem run_findKey {es : List MapEntry} {l : List (Int × Nat)} (h : es.map (fun e => (e.key, e.val)) = ents l) (c : Int) (w : World) : (Instr.findKey 3 (.int .i64 c) es).run Tryz.prog w = .ok (findL c l 0) w := by
  unfold Instr.findKey
  simp [Sem.run_bind, run_underlying underInt w, findNow_ents c es l 0 h]
theorem run_lookup_ok {ro : Nat → Nat} {r : Nat} {w : World} {b : Nat} {l : List (Int × Nat)} (h : MapB ro r w b l) (c : Int) :
    (Instr.lookup 228 (.map (some b)) (.int .i64 c) true).run Tryz.prog w = .ok (.tuple #[.float .f64 ((wrote l c).getD 0), .bool (wrote l c).isSome]) w := by
  obtain ⟨es, clk, hb, he⟩ := h.heap
  have hf := findL_wrote c l 0
  unfold Instr.lookup
  simp only [Sem.run_bind, run_underlying underMap w, Result.andThen_ok, MapKept.run_getObj_map hb, Sem.run_pure, run_checkKey_int, run_findKey he]
  cases hq : findL c l 0 with
  | none =>
    rw [hq] at hf
    have : wrote l c = none := by simpa using hf.symm
    simp [this, Sem.run_bind, zeroFloat]
  | some p =>
    rw [hq] at hf
    obtain ⟨x, hx⟩ : ∃ x, wrote l c = some x := by cases hw : wrote l c with
      | none => rw [hw] at hf; simp at hf
      | some x => exact ⟨x, rfl⟩
    rw [hx] at hf
    simp at hf
    simp [hx, hf, Sem.run_bind]

/-- What a store does to the entries. -/
def putL (l : List (Int × Nat)) (c : Int) (x : Nat) : List (Int × Nat) := if (wrote l c).isSome then rewrite l c x else l ++ [(c, x)]
theorem rewrite_none {l : List (Int × Nat)} {c : Int} (x : Nat) (h : ∀ t ∈ l, t.1 ≠ c) : rewrite l c x = l := by
  unfold rewrite
  rw [List.map_congr_left (g := id) fun t ht => by simp [h t ht]]
  simp
theorem modify_ents (c : Int) (x : Nat) : ∀ (es : List MapEntry) (l : List (Int × Nat)) (i k : Nat) (v : Value), es.map (fun e => (e.key, e.val)) = ents l → (l.map (·.1)).Nodup → findL c l k = some (i, v) →
    k ≤ i ∧ (es.modify (i - k) fun e => { e with key := .int .i64 c, val := .float .f64 x }).map (fun e => (e.key, e.val)) = ents (rewrite l c x)
  | [], [], i, k, v, _, _, h => by simp [findL] at h
  | [], t :: l, i, k, v, h, _, _ => by simp [ents] at h
  | e :: es, [], i, k, v, h, _, _ => by simp [ents] at h
  | e :: es, t :: l, i, k, v, h, hn, hf => by
    simp only [ents, List.map_cons, List.cons.injEq, Prod.mk.injEq] at h
    obtain ⟨⟨h1, h2⟩, h3⟩ := h
    simp only [List.map_cons, List.nodup_cons] at hn
    unfold findL at hf
    by_cases e1 : t.1 = c
    · rw [if_pos e1] at hf
      cases hf
      refine ⟨Nat.le_refl _, ?_⟩
      have hr : rewrite l c x = l := rewrite_none x fun s hs e2 => hn.1 (List.mem_map.2 ⟨s, hs, e2.trans e1.symm⟩)
      rw [Nat.sub_self]
      simp only [List.modify_zero_cons, List.map_cons, h3]
      show _ = ents ((if t.1 = c then (c, x) else t) :: rewrite l c x)
      rw [if_pos e1, hr]
      rfl
    · rw [if_neg e1] at hf
      obtain ⟨h4, h5⟩ := modify_ents c x es l i (k + 1) v h3 hn.2 hf
      refine ⟨by omega, ?_⟩
      rw [show i - k = (i - (k + 1)) + 1 by omega]
      simp only [List.modify_succ_cons, List.map_cons, h1, h2]
      rw [h5]
      show _ = ents ((if t.1 = c then (c, x) else t) :: rewrite l c x)
      rw [if_neg e1]
      rfl
theorem findL_none {c : Int} {l : List (Int × Nat)} {k : Nat} : findL c l k = none ↔ (wrote l c).isSome = false := by
  have h := findL_wrote c l k
  cases h1 : findL c l k <;> cases h2 : wrote l c <;> rw [h1, h2] at h <;> simp at h ⊢
theorem findL_key {c : Int} : ∀ {l : List (Int × Nat)} {k i : Nat} {v : Value} {es : List MapEntry}, es.map (fun e => (e.key, e.val)) = ents l → findL c l k = some (i, v) → (es[i - k]?).map (·.key) = some (.int .i64 c) ∧ k ≤ i
  | [], k, i, v, es, _, h => by simp [findL] at h
  | t :: l, k, i, v, [], h, _ => by simp [ents] at h
  | t :: l, k, i, v, e :: es, h, hf => by
    simp only [ents, List.map_cons, List.cons.injEq, Prod.mk.injEq] at h
    obtain ⟨⟨h1, h2⟩, h3⟩ := h
    unfold findL at hf
    by_cases e1 : t.1 = c
    · rw [if_pos e1] at hf
      cases hf
      simp [h1, e1]
    · rw [if_neg e1] at hf
      obtain ⟨h4, h5⟩ := findL_key h3 hf
      refine ⟨?_, by omega⟩
      rw [show i - k = (i - (k + 1)) + 1 by omega]
      simpa using h4
theorem run_mapUpdate {ro : Nat → Nat} {r : Nat} {w : World} {b : Nat} {l : List (Int × Nat)} (h : MapB ro r w b l) (hn : (l.map (·.1)).Nodup) (c : Int) (x : Nat) :
    ∃ w', (Instr.mapUpdate 228 (.map (some b)) (.int .i64 c) (.float .f64 x)).run Tryz.prog w = .ok () w' ∧ MapB ro r w' b (putL l c x) ∧ Mv ro [r] w ro w' := by
  obtain ⟨es, clk, hb, he⟩ := h.heap
  have mv : ∀ o, Mv ro [r] w ro (setBlock w b o) := fun o => ⟨fun _ _ => rfl, rfl, rfl, rfl, by simp [setBlock], fun k hk hr => heap_setBlock_other hb _ (fun e => by subst e; exact hr (by simp [h.role]))⟩
  cases hq : findL c l 0 with
  | none =>
    have hw := findL_none.1 hq
    refine ⟨setBlock w b (.map (es.push ⟨.int .i64 c, .float .f64 x, clk⟩) (clk + 1)), ?_, ⟨⟨_, _, heap_setBlock_same hb _, ?_⟩, h.role⟩, mv _⟩
    · unfold Instr.mapUpdate
      simp [Sem.run_bind, run_underlying underMap w, MapKept.run_getObj_map hb, run_checkKey_int, run_findKey he, hq, MapKept.run_setObj_map _ hb, setBlock]
    · unfold putL
      simp only [hw, Bool.false_eq_true, if_false]
      simp [he, ents]
  | some p =>
    obtain ⟨i, v⟩ := p
    have hw : (wrote l c).isSome = true := by
      cases hs : (wrote l c).isSome
      · rw [findL_none.2 hs] at hq; cases hq
      · rfl
    have hk := (findL_key he hq).1
    have hm := (modify_ents c x es.toList l i 0 v he hn hq).2
    rw [Nat.sub_zero] at hk hm
    have hst : ∀ W, (Instr.keyThatStays (.int .i64 c) (.int .i64 c)).run Tryz.prog W = .ok (.int .i64 c) W := fun W => by
      unfold Instr.keyThatStays
      simp [Instr.sameBits]
    have hk' : (Option.map (fun x => x.key) es[i]?) = some (.int .i64 c) := by simpa using hk
    refine ⟨setBlock w b (.map (es.modify i fun e => { e with key := .int .i64 c, val := .float .f64 x }) clk), ?_, ⟨⟨_, _, heap_setBlock_same hb _, ?_⟩, h.role⟩, mv _⟩
    · unfold Instr.mapUpdate
      simp [Sem.run_bind, run_underlying underMap w, MapKept.run_getObj_map hb, run_checkKey_int, run_findKey he, hq, hk', hst, MapKept.run_setObj_map _ hb, setBlock]
    · unfold putL
      rw [if_pos hw, Array.toList_modify]
      exact hm
end Go.Proofs.YtphaeodcomgffaaGreat
set_option linter.unusedVariables false
set_option linter.unusedSimpArgs false
namespace Go.Proofs.YtphaeodcomgffaaGreat
open Go.RowKit Go.ChangeMaps

/-- What a transaction has written: the block B, its map D, the row of its order. -/
structure BufR (ro : Nat → Nat) (r : Nat) (w : World) (B D : Nat) (v : Value) (l : List (Int × Nat)) (most : Int) : Prop where
  blk : Blk ro r w B #[.map (some D), v, .int .i64 most] 230
  map : MapB ro (r + 1) w D l
  own : OwnL cI ro (r + 2) w 3 1 v (l.map (·.1))
theorem BufR.keep {ro ro' : Nat → Nat} {r : Nat} {w w' : World} {B D v l most R} (h : BufR ro r w B D v l most) (m : Mv ro R w ro' w') (hr : r ∉ R) (hr1 : r + 1 ∉ R) (hr2 : r + 2 ∉ R) : BufR ro' r w' B D v l most := ⟨h.blk.keep m hr, h.map.keep m hr1, h.own.keep m hr2⟩

set_option maxRecDepth 100000 in
set_option maxHeartbeats 1000000 in
theorem bget_walk (ro : Nat → Nat) (r : Nat) (w : World) (B D : Nat) (v : Value) (l : List (Int × Nat)) (most c : Int) (h : BufR ro r w B D v l most) :
    Calls Tryz.prog 204 #[.pointer (some ⟨B, 0, none⟩), .int .i64 c] w fun e w' => e = .returned (.tuple #[.float .f64 ((wrote l c).getD 0), .bool (wrote l c).isSome]) ∧ w' = w := by
  have hc := h.blk.cell
  have hl := run_lookup_ok h.map c
  obtain ⟨x, hx⟩ : ∃ x, x = (wrote l c).getD 0 := ⟨_, rfl⟩
  obtain ⟨y, hy⟩ : ∃ y, y = (wrote l c).isSome := ⟨_, rfl⟩
  rw [← hx, ← hy] at hl ⊢
  clear h hx hy
  go_enter Tryz.func204, Tryz.ntmps204
  go_wp2
  go_ret2
  exact ⟨rfl, rfl⟩

def BMade (ro : Nat → Nat) (r : Nat) (w : World) (most : Int) (e : Ending) (w' : World) : Prop :=
  ∃ B D ro', e = .returned (.tuple #[ptr B, .int .i64 0]) ∧ BufR ro' r w' B D (.slice none 0 0) [] most ∧ Mv ro [] w ro' w'
set_option maxRecDepth 100000 in
set_option maxHeartbeats 1000000 in
theorem bnew_walk (ro : Nat → Nat) (r : Nat) (w : World) (most : Int) (h0 : 1 ≤ most) (h1 : most ≤ 32) :
    Calls Tryz.prog 123 #[.int .i64 most] w (BMade ro r w most) := by
  have hmm := @run_makeMap Tryz.prog
  go_enter Tryz.func123, Tryz.ntmps123
  go_wp2
  go_ret2
  have m2 := ((((Mv.refl ro [] w).alloc (.map #[] 0)).alloc (.cells #[.map (some w.heap.size), .slice none 0 0, .int .i64 most] 230)).give (g := w.heap.size) (r := r + 1) (Nat.le_refl _)).give (g := w.heap.size + 1) (r := r) (by omega)
  refine ⟨w.heap.size + 1, w.heap.size, _, rfl, ⟨⟨by simpa using heap_alloc_new (w.alloc (.map #[] 0)) _, setRo_at _ _ _⟩, ⟨⟨#[], 0, ?_, rfl⟩, (setRo_ne (by omega)).trans (setRo_at _ _ _)⟩, OwnL.nil _ _ _ _ _ _⟩, m2⟩
  rw [Below.heap_alloc _ _ _ (by simp)]
  exact heap_alloc_new _ _

theorem step_mapUpd {P : Program} {w : World} {ops : Array Oper} {o : Oper} {a : Act} {K : Act → World → Prop} {Q : Exit → Act → World → Prop} {E : Prop} (hgd : o.guard = none) (t : TypeId) (m x v : Operand) (ho : o.op = .mapUpdate t m x v)
    (vm vx vv : Value) (hm : a.eval m = vm) (hx : a.eval x = vx) (hv : a.eval v = vv) (w' : World) (hr : (Instr.mapUpdate t vm vx vv).run P w = .ok () w') (h : K (a.put o.dst undef) w') :
    if Region.wanted o (yielded ops a.tmps) = true then Oper.wp P o a w K Q else E := by
  have hw : Region.wanted o (yielded ops a.tmps) = true := by simp [Region.wanted, hgd]
  rw [if_pos hw]
  subst hm; subst hx; subst hv
  unfold Oper.wp
  simp [execOp, ho, hr, Result.andThen]
  exact h

theorem wrote_none_mem {l : List (Int × Nat)} {c : Int} (h : wrote l c = none) : ∀ t ∈ l, t.1 ≠ c := fun t ht e => by
  unfold wrote at h
  simp only [Option.map_eq_none_iff, List.find?_eq_none] at h
  exact h t ht (by simpa using e)
theorem rewrite_fst (l : List (Int × Nat)) (c : Int) (x : Nat) : (rewrite l c x).map (·.1) = l.map (·.1) := by
  unfold rewrite
  rw [List.map_map]
  apply List.map_congr_left
  intro t _
  simp only [Function.comp]
  split
  · rename_i h; exact h.symm
  · rfl

/-- What Put does. -/
def BPut (ro : Nat → Nat) (r : Nat) (w : World) (B D : Nat) (most : Int) : Option (List (Int × Nat) × Bool) → Ending → World → Prop
  | none, e, w' => e = .returned (.tuple #[.bool false, .int .i64 70]) ∧ ∃ q, w' = w.drewN q
  | some p, e, w' => e = .returned (.tuple #[.bool p.2, .int .i64 0]) ∧ ∃ ro' v', BufR ro' r w' B D v' p.1 most ∧ Mv ro [r, r + 1, r + 2] w ro' w'

set_option maxRecDepth 100000 in
set_option maxHeartbeats 1000000 in
theorem bput_walk (ro : Nat → Nat) (r : Nat) (w : World) (B D : Nat) (v : Value) (l : List (Int × Nat)) (most c : Int) (x : Nat) (h : BufR ro r w B D v l most) (hn : (l.map (·.1)).Nodup) (hl : (l.length : Int) ≤ most) (hm : most ≤ 32) :
    Calls Tryz.prog 206 #[.pointer (some ⟨B, 0, none⟩), .int .i64 c, .float .f64 x] w (BPut ro r w B D most (putS most l c (fx x))) := by
  have hc := h.blk.cell
  have hf := h.blk.free
  have hlk := run_lookup_ok h.map c
  unfold putS
  cases hw : wrote l c with
  | some y =>
    rw [hw] at hlk
    simp only [Option.getD_some, Option.isSome_some] at hlk ⊢
    obtain ⟨w6, e6, b6, m6⟩ := run_mapUpdate (h.map.keep (Mv.refl ro [] w).drew (by simp)) hn c (fx x)
    have hp : putL l c (fx x) = rewrite l c (fx x) := by unfold putL; rw [hw]; rfl
    rw [hp] at b6
    have H := Lib.hid h
    clear hw hp hn h
    go_enter Tryz.func206, Tryz.ntmps206
    go_wp2
    refine wp_region_noPanic ?_
    go_region_law (go_simp; go_at_call 92; refine (fix_walk _ _).mono ?_; rintro e w5 ⟨rfl, rfl⟩)
    all_goals
      refine NoPanic.normal ?_
      go_wp2
      go_ret2
      refine ⟨rfl, ro, v, ⟨H.out.blk.keep ((Mv.refl ro [r + 1] w).drew.trans m6) (by simp), b6, ?_⟩, ((Mv.refl ro _ w).drew.trans m6).mono (by simp)⟩
      rw [rewrite_fst]
      exact H.out.own.keep ((Mv.refl ro [r + 1] w).drew.trans m6) (by simp)
  | none =>
    rw [hw] at hlk
    simp only [Option.getD_none, Option.isSome_none] at hlk ⊢
    obtain ⟨p, cp, rfl⟩ := h.own.form
    rw [List.length_map] at h hc
    by_cases h1 : (l.length : Int) = most
    · rw [if_pos h1]
      have h1' : ((l.length : Int) == most) = true := by simpa using h1
      clear h1 hw
      go_enter Tryz.func206, Tryz.ntmps206
      go_wp2
      go_quiet (fail)
      go_wp2
      go_ret2
      exact ⟨rfl, _, rfl⟩
    · rw [if_neg h1]
      have h1' : ((l.length : Int) == most) = false := by simpa using h1
      have hn6 : l.length < 32 := by omega
      have MU := fun ro' W (m : MapB ro' (r + 1) W D l) => run_mapUpdate m hn c (fx x)
      have hp : putL l c (fx x) = l ++ [(c, fx x)] := by unfold putL; rw [hw]; rfl
      obtain ⟨i0, hi0, hz0, hs0, hby0⟩ := info_three infoI
      have I0 := Lib.hid hi0
      have HP := Lib.hid hp
      clear h1 hi0 hp hw hn
      go_enter Tryz.func206, Tryz.ntmps206
      go_wp2
      go_quiet (fail)
      go_wp2_with (at_builtin; refine wpList_append_lies _ rfl (.tmp 35) (.tmp 37) 141 rfl 0 3 i0 _ 1 8 underI I0.out hz0 hs0 hby0 rfl (by decide) (.slice p l.length cp) l.length ((l.map (·.1)).flatMap cI) rfl (by have := (h.own.keep (((Mv.refl ro [] w).drewN nq).alloc (.cells #[.int .i64 c] 3)) (by simp)).own; rwa [List.length_map] at this) _ 1 1 [.int .i64 c] rfl rfl (World.news_of_block (heap_alloc_new _ _)) (by simp [Value.oneCell']) (by decide) (by unfold maxLen; omega) (by omega) (Nat.zero_le _) _ rfl ?_; intro g cap w6 h2 h3 h4 h5; obtain ⟨o6, m6⟩ := grown_own (news := [c]) h.own (((Mv.refl ro [] w).drewN nq).alloc _) (by simp) (by simpa [cI] using h2) (by simp) h3 h4 rfl; have b6 := h.blk.keep m6 (by simp); have mp6 := h.map.keep m6 (by simp); have hc6 := b6.cell; have hf6 := b6.free; clear hc hf h2 h3 h4 h5)
      obtain ⟨W7, hW7⟩ : ∃ W7, W7 = w6.setCell ⟨B, 1, none⟩ (.slice (some ⟨g, 0, none⟩) (l.length + 1) cap) := ⟨_, rfl⟩
      have m7 : Mv (setRo ro ((w.drewN nq).alloc (.cells #[.int .i64 c] 3)).heap.size (r + 2)) [r] w6 (setRo ro ((w.drewN nq).alloc (.cells #[.int .i64 c] 3)).heap.size (r + 2)) W7 := by
        rw [hW7]; exact (Mv.refl _ _ _).setCell (by rw [b6.role]; simp) _
      have o7 := o6.keep m7 (by simp)
      have mp7 := (mp6.keep m7 (by simp)).keep (Mv.refl _ [] W7).drew (by simp)
      have b7 := b6.put (i := 1) (v := .slice (some ⟨g, 0, none⟩) (l.length + 1) cap) rfl
      rw [← hW7] at b7 ⊢
      obtain ⟨w8, e8, b8, m8⟩ := MU _ _ mp7
      have hc7 := b7.cell
      rw [HP.out] at b8
      have HH := Lib.hid h
      clear hc6 hf6 hW7 MU h
      refine wp_region_noPanic ?_
      go_region_law (go_simp; go_at_call 92; refine (fix_walk _ _).mono ?_; rintro e w5 ⟨rfl, rfl⟩)
      all_goals
        refine NoPanic.normal ?_
        go_wp2
        go_ret2
        refine ⟨rfl, _, _, ⟨b7.keep ((Mv.refl _ [r + 1] W7).drew.trans m8) (by simp), b8, ?_⟩, ((m6.mono (by simp)).trans (m7.mono (by simp))).trans (((Mv.refl _ [r + 1] W7).drew.trans m8).mono (by simp))⟩
        rw [List.map_append]
        exact o7.keep ((Mv.refl _ [r + 1] W7).drew.trans m8) (by simp)
end Go.Proofs.YtphaeodcomgffaaGreat
