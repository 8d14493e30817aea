import Derived.Test.YtphaeodcomgffaaGreatLB
import Derived.Test.YtphaeodcomgffaaGreatRR
import Derived.Test.YtphaeodcomgffaaGreatQC
import Derived.Test.YtphaeodcomgffaaGreatQF
import Derived.Test.YtphaeodcomgffaaGreatDD
set_option linter.unusedVariables false
set_option linter.unusedSimpArgs false
namespace Go.Proofs.YtphaeodcomgffaaGreat
open Go.RowKit

/-! The document's words. -/
set_option maxRecDepth 100000 in
set_option maxHeartbeats 1000000 in
theorem wload_walk {ro : Nat → Nat} {r : Nat} {w : World} {WB : Nat} {v : Value} {ws : List Nat} {cnt : Int} (h : WrdIs ro r w WB v ws cnt) (k : Nat) (hk : k < ws.length) (hl : ws.length ≤ 4096) (c0 : 0 ≤ cnt) (c1 : cnt ≤ 1000000000) :
    Calls Tryz.prog 72 #[ptr WB, .int .i64 k] w fun e w' => e = .returned (.int .u64 (ws.getD k 0)) ∧ WrdIs ro r w' WB v ws (cnt + 1) ∧ Mv ro [r] w ro w' := by
  obtain ⟨g, c, rfl, hg, -, -⟩ := h.own.pos (by omega)
  have hc := h.blk.cell
  have hf := h.blk.free
  have hx := h.own.at1 cU_len hk
  simp only [cU, List.getElem?_cons_zero] at hx
  rw [show ws.getD k 0 = ws[k] by rw [List.getD_eq_getElem?_getD, List.getElem?_eq_getElem hk]; rfl]
  generalize hy : ws[k] = y at *
  have hk' : (k : Int) < ws.length := by omega
  have hne : g ≠ WB := by
    intro e; subst e
    have := h.blk.role
    omega
  have hx1 : (w.setCell ⟨WB, 1, none⟩ (.int .i64 (cnt + 1))).cell? ⟨g, k, none⟩ = some (.int .u64 y) := by
    rw [← hx]
    exact World.cell?_of_block (Below.heap_setCell _ _ _ _ (by simpa using hne))
  have H := Lib.hid h
  simp only [ptr]
  clear h hy hne
  go_enter Tryz.func72, Tryz.ntmps72
  go_wp2
  go_ret
  have hR : ro WB ∈ [r] := by rw [H.out.blk.role]; simp
  have mv : Mv ro [r] w ro (w.setCell ⟨WB, 1, none⟩ (.int .i64 (cnt + 1))) := (Mv.refl ro [r] w).setCell hR _
  exact ⟨rfl, ⟨H.out.blk.put rfl, H.out.own.keep mv (by simp)⟩, mv⟩
set_option maxRecDepth 100000 in
set_option maxHeartbeats 1000000 in
theorem wstore_walk {ro : Nat → Nat} {r : Nat} {w : World} {WB : Nat} {v : Value} {ws : List Nat} {cnt : Int} (h : WrdIs ro r w WB v ws cnt) (k : Nat) (y : Nat) (hk : k < ws.length) (hl : ws.length ≤ 4096) (c0 : 0 ≤ cnt) (c1 : cnt ≤ 1000000000) :
    Calls Tryz.prog 73 #[ptr WB, .int .i64 k, .int .u64 y] w fun e w' => e = .returned (.tuple #[]) ∧ WrdIs ro r w' WB v (ws.set k y) (cnt + 1) ∧ Mv ro [r, r + 1] w ro w' := by
  obtain ⟨g, c, rfl, hg, -, -⟩ := h.own.pos (by omega)
  have hc := h.blk.cell
  have hf := h.blk.free
  have hx := h.own.at1 cU_len hk
  simp only [cU, List.getElem?_cons_zero] at hx
  generalize hy : ws[k] = y0 at *
  have hk' : (k : Int) < ws.length := by omega
  have hne : g ≠ WB := by
    intro e; subst e
    have := h.blk.role
    omega
  have hx1 : (w.setCell ⟨WB, 1, none⟩ (.int .i64 (cnt + 1))).cell? ⟨g, k, none⟩ = some (.int .u64 y0) := by
    rw [← hx]
    exact World.cell?_of_block (Below.heap_setCell _ _ _ _ (by simpa using hne))
  have hg1 : w.frozen? ⟨g, k, none⟩ = false := Own.free (n := ws.length) (by have := h.own; unfold OwnL at this; exact this) k
  have hg2 : (w.setCell ⟨WB, 1, none⟩ (.int .i64 (cnt + 1))).frozen? ⟨g, k, none⟩ = false := by
    rw [← hg1]
    exact World.frozen?_of_block (Below.heap_setCell _ _ _ _ (by simpa using hne))
  have H := Lib.hid h
  simp only [ptr]
  clear h hy hne
  go_enter Tryz.func73, Tryz.ntmps73
  go_wp2
  go_end0
  have hR : ro WB ∈ [r, r + 1] := by rw [H.out.blk.role]; simp
  have hG : ro g ∈ [r + 1] := by rw [hg]; simp
  have mv : Mv ro [r] w ro (w.setCell ⟨WB, 1, none⟩ (.int .i64 (cnt + 1))) := (Mv.refl ro [r] w).setCell (by rw [H.out.blk.role]; simp) _
  have o1 := H.out.own.keep mv (by simp)
  have b1 : Blk ro r (w.setCell ⟨WB, 1, none⟩ (.int .i64 (cnt + 1))) WB #[.slice (some ⟨g, 0, none⟩) ws.length c, .int .i64 (cnt + 1)] 73 := H.out.blk.put rfl
  have m2 : Mv ro [r + 1] (w.setCell ⟨WB, 1, none⟩ (.int .i64 (cnt + 1))) ro ((w.setCell ⟨WB, 1, none⟩ (.int .i64 (cnt + 1))).setCell ⟨g, k, none⟩ (.int .u64 y)) := (Mv.refl ro [r + 1] _).setCell hG _
  exact ⟨rfl, ⟨b1.keep m2 (by simp), o1.setU k y hk⟩, (mv.mono (by simp)).trans (m2.mono (by simp))⟩
set_option maxRecDepth 100000 in
theorem dnumber_walk (n : Nat) (w : World) : Calls Tryz.prog 113 #[.int .u64 n] w fun e w' => e = .returned (.float .f64 (fx n)) ∧ w' = w := by
  have e38 := run_frombits
  go_enter Tryz.func113, Tryz.ntmps113
  go_wp2_with (go_at_call 105; refine (rfix_walk _ _).mono ?_; rintro e w' ⟨rfl, rfl⟩)
  go_ret
  exact ⟨rfl, rfl⟩
end Go.Proofs.YtphaeodcomgffaaGreat
set_option linter.unusedVariables false
set_option linter.unusedSimpArgs false
namespace Go.Proofs.YtphaeodcomgffaaGreat
open Go.RowKit

/-! The document's reader, step by step, beside the program's. -/
def Dr.read (C : Cfg) (words : List Nat) (d : Dr) (m : Ms) : Dr × Ms :=
  if d.sub = 0 then ({ d with ver := words.getD (3 + C.threads + 3 * d.cell).toNat 0, sub := if d.stamp < words.getD (3 + C.threads + 3 * d.cell).toNat 0 then 3 else 1 }, m)
  else if d.sub = 1 then ({ d with now := words.getD (3 + C.threads + 3 * d.cell + 1).toNat 0, sub := 2 }, m)
  else if d.sub = 2 then (if words.getD (3 + C.threads + 3 * d.cell).toNat 0 = d.ver then ({ d with sub := 3, cell := -1 }, (m.give (fx d.now)).1) else ({ d with sub := 3 }, m))
  else ({ d with cell := -1 }, (m.give (fx (words.getD (3 + C.threads + 3 * d.cell + 2).toNat 0))).1)
def Dr.more (d : Dr) : Dr := { d with steps := d.steps + 1 }
/-- A step: the reader, its machine, the words, whether there was an access. -/
def Dr.step (C : Cfg) (tag : Int) (code : List Ins) (th : Int) (words : List Nat) (d : Dr) (m : Ms) : Dr × Ms × List Nat × Bool :=
  if d.part = 1 then
    if d.sub = 0 then ({ d.more with claim := words.getD 2 0, sub := 1 }, m, words, true)
    else if d.sub = 1 then ({ d.more with sub := 2 }, m, words.set (3 + th.toNat) ((d.claim + 1) % 18446744073709551616), true)
    else ({ d.more with stamp := words.getD 2 0, part := 2 }, m, words, true)
  else if d.part = 3 then ({ d.more with part := 4 }, m, words.set (3 + th.toNat) 0, true)
  else if 0 ≤ d.cell then ((d.more.read C words m).1, (d.more.read C words m).2, words, true)
  else if (m.step C tag code).2.kind = 1 then
    ((({ d.more with cell := (m.step C tag code).2.cell, sub := 0 } : Dr).read C words (m.step C tag code).1).1, (({ d.more with cell := (m.step C tag code).2.cell, sub := 0 } : Dr).read C words (m.step C tag code).1).2, words, true)
  else ((if (m.step C tag code).1.how = 0 then d.more else { d.more with part := 3 }), (m.step C tag code).1, words, false)

/-- The read under way is the document's. -/
def SimR (C : Cfg) (stamp : Nat) (d : Dr) : Option Rdg → Prop
  | none => d.cell = -1
  | some g => d.cell = g.cell ∧ d.sub = g.part ∧ d.ver = g.version ∧ g.stamp = stamp ∧ (g.part = 2 → g.value = fx d.now)
/-- The document's reader stands as the program's. -/
structure Sim (C : Cfg) (s : Rs) (d : Dr) : Prop where
  part : d.part = s.part
  steps : d.steps = s.steps
  claim : d.claim = s.claim
  stamp : d.stamp = s.stamp
  sub : s.part = 1 → d.sub = s.n ∧ s.read = none
  read : SimR C s.stamp d s.read

theorem loc_0 {C : Cfg} {g : Rdg} (h : g.part = 0 ∨ g.part = 2) : g.loc C = (3 + C.threads + 3 * g.cell).toNat := by
  unfold Rdg.loc Rdg.which
  rw [if_neg (by omega), if_neg (by omega)]
  congr 1
  simp
theorem loc_1 {C : Cfg} {g : Rdg} (h : g.part = 1) : g.loc C = (3 + C.threads + 3 * g.cell + 1).toNat := by
  unfold Rdg.loc Rdg.which
  rw [if_pos h]
  rfl
theorem loc_3 {C : Cfg} {g : Rdg} (h : g.part = 3) : g.loc C = (3 + C.threads + 3 * g.cell + 2).toNat := by
  unfold Rdg.loc Rdg.which
  rw [if_neg (by omega), if_pos h]
  rfl
/-- A step of a read. -/
theorem sim_rd {C : Cfg} {words : List Nat} {s : Rs} {d : Dr} {g : Rdg} (hp : s.part = 2) (h1 : d.part = s.part) (h2 : d.steps = s.steps) (h3 : d.claim = s.claim) (h4 : d.stamp = s.stamp) (hr : SimR C s.stamp d (some g)) (g0 : 0 ≤ g.part) (g3 : g.part ≤ 3) :
    Sim C (s.rd C words g) (d.read C words s.m).1 ∧ (d.read C words s.m).2 = (s.rd C words g).m := by
  obtain ⟨r1, r2, r3, r4, r5⟩ := hr
  unfold Rs.rd Dr.read
  rw [r2]
  rcases (by omega : g.part = 0 ∨ g.part = 1 ∨ g.part = 2 ∨ g.part = 3) with e | e | e | e
  · have en : g.next C words = { g.more with version := words.getD (3 + C.threads + 3 * g.cell).toNat 0, part := if g.stamp < words.getD (3 + C.threads + 3 * g.cell).toNat 0 then 3 else 1 } := by
      unfold Rdg.next Rdg.eat
      rw [loc_0 (.inl e), if_pos (show g.more.part = 0 from e)]
      rfl
    rw [en, if_pos e]
    have e4 : ¬ (if g.stamp < words.getD (3 + C.threads + 3 * g.cell).toNat 0 then (3 : Int) else 1) = 4 := by split <;> omega
    rw [if_neg e4]
    refine ⟨⟨h1, h2, h3, h4, fun h => by exact absurd h (by show ¬ s.part = 1; omega), ?_⟩, rfl⟩
    show _ ∧ _ ∧ _ ∧ _ ∧ _
    refine ⟨r1, ?_, ?_, r4, fun h => ?_⟩
    · show (if d.stamp < _ then (3 : Int) else 1) = _
      rw [h4, ← r4, r1]
    · show words.getD _ 0 = _
      rw [r1]
    · exfalso
      revert h
      show ¬ (if g.stamp < words.getD (3 + C.threads + 3 * g.cell).toNat 0 then (3 : Int) else 1) = 2
      split <;> omega
  · have en : g.next C words = { g.more with value := fx (words.getD (3 + C.threads + 3 * g.cell + 1).toNat 0), part := 2 } := by
      unfold Rdg.next Rdg.eat
      rw [loc_1 e, if_neg (show ¬ g.more.part = 0 by show ¬ g.part = 0; omega), if_pos (show g.more.part = 1 from e)]
    rw [en, if_neg (show ¬ g.part = 0 by omega), if_pos e, if_neg (show ¬ (2 : Int) = 4 by decide)]
    refine ⟨⟨h1, h2, h3, h4, fun h => by exact absurd h (by show ¬ s.part = 1; omega), ?_⟩, rfl⟩
    refine ⟨r1, rfl, r3, r4, fun _ => ?_⟩
    show fx _ = fx _
    rw [r1]
  · rw [if_neg (show ¬ g.part = 0 by omega), if_neg (show ¬ g.part = 1 by omega), if_pos e]
    have en : g.next C words = { g.more with torn := words.getD (3 + C.threads + 3 * g.cell).toNat 0 != g.version, part := if words.getD (3 + C.threads + 3 * g.cell).toNat 0 != g.version then 3 else 4 } := by
      unfold Rdg.next Rdg.eat
      rw [loc_0 (.inr e), if_neg (show ¬ g.more.part = 0 by show ¬ g.part = 0; omega), if_neg (show ¬ g.more.part = 1 by show ¬ g.part = 1; omega), if_pos (show g.more.part = 2 from e)]
      rfl
    rw [en, r1, r3]
    by_cases hv : words.getD (3 + C.threads + 3 * g.cell).toNat 0 = g.version
    · rw [if_pos hv]
      have hb : (words.getD (3 + C.threads + 3 * g.cell).toNat 0 != g.version) = false := by simpa using hv
      rw [hb]
      simp only [Bool.false_eq_true, if_false, if_true]
      have hg : g.more.value = fx d.now := r5 e
      refine ⟨⟨h1, h2, h3, h4, fun h => by exact absurd h (by show ¬ s.part = 1; omega), rfl⟩, ?_⟩
      rw [hg]
    · rw [if_neg hv]
      have hb : (words.getD (3 + C.threads + 3 * g.cell).toNat 0 != g.version) = true := by simpa using hv
      rw [hb]
      simp only [if_true]
      rw [if_neg (by decide)]
      exact ⟨⟨h1, h2, h3, h4, fun h => by exact absurd h (by show ¬ s.part = 1; omega), rfl, rfl, rfl, r4, fun h => absurd h (by show ¬ (3 : Int) = 2; decide)⟩, rfl⟩
  · rw [if_neg (show ¬ g.part = 0 by omega), if_neg (show ¬ g.part = 1 by omega), if_neg (show ¬ g.part = 2 by omega)]
    have en : g.next C words = { g.more with value := fx (words.getD (3 + C.threads + 3 * g.cell + 2).toNat 0), part := 4 } := by
      unfold Rdg.next Rdg.eat
      rw [loc_3 e, if_neg (show ¬ g.more.part = 0 by show ¬ g.part = 0; omega), if_neg (show ¬ g.more.part = 1 by show ¬ g.part = 1; omega), if_neg (show ¬ g.more.part = 2 by show ¬ g.part = 2; omega)]
    rw [en, if_pos rfl]
    refine ⟨⟨h1, h2, h3, h4, fun h => by exact absurd h (by show ¬ s.part = 1; omega), rfl⟩, ?_⟩
    rw [r1]
/-- A step of the document's reader is the program's. -/
theorem sim_step {C : Cfg} {tag : Int} {code : List Ins} {th : Int} {words : List Nat} {s : Rs} {d : Dr} (hR : Rwf C code s) (h : Sim C s d) (hp : s.part ≤ 3) :
    Sim C (s.step C tag code th words).1 (d.step C tag code th words s.m).1 ∧ (d.step C tag code th words s.m).2.1 = (s.step C tag code th words).1.m ∧ (d.step C tag code th words s.m).2.2.1 = (s.step C tag code th words).2.1 ∧ (d.step C tag code th words s.m).2.2.2 = (s.step C tag code th words).2.2 := by
  have hp1 := hR.part1
  unfold Rs.step Dr.step
  rw [h.part]
  have hst : d.steps + 1 = s.steps + 1 := by rw [h.steps]
  rcases (by omega : s.part = 1 ∨ s.part = 3 ∨ s.part = 2) with e | e | e
  · simp only [if_pos e]
    obtain ⟨e1, e2⟩ := h.sub e
    rw [e1]
    have hn := hR.n0
    have hn2 := (hR.n1 e).1
    have hr0 : d.cell = -1 := by have := h.read; rw [e2] at this; exact this
    have hS : ∀ st (d' : Dr), d'.cell = d.cell → SimR C st d' s.read := fun st d' he => by
      rw [e2]; exact he.trans hr0
    rcases (by omega : s.n = 0 ∨ s.n = 1 ∨ s.n = 2) with k | k | k
    · simp only [if_pos k]
      refine ⟨⟨h.part, hst, rfl, h.stamp, fun _ => ⟨rfl, e2⟩, hS _ _ rfl⟩, ?_, ?_, ?_⟩ <;> first | rfl | trivial
    · have k0 : ¬ s.n = 0 := by omega
      simp only [if_neg k0, if_pos k]
      rw [h.claim]
      refine ⟨⟨h.part, hst, h.claim, h.stamp, fun _ => ⟨rfl, e2⟩, hS _ _ rfl⟩, ?_, ?_, ?_⟩ <;> first | rfl | trivial
    · have k0 : ¬ s.n = 0 := by omega
      have k1 : ¬ s.n = 1 := by omega
      simp only [if_neg k0, if_neg k1]
      refine ⟨⟨rfl, hst, h.claim, rfl, fun hh => absurd hh (by show ¬ (2 : Int) = 1; decide), hS _ _ rfl⟩, ?_, ?_, ?_⟩ <;> first | rfl | trivial
  · have e1 : ¬ s.part = 1 := by omega
    simp only [if_neg e1, if_pos e]
    have hrn : s.read = none := by
      rcases hg : s.read with _ | g
      · rfl
      · have := (hR.read g hg).1; omega
    have hr0 : d.cell = -1 := by have := h.read; rw [hrn] at this; exact this
    refine ⟨⟨rfl, hst, h.claim, h.stamp, fun hh => absurd hh (by show ¬ (4 : Int) = 1; decide), ?_⟩, ?_, ?_, ?_⟩
    · show SimR C _ _ s.read
      rw [hrn]; exact hr0
    all_goals first | rfl | trivial
  · have e1 : ¬ s.part = 1 := by omega
    have e3 : ¬ s.part = 3 := by omega
    simp only [if_neg e1, if_neg e3]
    unfold Rs.run
    rcases hg : s.read with _ | g
    · have hr0 : d.cell = -1 := by have := h.read; rw [hg] at this; exact this
      have hc0 : ¬ 0 ≤ d.cell := by omega
      simp only [if_neg hc0]
      have hw := hR.idle hg
      have hh := hR.how (by omega)
      have ST := step_to (C := C) (code := code) (tag := tag) hw
      rcases ST with ⟨k, _, k2⟩ | ⟨k, k1, _, k3⟩ | ⟨k, k1, _, _, k3⟩
      · have n1 : ¬ (s.m.step C tag code).2.kind = 1 := by rw [k]; decide
        simp only [if_neg n1, if_pos k, if_neg k2]
        refine ⟨⟨rfl, hst, h.claim, h.stamp, fun hh => absurd hh (by show ¬ (3 : Int) = 1; decide), hr0⟩, ?_, ?_, ?_⟩ <;> first | rfl | trivial
      · have n4 : ¬ (s.m.step C tag code).2.kind = 4 := by rw [k]; decide
        simp only [if_pos k, if_neg n4]
        obtain ⟨a, b⟩ := sim_rd (C := C) (words := words) (s := ({ s with steps := s.steps + 1, m := (s.m.step C tag code).1 } : Rs)) (d := ({ d.more with cell := (s.m.step C tag code).2.cell, sub := 0, ver := 0 } : Dr)) (g := Rdg.new (s.m.step C tag code).2.cell s.stamp) e h.part hst h.claim h.stamp ⟨rfl, rfl, rfl, rfl, fun hh => absurd hh (by show ¬ (0 : Int) = 2; decide)⟩ (by show (0 : Int) ≤ 0; decide) (by show (0 : Int) ≤ 3; decide)
        refine ⟨a, b, ?_, ?_⟩ <;> first | rfl | trivial
      · have hh0 : (s.m.step C tag code).1.how = 0 := k3.trans hh
        simp only [if_neg k1, if_neg k, if_pos hh0]
        refine ⟨⟨h.part, hst, h.claim, h.stamp, fun hh => absurd hh e1, hr0⟩, ?_, ?_, ?_⟩ <;> first | rfl | trivial
    · have hrd := h.read
      rw [hg] at hrd
      obtain ⟨g1, g2, g3, g4⟩ := hR.read g hg
      have hc := (hR.wf.wait g.cell g2).1
      have hc0 : 0 ≤ d.cell := by rw [hrd.1]; exact hc
      simp only [if_pos hc0]
      obtain ⟨a, b⟩ := sim_rd (C := C) (words := words) (s := ({ s with steps := s.steps + 1 } : Rs)) (d := d.more) (g := g) e h.part hst h.claim h.stamp hrd g3.part0 g3.part3
      refine ⟨a, b, ?_, ?_⟩ <;> first | rfl | trivial
end Go.Proofs.YtphaeodcomgffaaGreat
set_option linter.unusedVariables false
set_option linter.unusedSimpArgs false
namespace Go.Proofs.YtphaeodcomgffaaGreat
open Go.RowKit

/-! The document's reader: a step of a read. -/
/-- Block B is a reader of the document's that stands at d, its machine at m. -/
structure DRI (ro : Nat → Nat) (r : Nat) (w : World) (B : Nat) (C : Cfg) (th tag : Int) (vc : Value) (args : List Nat) (d : Dr) (m : Ms) (M : Nat) (va : Value) (p : Dq) : Prop where
  blk : Blk ro (r + 8) w B (drcells C th tag d M va) 42
  mach : DM ro r w M C tag vc m.dm p
  args : RdL cF ro (r + 9) w 1 va (args.map fx)
theorem DRIs.dri {ro : Nat → Nat} {r : Nat} {w : World} {B C th tag vc args d M va p} {m : Ms} (h : DRIs ro r w B C th tag vc args d m.dm M va p) : DRI ro r w B C th tag vc args d m M va p := ⟨h.blk, h.mach.dm, h.args.rdl cF_len⟩
theorem DRI.keep {ro ro' : Nat → Nat} {r : Nat} {w w' : World} {B C th tag vc args d m M va p R} (h : DRI ro r w B C th tag vc args d m M va p) (mv : Mv ro R w ro' w') (hR : ∀ x ∈ R, x < r ∨ r + 9 < x) : DRI ro' r w' B C th tag vc args d m M va p := by
  have k : ∀ i, i ≤ 9 → r + i ∉ R := fun i hi hx => by have := hR _ hx; omega
  exact ⟨h.blk.keep mv (k 8 (by omega)), h.mach.keep mv fun x hx => by have := hR x hx; omega, h.args.keep mv (k 9 (by omega))⟩
/-- A store into the reader's own cells. -/
theorem DRI.put {ro : Nat → Nat} {r : Nat} {w : World} {B C th tag vc args d d' m M va p} (h : DRI ro r w B C th tag vc args d m M va p) (i : Nat) (v : Value) (e : (drcells C th tag d M va).setIfInBounds i v = drcells C th tag d' M va) :
    DRI ro r (w.setCell ⟨B, i, none⟩ v) B C th tag vc args d' m M va p ∧ Mv ro [r + 8] w ro (w.setCell ⟨B, i, none⟩ v) := by
  have hB : ro B = r + 8 := h.blk.role
  have ms : Mv ro [r + 8] w ro (w.setCell ⟨B, i, none⟩ v) := (Mv.refl _ _ _).setCell (p := ⟨B, i, none⟩) (by show ro B ∈ _; rw [hB]; simp) v
  exact ⟨⟨h.blk.put e, h.mach.keep ms (by simp), h.args.keep ms (by simp)⟩, ms⟩
/-- Behind a move of the machine. -/
theorem DRI.mach' {ro ro' : Nat → Nat} {r : Nat} {w w' : World} {B C th tag vc args d m m' M va p p'} (h : DRI ro r w B C th tag vc args d m M va p) (mv : Mv ro [r, r + 4] w ro' w') (h' : DM ro' r w' M C tag vc m'.dm p') : DRI ro' r w' B C th tag vc args d m' M va p' :=
  ⟨h.blk.keep mv (by simp), h', h.args.keep mv (by simp)⟩
def dS (r rw : Nat) : List Nat := [r, r + 4, r + 8, rw, rw + 1]
def RdP (ro : Nat → Nat) (r rw : Nat) (w : World) (B : Nat) (C : Cfg) (th tag : Int) (vc : Value) (args : List Nat) (d : Dr) (m : Ms) (M : Nat) (va : Value) (WB : Nat) (v2 : Value) (ws : List Nat) (cnt : Int) (val : Value) (e : Ending) (w' : World) : Prop :=
  e = .returned val ∧ ∃ ro' p', DRI ro' r w' B C th tag vc args d m M va p' ∧ WrdIs ro' rw w' WB v2 ws cnt ∧ Mv ro (dS r rw) w ro' w'
theorem give_dri {ro : Nat → Nat} {r rw : Nat} {w W : World} {B C th tag vc args d M va p WB v2 ws cnt} {m : Ms} (h : DRI ro r w B C th tag vc args d m M va p) (hq : WrdIs ro rw w WB v2 ws cnt) (hrr : r + 9 < rw ∨ rw + 1 < r) (hst : m.stack.length ≤ 63) (hrl : m.reads.length ≤ 4096) (c : Int) (hw : m.wait = some c) (c0 : 0 ≤ c) (x : Nat) (mv : Mv ro [] w ro W) :
    Calls Tryz.prog 112 #[.pointer (some ⟨M, 0, none⟩), .float .f64 x] W fun e w' => e = .returned (.int .i64 0) ∧ ∃ ro3 p3, DRI ro3 r w' B C th tag vc args d (m.give x).1 M va p3 ∧ WrdIs ro3 rw w' WB v2 ws cnt ∧ Mv ro [r, r + 4] w ro3 w' := by
  refine (dgive_walk (h.mach.keep0 mv) hst hrl c hw c0 x).mono ?_
  rintro e w' ⟨rfl, ro3, p3, h3, m3⟩
  have m4 := (mv.mono (R' := [r, r + 4]) (by simp)).trans m3
  exact ⟨rfl, ro3, p3, h.mach' m4 h3, hq.keep m4 (by simp; omega) (by simp; omega), m4⟩
set_option maxRecDepth 100000 in
set_option maxHeartbeats 4000000 in
theorem rread_0y {ro : Nat → Nat} {r rw : Nat} {w : World} {B C th tag vc args d M va p WB v2 ws cnt} {m : Ms} (h : DRI ro r w B C th tag vc args d m M va p) (hq : WrdIs ro rw w WB v2 ws cnt) (hrr : r + 9 < rw ∨ rw + 1 < r) (hC : C.ok) (hs : d.sub = 0) (c0 : 0 ≤ d.cell) (c1 : d.cell < C.cells) (hl : (ws.length : Int) = 3 + C.threads + 3 * C.cells) (n0 : 0 ≤ cnt) (n1 : cnt ≤ 1000000000) (k : Nat) (hk : (k : Int) = 3 + C.threads + 3 * d.cell) (x : Nat) (hx : ws.getD k 0 = x) (hv : d.stamp < x) :
    Calls Tryz.prog 74 #[ptr B, ptr WB] w (RdP ro r rw w B C th tag vc args { d with ver := x, sub := 3 } m M va WB v2 ws (cnt + 1) (.tuple #[])) := by
  obtain ⟨C1, C2, C3, C4, C5, C6, C7, C8⟩ := hC
  have hkl : k < ws.length := by omega
  have LW := Lib.hid (show ∀ W, Mv ro [r, r + 4, r + 8] w ro W → Calls Tryz.prog 72 #[ptr WB, .int .i64 (3 + C.threads + 3 * d.cell)] W fun e w' => e = .returned (.int .u64 x) ∧ WrdIs ro rw w' WB v2 ws (cnt + 1) ∧ Mv ro [rw] W ro w' from fun W mv => by rw [← hk, ← hx]; exact wload_walk (hq.keep mv (by simp; omega) (by simp; omega)) k hkl (by omega) n0 n1)
  have hc := h.blk.cell
  have hf := h.blk.free
  have hlt := h.blk.lt
  unfold drcells at hc
  rw [hs] at hc
  have H := Lib.hid h
  have HS := Lib.hid hs
  clear hx hk hkl
  simp only [ptr] at *
  have hv' : (d.stamp : Int) < x := by omega
  clear h hq hs
  go_enter Tryz.func74, Tryz.ntmps74
  go_wp2
  go_quiet (fail)
  go_wp2_with (go_at_call 72; refine (LW.out _ ((Mv.refl _ _ _).drewN _)).mono ?_; rintro e w1 ⟨rfl, q1, m1⟩; have m1' : Mv ro [rw] w ro w1 := ((Mv.refl ro [rw] w).drewN _).trans m1; have h1 := H.out.keep m1' (by simp; omega); have hc1 := h1.blk.cell; have hf1 := h1.blk.free; have hlt1 := h1.blk.lt; unfold drcells at hc1; rw [HS.out] at hc1; have H1 := Lib.hid h1; have M1 := Lib.hid m1'; have Q1 := Lib.hid q1; clear h1 m1 m1' q1)
  obtain ⟨k1, b1⟩ := H1.out.put (d' := { d with ver := x }) 15 (.int .u64 x) rfl
  obtain ⟨k2, b2⟩ := k1.put (d' := { d with ver := x, sub := 1 }) 11 (.int .i64 1) rfl
  have mm := Lib.hid (show Mv ro (dS r rw) w ro _ from ((M1.out.mono (by simp [dS])).trans (b1.mono (by simp [dS]))).trans (b2.mono (by simp [dS])))
  have Q2 := Lib.hid ((Q1.out.keep b1 (by simp; omega) (by simp; omega)).keep b2 (by simp; omega) (by simp; omega))
  have K2 := Lib.hid k2
  clear k1 k2 b1 b2 hc1 hf1 hlt1 H1 M1 Q1
  generalize (w1.setCell ⟨B, 15, none⟩ (.int .u64 x)).setCell ⟨B, 11, none⟩ (.int .i64 1) = W2 at *
  have hc2 := K2.out.blk.cell
  have hf2 := K2.out.blk.free
  unfold drcells at hc2
  go_quiet (fail)
  go_wp2
  go_end0
  obtain ⟨k3, b3⟩ := (K2.out.keep ((Mv.refl ro [] W2).drewN nq) (by simp)).put (d' := { d with ver := x, sub := 3 }) 11 (.int .i64 3) rfl
  exact ⟨rfl, ro, p, k3, (Q2.out.keep ((Mv.refl ro [] W2).drewN nq) (by simp) (by simp)).keep b3 (by simp; omega) (by simp; omega), (mm.out.drewN nq).trans (b3.mono (by simp [dS]))⟩
set_option maxRecDepth 100000 in
set_option maxHeartbeats 4000000 in
theorem rread_0n {ro : Nat → Nat} {r rw : Nat} {w : World} {B C th tag vc args d M va p WB v2 ws cnt} {m : Ms} (h : DRI ro r w B C th tag vc args d m M va p) (hq : WrdIs ro rw w WB v2 ws cnt) (hrr : r + 9 < rw ∨ rw + 1 < r) (hC : C.ok) (hs : d.sub = 0) (c0 : 0 ≤ d.cell) (c1 : d.cell < C.cells) (hl : (ws.length : Int) = 3 + C.threads + 3 * C.cells) (n0 : 0 ≤ cnt) (n1 : cnt ≤ 1000000000) (k : Nat) (hk : (k : Int) = 3 + C.threads + 3 * d.cell) (x : Nat) (hx : ws.getD k 0 = x) (hv : ¬ d.stamp < x) :
    Calls Tryz.prog 74 #[ptr B, ptr WB] w (RdP ro r rw w B C th tag vc args { d with ver := x, sub := 1 } m M va WB v2 ws (cnt + 1) (.tuple #[])) := by
  obtain ⟨C1, C2, C3, C4, C5, C6, C7, C8⟩ := hC
  have hkl : k < ws.length := by omega
  have LW := Lib.hid (show ∀ W, Mv ro [r, r + 4, r + 8] w ro W → Calls Tryz.prog 72 #[ptr WB, .int .i64 (3 + C.threads + 3 * d.cell)] W fun e w' => e = .returned (.int .u64 x) ∧ WrdIs ro rw w' WB v2 ws (cnt + 1) ∧ Mv ro [rw] W ro w' from fun W mv => by rw [← hk, ← hx]; exact wload_walk (hq.keep mv (by simp; omega) (by simp; omega)) k hkl (by omega) n0 n1)
  have hc := h.blk.cell
  have hf := h.blk.free
  have hlt := h.blk.lt
  unfold drcells at hc
  rw [hs] at hc
  have H := Lib.hid h
  have HS := Lib.hid hs
  clear hx hk hkl
  simp only [ptr] at *
  have hv' : ¬ (d.stamp : Int) < x := by omega
  clear h hq hs
  go_enter Tryz.func74, Tryz.ntmps74
  go_wp2
  go_quiet (fail)
  go_wp2_with (go_at_call 72; refine (LW.out _ ((Mv.refl _ _ _).drewN _)).mono ?_; rintro e w1 ⟨rfl, q1, m1⟩; have m1' : Mv ro [rw] w ro w1 := ((Mv.refl ro [rw] w).drewN _).trans m1; have h1 := H.out.keep m1' (by simp; omega); have hc1 := h1.blk.cell; have hf1 := h1.blk.free; have hlt1 := h1.blk.lt; unfold drcells at hc1; rw [HS.out] at hc1; have H1 := Lib.hid h1; have M1 := Lib.hid m1'; have Q1 := Lib.hid q1; clear h1 m1 m1' q1)
  obtain ⟨k1, b1⟩ := H1.out.put (d' := { d with ver := x }) 15 (.int .u64 x) rfl
  obtain ⟨k2, b2⟩ := k1.put (d' := { d with ver := x, sub := 1 }) 11 (.int .i64 1) rfl
  have mm := Lib.hid (show Mv ro (dS r rw) w ro _ from ((M1.out.mono (by simp [dS])).trans (b1.mono (by simp [dS]))).trans (b2.mono (by simp [dS])))
  have Q2 := Lib.hid ((Q1.out.keep b1 (by simp; omega) (by simp; omega)).keep b2 (by simp; omega) (by simp; omega))
  have K2 := Lib.hid k2
  clear k1 k2 b1 b2 hc1 hf1 hlt1 H1 M1 Q1
  generalize (w1.setCell ⟨B, 15, none⟩ (.int .u64 x)).setCell ⟨B, 11, none⟩ (.int .i64 1) = W2 at *
  have hc2 := K2.out.blk.cell
  have hf2 := K2.out.blk.free
  unfold drcells at hc2
  go_quiet (fail)
  go_wp2
  go_end0
  exact ⟨rfl, ro, p, K2.out.keep ((Mv.refl ro [] W2).drewN nq) (by simp), Q2.out.keep ((Mv.refl ro [] W2).drewN nq) (by simp) (by simp), mm.out.drewN nq⟩
set_option maxRecDepth 100000 in
set_option maxHeartbeats 4000000 in
theorem rread_1 {ro : Nat → Nat} {r rw : Nat} {w : World} {B C th tag vc args d M va p WB v2 ws cnt} {m : Ms} (h : DRI ro r w B C th tag vc args d m M va p) (hq : WrdIs ro rw w WB v2 ws cnt) (hrr : r + 9 < rw ∨ rw + 1 < r) (hC : C.ok) (hs : d.sub = 1) (c0 : 0 ≤ d.cell) (c1 : d.cell < C.cells) (hl : (ws.length : Int) = 3 + C.threads + 3 * C.cells) (n0 : 0 ≤ cnt) (n1 : cnt ≤ 1000000000) (k : Nat) (hk : (k : Int) = 3 + C.threads + 3 * d.cell + 1) (x : Nat) (hx : ws.getD k 0 = x)  :
    Calls Tryz.prog 74 #[ptr B, ptr WB] w (RdP ro r rw w B C th tag vc args { d with now := x, sub := 2 } m M va WB v2 ws (cnt + 1) (.tuple #[])) := by
  obtain ⟨C1, C2, C3, C4, C5, C6, C7, C8⟩ := hC
  have hkl : k < ws.length := by omega
  have LW := Lib.hid (show ∀ W, Mv ro [r, r + 4, r + 8] w ro W → Calls Tryz.prog 72 #[ptr WB, .int .i64 (3 + C.threads + 3 * d.cell + 1)] W fun e w' => e = .returned (.int .u64 x) ∧ WrdIs ro rw w' WB v2 ws (cnt + 1) ∧ Mv ro [rw] W ro w' from fun W mv => by rw [← hk, ← hx]; exact wload_walk (hq.keep mv (by simp; omega) (by simp; omega)) k hkl (by omega) n0 n1)
  have hc := h.blk.cell
  have hf := h.blk.free
  have hlt := h.blk.lt
  unfold drcells at hc
  rw [hs] at hc
  have H := Lib.hid h
  have HS := Lib.hid hs
  clear hx hk hkl
  simp only [ptr] at *
  clear h hq hs
  go_enter Tryz.func74, Tryz.ntmps74
  go_wp2
  go_quiet (fail)
  go_wp2_with (go_at_call 72; refine (LW.out _ ((Mv.refl _ _ _).drewN _)).mono ?_; rintro e w1 ⟨rfl, q1, m1⟩; have m1' : Mv ro [rw] w ro w1 := ((Mv.refl ro [rw] w).drewN _).trans m1; have h1 := H.out.keep m1' (by simp; omega); have hc1 := h1.blk.cell; have hf1 := h1.blk.free; have hlt1 := h1.blk.lt; unfold drcells at hc1; rw [HS.out] at hc1; have H1 := Lib.hid h1; have M1 := Lib.hid m1'; have Q1 := Lib.hid q1; clear h1 m1 m1' q1)
  go_end0
  obtain ⟨k1, b1⟩ := H1.out.put (d' := { d with now := x }) 16 (.int .u64 x) rfl
  obtain ⟨k2, b2⟩ := k1.put (d' := { d with now := x, sub := 2 }) 11 (.int .i64 2) rfl
  exact ⟨rfl, ro, p, k2, (Q1.out.keep b1 (by simp; omega) (by simp; omega)).keep b2 (by simp; omega) (by simp; omega), ((M1.out.mono (by simp [dS])).trans (b1.mono (by simp [dS]))).trans (b2.mono (by simp [dS]))⟩
set_option maxRecDepth 100000 in
set_option maxHeartbeats 4000000 in
theorem rread_2n {ro : Nat → Nat} {r rw : Nat} {w : World} {B C th tag vc args d M va p WB v2 ws cnt} {m : Ms} (h : DRI ro r w B C th tag vc args d m M va p) (hq : WrdIs ro rw w WB v2 ws cnt) (hrr : r + 9 < rw ∨ rw + 1 < r) (hC : C.ok) (hs : d.sub = 2) (c0 : 0 ≤ d.cell) (c1 : d.cell < C.cells) (hl : (ws.length : Int) = 3 + C.threads + 3 * C.cells) (n0 : 0 ≤ cnt) (n1 : cnt ≤ 1000000000) (k : Nat) (hk : (k : Int) = 3 + C.threads + 3 * d.cell) (x : Nat) (hx : ws.getD k 0 = x) (hv : ¬ x = d.ver) :
    Calls Tryz.prog 74 #[ptr B, ptr WB] w (RdP ro r rw w B C th tag vc args { d with sub := 3 } m M va WB v2 ws (cnt + 1) (.tuple #[])) := by
  obtain ⟨C1, C2, C3, C4, C5, C6, C7, C8⟩ := hC
  have hkl : k < ws.length := by omega
  have LW := Lib.hid (show ∀ W, Mv ro [r, r + 4, r + 8] w ro W → Calls Tryz.prog 72 #[ptr WB, .int .i64 (3 + C.threads + 3 * d.cell)] W fun e w' => e = .returned (.int .u64 x) ∧ WrdIs ro rw w' WB v2 ws (cnt + 1) ∧ Mv ro [rw] W ro w' from fun W mv => by rw [← hk, ← hx]; exact wload_walk (hq.keep mv (by simp; omega) (by simp; omega)) k hkl (by omega) n0 n1)
  have hc := h.blk.cell
  have hf := h.blk.free
  have hlt := h.blk.lt
  unfold drcells at hc
  rw [hs] at hc
  have H := Lib.hid h
  have HS := Lib.hid hs
  clear hx hk hkl
  simp only [ptr] at *
  have hv' : ¬ (x : Int) = d.ver := by omega
  have hv2 : ((x : Int) == (d.ver : Int)) = false := by simpa using hv'
  clear h hq hs
  go_enter Tryz.func74, Tryz.ntmps74
  go_wp2
  go_quiet (fail)
  obtain ⟨k1, b1⟩ := (H.out.keep ((Mv.refl ro [] w).drewN nq) (by simp)).put (d' := { d with sub := 3 }) 11 (.int .i64 3) rfl
  have M1 := Lib.hid (show Mv ro [r, r + 4, r + 8] w ro _ from ((Mv.refl ro [r, r + 4, r + 8] w).drewN nq).trans (b1.mono (by simp)))
  have K1 := Lib.hid k1
  have BQ := Lib.hid (((Mv.refl ro [r + 8] w).drewN nq).trans b1)
  clear k1 b1
  go_wp2
  clear hc hf hlt
  generalize (w.drewN nq).setCell ⟨B, 11, none⟩ (.int .i64 3) = W1 at *
  have hc1 := K1.out.blk.cell
  have hf1 := K1.out.blk.free
  unfold drcells at hc1
  refine wp_region_noPanic ?_
  go_region_law (go_simp; go_at_call 72; refine (LW.out _ (by first | exact M1.out.drew | exact M1.out.drew.drew)).mono ?_; rintro e w2 ⟨rfl, q2, m2⟩; have m2' : Mv ro [rw] W1 ro w2 := Mv.trans (by first | exact Mv.refl _ _ _ | exact (Mv.refl _ _ _).drew | exact (Mv.refl _ _ _).drew.drew) m2; have h2 := K1.out.keep m2' (by simp; omega); have hc2 := h2.blk.cell; have hf2 := h2.blk.free; unfold drcells at hc2; have H2 := Lib.hid h2; have M2 := Lib.hid (show Mv ro (dS r rw) w ro w2 from (M1.out.mono (by simp [dS])).trans (m2'.mono (by simp [dS]))); have Q2 := Lib.hid q2; clear h2 m2 m2' q2)
  all_goals
    refine NoPanic.normal ?_
    go_wp2
    go_end0
    first
      | exact ⟨rfl, ro, p, H2.out, Q2.out, M2.out⟩
      | exact ⟨rfl, ro, p, H2.out.keep (Mv.refl ro [] w2).drew (by simp), Q2.out.keep (Mv.refl ro [] w2).drew (by simp) (by simp), M2.out.drew⟩
set_option maxRecDepth 100000 in
set_option maxHeartbeats 4000000 in
theorem rread_2y {ro : Nat → Nat} {r rw : Nat} {w : World} {B C th tag vc args d M va p WB v2 ws cnt} {m : Ms} (h : DRI ro r w B C th tag vc args d m M va p) (hq : WrdIs ro rw w WB v2 ws cnt) (hrr : r + 9 < rw ∨ rw + 1 < r) (hC : C.ok) (hs : d.sub = 2) (c0 : 0 ≤ d.cell) (c1 : d.cell < C.cells) (hl : (ws.length : Int) = 3 + C.threads + 3 * C.cells) (n0 : 0 ≤ cnt) (n1 : cnt ≤ 1000000000) (k : Nat) (hk : (k : Int) = 3 + C.threads + 3 * d.cell) (x : Nat) (hx : ws.getD k 0 = x) (hst : m.stack.length ≤ 63) (hrl : m.reads.length ≤ 4096) (hw : m.wait = some d.cell) (hv : x = d.ver) :
    Calls Tryz.prog 74 #[ptr B, ptr WB] w (RdP ro r rw w B C th tag vc args { d with sub := 3, cell := -1 } (m.give (fx d.now)).1 M va WB v2 ws (cnt + 1) (.tuple #[])) := by
  obtain ⟨C1, C2, C3, C4, C5, C6, C7, C8⟩ := hC
  have hkl : k < ws.length := by omega
  have LW := Lib.hid (show ∀ W, Mv ro [r, r + 4, r + 8] w ro W → Calls Tryz.prog 72 #[ptr WB, .int .i64 (3 + C.threads + 3 * d.cell)] W fun e w' => e = .returned (.int .u64 x) ∧ WrdIs ro rw w' WB v2 ws (cnt + 1) ∧ Mv ro [rw] W ro w' from fun W mv => by rw [← hk, ← hx]; exact wload_walk (hq.keep mv (by simp; omega) (by simp; omega)) k hkl (by omega) n0 n1)
  have hc := h.blk.cell
  have hf := h.blk.free
  have hlt := h.blk.lt
  unfold drcells at hc
  rw [hs] at hc
  have H := Lib.hid h
  have HS := Lib.hid hs
  clear hx hk hkl
  simp only [ptr] at *
  subst hv
  clear h hq hs
  go_enter Tryz.func74, Tryz.ntmps74
  go_wp2
  go_quiet (fail)
  obtain ⟨k1, b1⟩ := (H.out.keep ((Mv.refl ro [] w).drewN nq) (by simp)).put (d' := { d with sub := 3 }) 11 (.int .i64 3) rfl
  have M1 := Lib.hid (show Mv ro [r, r + 4, r + 8] w ro _ from ((Mv.refl ro [r, r + 4, r + 8] w).drewN nq).trans (b1.mono (by simp)))
  have K1 := Lib.hid k1
  have BQ := Lib.hid (((Mv.refl ro [r + 8] w).drewN nq).trans b1)
  clear k1 b1
  go_wp2
  clear hc hf hlt
  generalize (w.drewN nq).setCell ⟨B, 11, none⟩ (.int .i64 3) = W1 at *
  have hc1 := K1.out.blk.cell
  have hf1 := K1.out.blk.free
  unfold drcells at hc1
  refine wp_region_noPanic ?_
  go_region_law (go_simp; go_at_call 72; refine (LW.out _ (by first | exact M1.out.drew | exact M1.out.drew.drew)).mono ?_; rintro e w2 ⟨rfl, q2, m2⟩; have m2' : Mv ro [rw] W1 ro w2 := Mv.trans (by first | exact Mv.refl _ _ _ | exact (Mv.refl _ _ _).drew | exact (Mv.refl _ _ _).drew.drew) m2; have h2 := K1.out.keep m2' (by simp; omega); have hc2 := h2.blk.cell; have hf2 := h2.blk.free; unfold drcells at hc2; have H2 := Lib.hid h2; have M2 := Lib.hid (show Mv ro (dS r rw) w ro w2 from (M1.out.mono (by simp [dS])).trans (m2'.mono (by simp [dS]))); have Q2 := Lib.hid q2; clear h2 m2 m2' q2)
  all_goals
    refine NoPanic.normal ?_
    go_wp2
    refine wp_region_noPanic ?_
    go_region_law (go_simp; first | (go_at_call 113; refine (dnumber_walk _ _).mono ?_; rintro e w0 ⟨rfl, rfl⟩) | (go_at_call 112; refine (give_dri H2.out Q2.out hrr hst hrl d.cell hw c0 _ (by first | exact Mv.refl _ _ _ | exact (Mv.refl _ _ _).drew | exact (Mv.refl _ _ _).drew.drew)).mono ?_; rintro e w3 ⟨rfl, ro3, p3, h3, q3, m3⟩; have hc3 := h3.blk.cell; have hf3 := h3.blk.free; have hlt3 := h3.blk.lt; unfold drcells at hc3; have H3 := Lib.hid h3; have M3 := Lib.hid (M2.out.trans (m3.mono (R' := dS r rw) (by simp [dS]))); have Q3 := Lib.hid q3; clear h3 m3 q3))
    all_goals
      refine NoPanic.normal ?_
      go_wp2
      go_end0
      obtain ⟨k4, b4⟩ := H3.out.put (d' := { d with sub := 3, cell := -1 }) 14 (.int .i64 (-1)) rfl
      exact ⟨rfl, ro3, p3, k4, Q3.out.keep b4 (by simp; omega) (by simp; omega), M3.out.trans (b4.mono (by simp [dS]))⟩
set_option maxRecDepth 100000 in
set_option maxHeartbeats 4000000 in
theorem rread_3 {ro : Nat → Nat} {r rw : Nat} {w : World} {B C th tag vc args d M va p WB v2 ws cnt} {m : Ms} (h : DRI ro r w B C th tag vc args d m M va p) (hq : WrdIs ro rw w WB v2 ws cnt) (hrr : r + 9 < rw ∨ rw + 1 < r) (hC : C.ok) (hs : d.sub = 3) (c0 : 0 ≤ d.cell) (c1 : d.cell < C.cells) (hl : (ws.length : Int) = 3 + C.threads + 3 * C.cells) (n0 : 0 ≤ cnt) (n1 : cnt ≤ 1000000000) (k : Nat) (hk : (k : Int) = 3 + C.threads + 3 * d.cell + 2) (x : Nat) (hx : ws.getD k 0 = x) (hst : m.stack.length ≤ 63) (hrl : m.reads.length ≤ 4096) (hw : m.wait = some d.cell) :
    Calls Tryz.prog 74 #[ptr B, ptr WB] w (RdP ro r rw w B C th tag vc args { d with cell := -1 } (m.give (fx x)).1 M va WB v2 ws (cnt + 1) (.tuple #[])) := by
  obtain ⟨C1, C2, C3, C4, C5, C6, C7, C8⟩ := hC
  have hkl : k < ws.length := by omega
  have LW := Lib.hid (show ∀ W, Mv ro [r, r + 4, r + 8] w ro W → Calls Tryz.prog 72 #[ptr WB, .int .i64 (3 + C.threads + 3 * d.cell + 2)] W fun e w' => e = .returned (.int .u64 x) ∧ WrdIs ro rw w' WB v2 ws (cnt + 1) ∧ Mv ro [rw] W ro w' from fun W mv => by rw [← hk, ← hx]; exact wload_walk (hq.keep mv (by simp; omega) (by simp; omega)) k hkl (by omega) n0 n1)
  have hc := h.blk.cell
  have hf := h.blk.free
  have hlt := h.blk.lt
  unfold drcells at hc
  rw [hs] at hc
  have H := Lib.hid h
  have HS := Lib.hid hs
  clear hx hk hkl
  simp only [ptr] at *
  have wi2 : IntKind.i64.wrap (3 + C.threads + 3 * d.cell + 2) = 3 + C.threads + 3 * d.cell + 2 := IntWalk.i64_in _ (by omega)
  clear h hq hs
  go_enter Tryz.func74, Tryz.ntmps74
  go_wp2
  go_quiet (fail)
  have M1 := Lib.hid (show Mv ro [r, r + 4, r + 8] w ro (w.drewN nq) from (Mv.refl ro [r, r + 4, r + 8] w).drewN nq)
  have K1 := Lib.hid (H.out.keep ((Mv.refl ro [] w).drewN nq) (by simp))
  go_wp2
  clear hc hf hlt
  generalize w.drewN nq = W1 at *
  have hc1 := K1.out.blk.cell
  have hf1 := K1.out.blk.free
  unfold drcells at hc1
  refine wp_region_noPanic ?_
  go_region_law (go_simp; first | (go_at_call 72; refine (LW.out _ (by first | exact M1.out | exact M1.out.drew | exact M1.out.drew.drew)).mono ?_; rintro e w2 ⟨rfl, q2, m2⟩; have m2' : Mv ro [rw] W1 ro w2 := Mv.trans (by first | exact Mv.refl _ _ _ | exact (Mv.refl _ _ _).drew | exact (Mv.refl _ _ _).drew.drew) m2; have h2 := K1.out.keep m2' (by simp; omega); have hc2 := h2.blk.cell; have hf2 := h2.blk.free; unfold drcells at hc2; have H2 := Lib.hid h2; have M2 := Lib.hid (show Mv ro (dS r rw) w ro w2 from (M1.out.mono (by simp [dS])).trans (m2'.mono (by simp [dS]))); have Q2 := Lib.hid q2; clear h2 m2 m2' q2) | (go_at_call 113; refine (dnumber_walk _ _).mono ?_; rintro e w0 ⟨rfl, rfl⟩) | (go_at_call 112; refine (give_dri H2.out Q2.out hrr hst hrl d.cell hw c0 _ (by first | exact Mv.refl _ _ _ | exact (Mv.refl _ _ _).drew | exact (Mv.refl _ _ _).drew.drew)).mono ?_; rintro e w3 ⟨rfl, ro3, p3, h3, q3, m3⟩; have hc3 := h3.blk.cell; have hf3 := h3.blk.free; have hlt3 := h3.blk.lt; unfold drcells at hc3; have H3 := Lib.hid h3; have M3 := Lib.hid (M2.out.trans (m3.mono (R' := dS r rw) (by simp [dS]))); have Q3 := Lib.hid q3; clear h3 m3 q3))
  all_goals
    refine NoPanic.normal ?_
    go_wp2
    go_end0
    obtain ⟨k4, b4⟩ := H3.out.put (d' := { d with cell := -1 }) 14 (.int .i64 (-1)) rfl
    exact ⟨rfl, ro3, p3, k4, Q3.out.keep b4 (by simp; omega) (by simp; omega), M3.out.trans (b4.mono (by simp [dS]))⟩
/-- A step of a read. -/
theorem rread_walk {ro : Nat → Nat} {r rw : Nat} {w : World} {B C th tag vc args d M va p WB v2 ws cnt} {m : Ms} (h : DRI ro r w B C th tag vc args d m M va p) (hq : WrdIs ro rw w WB v2 ws cnt) (hrr : r + 9 < rw ∨ rw + 1 < r) (hC : C.ok) (s0 : 0 ≤ d.sub) (s3 : d.sub ≤ 3) (c0 : 0 ≤ d.cell) (c1 : d.cell < C.cells) (hl : (ws.length : Int) = 3 + C.threads + 3 * C.cells) (n0 : 0 ≤ cnt) (n1 : cnt ≤ 1000000000) (hst : m.stack.length ≤ 63) (hrl : m.reads.length ≤ 4096) (hw : m.wait = some d.cell) :
    Calls Tryz.prog 74 #[ptr B, ptr WB] w (RdP ro r rw w B C th tag vc args (d.read C ws m).1 (d.read C ws m).2 M va WB v2 ws (cnt + 1) (.tuple #[])) := by
  have C3 := hC.2.2.1
  unfold Dr.read
  rcases (by omega : d.sub = 0 ∨ d.sub = 1 ∨ d.sub = 2 ∨ d.sub = 3) with e | e | e | e
  · rw [if_pos e]
    by_cases hv : d.stamp < ws.getD (3 + C.threads + 3 * d.cell).toNat 0
    · rw [if_pos hv]
      exact rread_0y h hq hrr hC e c0 c1 hl n0 n1 _ (by omega) _ rfl hv
    · rw [if_neg hv]
      exact rread_0n h hq hrr hC e c0 c1 hl n0 n1 _ (by omega) _ rfl hv
  · rw [if_neg (by omega), if_pos e]
    exact rread_1 h hq hrr hC e c0 c1 hl n0 n1 _ (by omega) _ rfl
  · rw [if_neg (by omega), if_neg (by omega), if_pos e]
    by_cases hv : ws.getD (3 + C.threads + 3 * d.cell).toNat 0 = d.ver
    · rw [if_pos hv]
      exact rread_2y h hq hrr hC e c0 c1 hl n0 n1 _ (by omega) _ rfl hst hrl hw hv
    · rw [if_neg hv]
      exact rread_2n h hq hrr hC e c0 c1 hl n0 n1 _ (by omega) _ rfl hv
  · rw [if_neg (by omega), if_neg (by omega), if_neg (by omega)]
    exact rread_3 h hq hrr hC e c0 c1 hl n0 n1 _ (by omega) _ rfl hst hrl hw
end Go.Proofs.YtphaeodcomgffaaGreat
