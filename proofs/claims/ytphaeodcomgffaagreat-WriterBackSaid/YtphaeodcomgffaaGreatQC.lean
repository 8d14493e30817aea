import Derived.Test.YtphaeodcomgffaaGreatM1
import Derived.Test.YtphaeodcomgffaaGreatN3
import Derived.Test.YtphaeodcomgffaaGreatE6
import Derived.Test.YtphaeodcomgffaaGreatE9
set_option linter.unusedVariables false
set_option linter.unusedSimpArgs false
namespace Go.Proofs.YtphaeodcomgffaaGreat
open Go.RowKit Ieee

/-- All numbers of a machine fit a word. -/
structure FitA (code : List Ins) (m : Ms) : Prop where
  code : m.bad = false → ∀ x ∈ code, x.x < 18446744073709551616
  args : ∀ i, m.args i < 18446744073709551616
  locals : ∀ i, m.locals i < 18446744073709551616
  stack : ∀ y ∈ m.stack, y < 18446744073709551616
  writes : ∀ t ∈ m.writes, t.2 < 18446744073709551616

theorem enc_lt (d : Ieee.Datum) : FloatKind.f64.encode d < 18446744073709551616 := FloatKind.f64.format.write_lt d
theorem foi_lt (n : Int) : floatOfInt .f64 n < 18446744073709551616 := enc_lt (.number (n < 0) n.natAbs 0)
theorem nan_lt : theNaN < 18446744073709551616 := by decide
theorem yes_lt (b : Bool) : yesF b < 18446744073709551616 := by cases b <;> decide
theorem orN_lt {o : Option Nat} (h : ∀ x, o = some x → x < 18446744073709551616) : orN o < 18446744073709551616 := by
  cases o with
  | none => exact nan_lt
  | some x => exact fx_lt (h x rfl)
theorem neg_lt {x : Nat} (h : x < 18446744073709551616) : Op.negFloat .f64 x < 18446744073709551616 := by
  unfold Op.negFloat
  exact Nat.xor_lt_two_pow (n := 64) h (by decide)
theorem bits_lt {op : BinOp} {x y : Nat} : orN (floatBits op .f64 x y) < 18446744073709551616 := orN_lt fun r h => by
  unfold floatBits at h
  split at h
  · exact FloatKind.f64.format.add_lt h
  · exact FloatKind.f64.format.sub_lt h
  · exact FloatKind.f64.format.mul_lt h
  · exact FloatKind.f64.format.div_lt h
  · cases h
theorem one_lt (op : Int) {x : Nat} (h : x < 18446744073709551616) : oneF op x < 18446744073709551616 := by
  unfold oneF
  split
  · exact fx_lt (neg_lt h)
  split
  · exact fx_lt (by omega)
  split
  · refine fx_lt ?_
    unfold floorF
    split
    · exact h
    · exact enc_lt _
  split
  · exact orN_lt fun r hr => FloatKind.f64.format.sqrt_lt hr
  split
  · exact yes_lt _
  split
  · exact yes_lt _
  split
  · split
    · decide
    · split
      · decide
      · exact fx_lt h
  · exact fx_lt (foi_lt _)
theorem two_lt (op : Int) {x y : Nat} (h : x < 18446744073709551616) (k : y < 18446744073709551616) : twoF op x y < 18446744073709551616 := by
  unfold twoF
  split
  · exact bits_lt
  split
  · exact bits_lt
  split
  · exact bits_lt
  split
  · exact bits_lt
  split
  · refine fx_lt ?_
    unfold modF
    split
    · exact foi_lt _
    · exact nan_lt
  split
  · split
    · exact nan_lt
    · split
      · exact fx_lt k
      · exact fx_lt h
  split
  · split
    · exact nan_lt
    · split
      · exact fx_lt k
      · exact fx_lt h
  repeat' split
  all_goals exact yes_lt _

theorem FitA.top {code : List Ins} {m : Ms} (h : FitA code m) (n : Nat) : m.top n < 18446744073709551616 := by
  unfold Ms.top
  rw [List.getD_eq_getElem?_getD]
  rcases hx : m.stack[m.stack.length - 1 - n]? with _ | y
  · show 0 < _; decide
  · exact h.stack y (List.mem_of_getElem? hx)
theorem FitA.trade {code : List Ins} {m : Ms} (h : FitA code m) (n : Nat) {l : List Nat} (hl : ∀ y ∈ l, y < 18446744073709551616) : FitA code (m.trade n l) :=
  ⟨h.code, h.args, h.locals, fun y hy => by
    unfold Ms.trade at hy
    rcases List.mem_append.1 hy with h1 | h1
    · exact h.stack y (List.mem_of_mem_take h1)
    · exact hl y h1, h.writes⟩
theorem FitA.same {code : List Ins} {m m' : Ms} (h : FitA code m) (hb : m'.bad = m.bad) (ha : m'.args = m.args) (hl : m'.locals = m.locals) (hs : m'.stack = m.stack) (hw : m'.writes = m.writes) : FitA code m' :=
  ⟨by rw [hb]; exact h.code, by rw [ha]; exact h.args, by rw [hl]; exact h.locals, by rw [hs]; exact h.stack, by rw [hw]; exact h.writes⟩
theorem FitA.ends {code : List Ins} {m : Ms} (h : FitA code m) (a b c : Int) : FitA code (m.ends a b c).1 := h.same rfl rfl rfl rfl rfl
theorem one_mem {x : Nat} (h : x < 18446744073709551616) : ∀ y ∈ [x], y < 18446744073709551616 := fun y hy => by simp at hy; rw [hy]; exact h
theorem none_mem : ∀ y ∈ ([] : List Nat), y < 18446744073709551616 := by simp

theorem reck_fit {code : List Ins} {m : Ms} {x : Ins} (h : FitA code m) (hx : x.x < 18446744073709551616) : FitA code (m.reck x) := by
  unfold Ms.reck
  by_cases e : x.op = 1
  · rw [if_pos e]
    exact h.trade 0 (one_mem (fx_lt hx))
  rw [if_neg e]; clear e
  by_cases e : x.op = 2
  · rw [if_pos e]
    exact h.trade 1 none_mem
  rw [if_neg e]; clear e
  by_cases e : x.op = 3
  · rw [if_pos e]
    exact h.trade 0 (one_mem (h.top 0))
  rw [if_neg e]; clear e
  by_cases e : x.op = 4
  · rw [if_pos e]
    exact h.trade 2 (fun y hy => by simp at hy; rcases hy with e | e <;> rw [e] <;> exact h.top _)
  rw [if_neg e]; clear e
  by_cases e : x.op = 5
  · rw [if_pos e]
    exact h.trade 0 (one_mem (h.top _))
  rw [if_neg e]; clear e
  by_cases e : x.op = 6
  · rw [if_pos e]
    exact h.trade 0 (one_mem (h.args _))
  rw [if_neg e]; clear e
  by_cases e : x.op = 7
  · rw [if_pos e]
    exact h.trade 0 (one_mem (h.locals _))
  rw [if_neg e]; clear e
  by_cases e : x.op = 8
  · rw [if_pos e]
    have k := h.trade 1 none_mem
    refine ⟨k.code, k.args, fun i => ?_, k.stack, k.writes⟩
    show (if i = x.n.toNat then m.top 0 else m.locals i) < _
    by_cases hi : i = x.n.toNat
    · rw [if_pos hi]; exact h.top 0
    · rw [if_neg hi]; exact h.locals i
  rw [if_neg e]; clear e
  by_cases e : x.op = 9
  · rw [if_pos e]
    exact h.trade 1 (one_mem (one_lt _ (fx_lt (h.top 0))))
  rw [if_neg e]; clear e
  by_cases e : x.op = 10
  · rw [if_pos e]
    exact h.trade 2 (one_mem (two_lt _ (fx_lt (h.top 1)) (fx_lt (h.top 0))))
  rw [if_neg e]; clear e
  by_cases e : x.op = 18
  · rw [if_pos e]
    exact (h.trade 1 none_mem).same rfl rfl rfl rfl rfl
  rw [if_neg e]; clear e
  exact h
theorem wrote_in {l : List (Int × Nat)} {c : Int} {x : Nat} (h : wrote l c = some x) : ∃ t ∈ l, t.2 = x := by
  unfold wrote at h
  rcases hf : l.find? (fun t => t.1 == c) with _ | t
  · rw [hf] at h; cases h
  · rw [hf] at h; exact ⟨t, List.mem_of_find?_eq_some hf, by simpa using h⟩
theorem put_in {most : Int} {l : List (Int × Nat)} {c : Int} {x : Nat} {p : List (Int × Nat) × Bool} (h : putS most l c x = some p) : ∀ t ∈ p.1, t.2 = x ∨ t ∈ l := by
  unfold putS at h
  split at h
  · split at h
    · cases h
    · cases h
      intro t ht
      rcases List.mem_append.1 ht with h1 | h1
      · exact .inr h1
      · left; simp at h1; rw [h1]
  · cases h
    intro t ht
    simp only [rewrite, List.mem_map] at ht
    obtain ⟨s, hs, rfl⟩ := ht
    split
    · exact .inl rfl
    · exact .inr hs
theorem do_fit {C : Cfg} {code : List Ins} {m : Ms} {x : Ins} {q : Ms × Ask} {tag : Int} (h : FitA code m) (hx : x.x < 18446744073709551616) (e : m.doS C tag x = .ok q) : FitA code q.1 := by
  unfold Ms.doS at e
  split at e
  · unfold Ms.readS at e
    split at e
    · cases e
    · split at e
      · cases e; exact (h.trade 1 none_mem).same rfl rfl rfl rfl rfl
      · rename_i y hy
        cases e
        obtain ⟨t, ht, e1⟩ := wrote_in hy
        exact (h.trade 1 (one_mem (e1 ▸ h.writes t ht))).same rfl rfl rfl rfl rfl
  split at e
  · unfold Ms.writeS at e
    split at e
    · cases e
    split at e
    · cases e
    · split at e
      · cases e
      · rename_i p hp
        cases e
        have k := h.trade 2 none_mem
        refine ⟨k.code, k.args, k.locals, k.stack, fun t ht => ?_⟩
        rcases put_in hp t ht with h1 | h1
        · rw [h1]; exact fx_lt (h.top 1)
        · exact h.writes t h1
  split at e
  · cases e; exact h.ends _ _ _
  split at e
  · cases e; exact h.ends _ _ _
  split at e
  · cases e; exact h.same rfl rfl rfl rfl rfl
  split at e
  · cases e; exact (h.trade 1 none_mem).same rfl rfl rfl rfl rfl
  split at e
  · cases e; exact h.same rfl rfl rfl rfl rfl
  split at e
  · split at e
    · cases e; exact h.ends _ _ _
    · cases e; exact h.same rfl rfl rfl rfl rfl
  · cases e; exact reck_fit h hx
theorem begin_fit {code : List Ins} {m : Ms} (h : FitA code m) : FitA code m.begin := h.same rfl rfl rfl rfl rfl
theorem step_fit {C : Cfg} {code : List Ins} {m : Ms} {tag : Int} (h : FitA code m) : FitA code (m.step C tag code).1 := by
  unfold Ms.step
  split
  · exact h
  split
  · exact h
  split
  · exact h.ends _ _ _
  rename_i hb
  split
  · exact h.ends _ _ _
  split
  · exact h.ends _ _ _
  split
  · exact h.ends _ _ _
  rename_i x hx
  have hX := h.code (by simpa using hb) x (List.mem_of_getElem? hx)
  split
  · split
    · exact (begin_fit h).ends _ _ _
    · rename_i r hr
      exact do_fit (begin_fit h) hX hr
  · exact (begin_fit h).ends _ _ _
theorem give_fit {code : List Ins} {m : Ms} (h : FitA code m) {x : Nat} (hx : x < 18446744073709551616) : FitA code (m.give x).1 := by
  unfold Ms.give
  split
  · exact h
  · exact (h.trade 0 (one_mem (fx_lt hx))).same rfl rfl rfl rfl rfl
end Go.Proofs.YtphaeodcomgffaaGreat
set_option linter.unusedVariables false
set_option linter.unusedSimpArgs false
namespace Go.Proofs.YtphaeodcomgffaaGreat
open Go.RowKit

/-- A read under way. -/
structure Gwf (g : Rdg) : Prop where
  part0 : 0 ≤ g.part
  part3 : g.part ≤ 3
  steps0 : 0 ≤ g.steps
  steps1 : g.steps ≤ g.part
  value : g.value < 18446744073709551616
/-- What holds of a reader all along. -/
structure Rwf (C : Cfg) (code : List Ins) (s : Rs) : Prop where
  wf : Wf C code s.m
  fit : FitA code s.m
  len : s.m.bad = false → code.length ≤ 1024
  part1 : 1 ≤ s.part
  part4 : s.part ≤ 4
  n0 : 0 ≤ s.n
  n1 : s.part = 1 → s.n ≤ 2 ∧ s.m.used = 0
  read : ∀ g, s.read = some g → s.part = 2 ∧ s.m.wait = some g.cell ∧ Gwf g ∧ 1 ≤ g.part
  idle : s.read = none → s.m.wait = none
  how : s.part ≤ 2 → s.m.how = 0
  how3 : 3 ≤ s.part → s.m.how ≠ 0

/-- What a machine's step comes to. -/
def StepTo (m : Ms) (q : Ms × Ask) : Prop :=
  (q.2.kind = 4 ∧ q.1.wait = none ∧ q.1.how ≠ 0) ∨
  (q.2.kind = 1 ∧ q.1.wait = some q.2.cell ∧ q.1.used = m.used + 1 ∧ q.1.how = m.how) ∨
  (q.2.kind ≠ 4 ∧ q.2.kind ≠ 1 ∧ q.1.wait = none ∧ q.1.used = m.used + 1 ∧ q.1.how = m.how)
theorem reck_same (m : Ms) (x : Ins) : (m.reck x).wait = m.wait ∧ (m.reck x).used = m.used ∧ (m.reck x).how = m.how ∧ (m.reck x).bad = m.bad := by
  unfold Ms.reck
  by_cases e : x.op = 1
  · rw [if_pos e]; exact ⟨rfl, rfl, rfl, rfl⟩
  rw [if_neg e]; clear e
  by_cases e : x.op = 2
  · rw [if_pos e]; exact ⟨rfl, rfl, rfl, rfl⟩
  rw [if_neg e]; clear e
  by_cases e : x.op = 3
  · rw [if_pos e]; exact ⟨rfl, rfl, rfl, rfl⟩
  rw [if_neg e]; clear e
  by_cases e : x.op = 4
  · rw [if_pos e]; exact ⟨rfl, rfl, rfl, rfl⟩
  rw [if_neg e]; clear e
  by_cases e : x.op = 5
  · rw [if_pos e]; exact ⟨rfl, rfl, rfl, rfl⟩
  rw [if_neg e]; clear e
  by_cases e : x.op = 6
  · rw [if_pos e]; exact ⟨rfl, rfl, rfl, rfl⟩
  rw [if_neg e]; clear e
  by_cases e : x.op = 7
  · rw [if_pos e]; exact ⟨rfl, rfl, rfl, rfl⟩
  rw [if_neg e]; clear e
  by_cases e : x.op = 8
  · rw [if_pos e]; exact ⟨rfl, rfl, rfl, rfl⟩
  rw [if_neg e]; clear e
  by_cases e : x.op = 9
  · rw [if_pos e]; exact ⟨rfl, rfl, rfl, rfl⟩
  rw [if_neg e]; clear e
  by_cases e : x.op = 10
  · rw [if_pos e]; exact ⟨rfl, rfl, rfl, rfl⟩
  rw [if_neg e]; clear e
  by_cases e : x.op = 18
  · rw [if_pos e]; exact ⟨rfl, rfl, rfl, rfl⟩
  rw [if_neg e]; clear e
  exact ⟨rfl, rfl, rfl, rfl⟩
theorem ends_to {m b : Ms} (h c e : Int) (hw : b.wait = none) (hh : h ≠ 0) : StepTo m (b.ends h c e) := .inl ⟨rfl, hw, hh⟩
theorem do_to {C : Cfg} {m : Ms} {x : Ins} {q : Ms × Ask} {tag : Int} (hw : m.wait = none) (e : m.begin.doS C tag x = .ok q) : StepTo m q := by
  unfold Ms.doS at e
  split at e
  · unfold Ms.readS at e
    split at e
    · cases e
    · split at e
      · cases e; exact .inr (.inl ⟨rfl, rfl, rfl, rfl⟩)
      · cases e; exact .inr (.inr ⟨by show (2 : Int) ≠ 4; decide, by show (2 : Int) ≠ 1; decide, hw, rfl, rfl⟩)
  split at e
  · unfold Ms.writeS at e
    split at e
    · cases e
    split at e
    · cases e
    · split at e
      · cases e
      · cases e; exact .inr (.inr ⟨by show (3 : Int) ≠ 4; decide, by show (3 : Int) ≠ 1; decide, hw, rfl, rfl⟩)
  have no4 : askNone.kind ≠ 4 := by decide
  have no1 : askNone.kind ≠ 1 := by decide
  split at e
  · cases e; exact ends_to _ _ _ hw (by decide)
  split at e
  · cases e; exact ends_to _ _ _ hw (by decide)
  split at e
  · cases e; exact .inr (.inr ⟨no4, no1, hw, rfl, rfl⟩)
  split at e
  · cases e; exact .inr (.inr ⟨no4, no1, hw, rfl, rfl⟩)
  split at e
  · cases e; exact .inr (.inr ⟨no4, no1, hw, rfl, rfl⟩)
  split at e
  · split at e
    · cases e; exact ends_to _ _ _ hw (by decide)
    · cases e; exact .inr (.inr ⟨no4, no1, hw, rfl, rfl⟩)
  · cases e
    obtain ⟨e1, e2, e3, _⟩ := reck_same m.begin x
    exact .inr (.inr ⟨no4, no1, e1.trans hw, e2, e3⟩)
theorem step_to {C : Cfg} {code : List Ins} {m : Ms} {tag : Int} (hw : m.wait = none) : StepTo m (m.step C tag code) := by
  unfold Ms.step
  rw [hw]
  simp only
  split
  · rename_i hh; exact .inl ⟨rfl, hw, hh⟩
  split
  · exact ends_to _ _ _ hw (by decide)
  split
  · exact ends_to _ _ _ hw (by decide)
  split
  · exact ends_to _ _ _ hw (by decide)
  split
  · exact ends_to _ _ _ hw (by decide)
  split
  · split
    · exact ends_to _ _ _ hw (by decide)
    · rename_i r hr
      exact do_to hw hr
  · exact ends_to _ _ _ hw (by decide)
theorem mstep_bad {C : Cfg} {code : List Ins} {m : Ms} {tag : Int} : (m.step C tag code).1.bad = m.bad := by
  unfold Ms.step
  split
  · rfl
  split
  · rfl
  split
  · rfl
  split
  · rfl
  split
  · rfl
  split
  · rfl
  split
  · split
    · rfl
    · rename_i x _ _ r hr
      unfold Ms.doS at hr
      split at hr
      · unfold Ms.readS at hr
        split at hr
        · cases hr
        · split at hr <;> cases hr <;> rfl
      split at hr
      · unfold Ms.writeS at hr
        split at hr
        · cases hr
        split at hr
        · cases hr
        · split at hr
          · cases hr
          · cases hr; rfl
      split at hr
      · cases hr; rfl
      split at hr
      · cases hr; rfl
      split at hr
      · cases hr; rfl
      split at hr
      · cases hr; rfl
      split at hr
      · cases hr; rfl
      split at hr
      · split at hr <;> cases hr <;> rfl
      · cases hr; exact (reck_same _ _).2.2.2
  · rfl
theorem give_same (m : Ms) (x : Nat) : (m.give x).1.used = m.used ∧ (m.give x).1.how = m.how ∧ (m.give x).1.bad = m.bad ∧ (m.give x).1.wait = none := by
  unfold Ms.give
  cases h : m.wait
  · exact ⟨rfl, rfl, rfl, h⟩
  · exact ⟨rfl, rfl, rfl, rfl⟩

/-- The next place of a read. -/
theorem next_to {C : Cfg} {words : List Nat} {g : Rdg} (h : Gwf g) (hw : ∀ x ∈ words, x < 18446744073709551616) :
    (g.next C words).cell = g.cell ∧ ((g.next C words).part = 4 ∧ (g.next C words).value < 18446744073709551616 ∨ g.part < (g.next C words).part ∧ Gwf (g.next C words)) := by
  obtain ⟨h0, h3, s0, s1, hv⟩ := h
  have hx : words.getD (g.loc C) 0 < 18446744073709551616 := by
    rw [List.getD_eq_getElem?_getD]
    rcases he : words[g.loc C]? with _ | y
    · show 0 < _; decide
    · exact hw y (List.mem_of_getElem? he)
  unfold Rdg.next
  generalize words.getD (g.loc C) 0 = x at *
  unfold Rdg.eat Rdg.more
  simp only
  rcases (by omega : g.part = 0 ∨ g.part = 1 ∨ g.part = 2 ∨ g.part = 3) with e | e | e | e
  · simp only [e, if_true]
    refine ⟨trivial, .inr ?_⟩
    by_cases hgt : g.stamp < x
    · rw [if_pos hgt]; exact ⟨(by decide : (0 : Int) < 3), (by decide : (0 : Int) ≤ 3), (by decide : (3 : Int) ≤ 3), by show 0 ≤ g.steps + 1; omega, by show g.steps + 1 ≤ 3; omega, hv⟩
    · rw [if_neg hgt]; exact ⟨(by decide : (0 : Int) < 1), (by decide : (0 : Int) ≤ 1), (by decide : (1 : Int) ≤ 3), by show 0 ≤ g.steps + 1; omega, by show g.steps + 1 ≤ 1; omega, hv⟩
  · simp only [e, if_true, show ¬ (1 : Int) = 0 by decide, if_false]
    exact ⟨trivial, .inr ⟨(by decide : (1 : Int) < 2), (by decide : (0 : Int) ≤ 2), (by decide : (2 : Int) ≤ 3), by show 0 ≤ g.steps + 1; omega, by show g.steps + 1 ≤ 2; omega, fx_lt hx⟩⟩
  · simp only [e, if_true, show ¬ (2 : Int) = 0 by decide, show ¬ (2 : Int) = 1 by decide, if_false]
    refine ⟨trivial, ?_⟩
    by_cases ht : (x != g.version) = true
    · rw [if_pos ht]; exact .inr ⟨(by decide : (2 : Int) < 3), (by decide : (0 : Int) ≤ 3), (by decide : (3 : Int) ≤ 3), by show 0 ≤ g.steps + 1; omega, by show g.steps + 1 ≤ 3; omega, hv⟩
    · rw [if_neg ht]; exact .inl ⟨rfl, hv⟩
  · simp only [e, if_true, show ¬ (3 : Int) = 0 by decide, show ¬ (3 : Int) = 1 by decide, show ¬ (3 : Int) = 2 by decide, if_false]
    exact ⟨trivial, .inl ⟨trivial, fx_lt hx⟩⟩
theorem new_gwf (cell : Int) (stamp : Nat) : Gwf (Rdg.new cell stamp) := ⟨(by decide : (0 : Int) ≤ 0), (by decide : (0 : Int) ≤ 3), (by decide : (0 : Int) ≤ 0), (by decide : (0 : Int) ≤ 0), (by decide : (0 : Nat) < 18446744073709551616)⟩

/-- How many steps a reader has left, at most. -/
def Rs.left (C : Cfg) (s : Rs) : Int :=
  if s.part = 1 then 5 - s.n + 4 * C.fuel else if s.part = 2 then 2 + 4 * (C.fuel - s.m.used) + (match s.read with | none => 0 | some g => 4 - g.part) else if s.part = 3 then 1 else 0
theorem new_rwf {C : Cfg} {code : List Ins} {b : Bool} {args : List Nat} (hC : C.ok) (hb : b = false → (∀ x ∈ code, mayS x code.length = true) ∧ code.length ≤ 1024 ∧ ∀ x ∈ code, x.x < 18446744073709551616) (ha : ∀ x ∈ args, x < 18446744073709551616) : Rwf C code (newRs b args) := by
  have hn : newMs b args args.length = Ms.new b args := rfl
  refine ⟨new_wf (args := args) hC fun e => (hb e).1, ⟨fun e => (hb e).2.2, fun i => ?_, fun i => ?_, ?_, ?_⟩, fun e => (hb e).2.1, (by decide : (1 : Int) ≤ 1), (by decide : (1 : Int) ≤ 4), (by decide : (0 : Int) ≤ 0), fun _ => ⟨(by decide : (0 : Int) ≤ 2), rfl⟩, ?_, fun _ => rfl, fun _ => rfl, ?_⟩
  · show (if i < args.length then fx (args.getD i 0) else 0) < _
    split
    · rename_i hi
      refine fx_lt ?_
      rw [List.getD_eq_getElem?_getD, List.getElem?_eq_getElem hi]
      exact ha _ (List.getElem_mem hi)
    · decide
  · show 0 < _; decide
  · intro y hy; cases hy
  · intro y hy; cases hy
  · intro g hg; cases hg
  · intro h; exact absurd (show (3 : Int) ≤ 1 from h) (by decide)
theorem new_left (C : Cfg) (b : Bool) (args : List Nat) : (newRs b args).left C = 5 + 4 * C.fuel := by
  show (if (1 : Int) = 1 then 5 - (0 : Int) + 4 * C.fuel else _) = _
  rw [if_pos rfl]; omega

/-- What a step does to a reader and to the words. -/
structure StepR (C : Cfg) (code : List Ins) (th : Int) (s : Rs) (words : List Nat) (q : Rs × List Nat × Bool) : Prop where
  rwf : Rwf C code q.1
  left : q.1.left C < s.left C
  steps : q.1.steps = s.steps + 1
  len : q.2.1.length = words.length
  fit : ∀ x ∈ q.2.1, x < 18446744073709551616
  over : q.1.part = 4 → q.2.1 = words.set (3 + th.toNat) 0
theorem set_fit {l : List Nat} (h : ∀ x ∈ l, x < 18446744073709551616) (i : Nat) {y : Nat} (hy : y < 18446744073709551616) : ∀ x ∈ l.set i y, x < 18446744073709551616 := fun x hx => by
  rcases List.mem_or_eq_of_mem_set hx with h1 | h1
  · exact h x h1
  · rw [h1]; exact hy
theorem rd_ok {C : Cfg} {code : List Ins} {words : List Nat} {s : Rs} {g : Rdg} {c : Int} (hW : Wf C code s.m) (hF : FitA code s.m) (hl : s.m.bad = false → code.length ≤ 1024) (hp : s.part = 2) (hn : 0 ≤ s.n) (hh : s.m.how = 0) (hwait : s.m.wait = some g.cell) (hg : Gwf g) (hw : ∀ x ∈ words, x < 18446744073709551616) :
    Rwf C code (s.rd C words g) ∧ (s.rd C words g).left C < 2 + 4 * (C.fuel - s.m.used) + (4 - g.part) ∧ (s.rd C words g).part = 2 ∧ (s.rd C words g).steps = s.steps := by
  obtain ⟨e1, e2⟩ := next_to (C := C) hg hw
  have h3 := hg.part3
  unfold Rs.rd
  rcases e2 with ⟨e, hv⟩ | ⟨e, hv⟩
  · rw [if_pos e]
    obtain ⟨u1, u2, u3, u4⟩ := give_same s.m (g.next C words).value
    refine ⟨⟨give_wf hW _, give_fit hF hv, ?_, ?_, ?_, hn, ?_, ?_, fun _ => u4, fun _ => u2.trans hh, ?_⟩, ?_, hp, rfl⟩
    · show (s.m.give _).1.bad = false → _; rw [u3]; exact hl
    · show 1 ≤ s.part; omega
    · show s.part ≤ 4; omega
    · intro h; exact absurd (show s.part = 1 from h) (by omega)
    · intro g2 hg2; cases hg2
    · intro h; exact absurd (show 3 ≤ s.part from h) (by omega)
    · unfold Rs.left
      simp only [hp, show ¬ (2 : Int) = 1 by decide, if_false, if_true, u1]
      omega
  · have h4 := hv.part3
    rw [if_neg (by omega)]
    refine ⟨⟨hW, hF, hl, ?_, ?_, hn, ?_, ?_, ?_, fun _ => hh, ?_⟩, ?_, hp, rfl⟩
    · show 1 ≤ s.part; omega
    · show s.part ≤ 4; omega
    · intro h; exact absurd (show s.part = 1 from h) (by omega)
    · intro g2 hg2
      have : g.next C words = g2 := by simpa using hg2
      subst this
      have := hg.part0
      exact ⟨hp, by rw [e1]; exact hwait, hv, by omega⟩
    · intro h; cases h
    · intro h; exact absurd (show 3 ≤ s.part from h) (by omega)
    · unfold Rs.left
      simp only [hp, show ¬ (2 : Int) = 1 by decide, if_false, if_true]
      omega
theorem rdr_step_ok {C : Cfg} {code : List Ins} {tag th : Int} {words : List Nat} {s : Rs} (h : Rwf C code s) (hp : s.part ≠ 4) (hw : ∀ x ∈ words, x < 18446744073709551616) : StepR C code th s words (s.step C tag code th words) := by
  have hx : words.getD 2 0 < 18446744073709551616 := by
    rw [List.getD_eq_getElem?_getD]
    rcases he : words[2]? with _ | y
    · show 0 < _; decide
    · exact hw y (List.mem_of_getElem? he)
  have p1 := h.part1; have p4 := h.part4; have n0 := h.n0
  have hu0 := h.wf.used0; have hu1 := h.wf.used1
  unfold Rs.step
  by_cases e1 : s.part = 1
  · obtain ⟨n2, hu⟩ := h.n1 e1
    have hh := h.how (by omega)
    have hr : s.read = none := by
      cases hr : s.read with
      | none => rfl
      | some g => have := (h.read g hr).1; omega
    have hwt := h.idle hr
    rw [if_pos e1]
    by_cases e2 : s.n = 0
    · rw [if_pos e2]
      refine ⟨⟨h.wf, h.fit, h.len, p1, p4, by show (0 : Int) ≤ 1; decide, fun _ => ⟨by show (1 : Int) ≤ 2; decide, hu⟩, h.read, h.idle, h.how, h.how3⟩, ?_, rfl, rfl, hw, fun e => absurd (show s.part = 4 from e) hp⟩
      unfold Rs.left
      simp only [e1, if_true]
      omega
    · rw [if_neg e2]
      by_cases e3 : s.n = 1
      · rw [if_pos e3]
        refine ⟨⟨h.wf, h.fit, h.len, p1, p4, by show (0 : Int) ≤ 2; decide, fun _ => ⟨by show (2 : Int) ≤ 2; decide, hu⟩, h.read, h.idle, h.how, h.how3⟩, ?_, rfl, by simp, set_fit hw _ (by omega), fun e => absurd (show s.part = 4 from e) hp⟩
        unfold Rs.left
        simp only [e1, if_true]
        omega
      · rw [if_neg e3]
        refine ⟨⟨h.wf, h.fit, h.len, by show (1 : Int) ≤ 2; decide, by show (2 : Int) ≤ 4; decide, by show (0 : Int) ≤ 3; decide, fun e => absurd (show (2 : Int) = 1 from e) (by decide), fun g hg => ?_, h.idle, fun _ => hh, fun e => absurd (show (3 : Int) ≤ 2 from e) (by decide)⟩, ?_, rfl, rfl, hw, fun e => absurd (show (2 : Int) = 4 from e) (by decide)⟩
        · rw [show ({ s with steps := s.steps + 1, n := 3, stamp := words.getD 2 0, part := 2 } : Rs).read = s.read from rfl, hr] at hg; cases hg
        · unfold Rs.left
          simp only [e1, if_true, hr, show ¬ (2 : Int) = 1 by decide, if_false]
          omega
  · rw [if_neg e1]
    by_cases e3 : s.part = 3
    · rw [if_pos e3]
      have hr : s.read = none := by
        cases hr : s.read with
        | none => rfl
        | some g => have := (h.read g hr).1; omega
      refine ⟨⟨h.wf, h.fit, h.len, by show (1 : Int) ≤ 4; decide, by show (4 : Int) ≤ 4; decide, n0, fun e => absurd (show (4 : Int) = 1 from e) (by decide), fun g hg => ?_, h.idle, fun e => absurd (show (4 : Int) ≤ 2 from e) (by decide), fun _ => h.how3 (by omega)⟩, ?_, rfl, by simp, set_fit hw _ (by decide), fun _ => rfl⟩
      · have hg' : s.read = some g := hg
        rw [hr] at hg'; cases hg'
      · unfold Rs.left
        simp only [e3, if_true, show ¬ (3 : Int) = 1 by decide, show ¬ (3 : Int) = 2 by decide, show ¬ (4 : Int) = 1 by decide, show ¬ (4 : Int) = 2 by decide, show ¬ (4 : Int) = 3 by decide, if_false]
        decide
    · rw [if_neg e3]
      have e2 : s.part = 2 := by omega
      have hh := h.how (by omega)
      unfold Rs.run
      simp only
      have nn : ∀ s' : Rs, s'.part = 2 → ¬ s'.part = 4 := fun s' e => by omega
      cases hr : s.read with
      | some g =>
        obtain ⟨_, hwt, hg, hg1⟩ := h.read g hr
        have K := rd_ok (C := C) (code := code) (s := { s with steps := s.steps + 1, read := some g }) (words := words) (g := g) (c := g.cell) h.wf h.fit h.len e2 n0 hh hwt hg hw
        have es : ({ s with steps := s.steps + 1 } : Rs) = { s with steps := s.steps + 1, read := some g } := by rw [← hr]
        simp only [es]
        obtain ⟨k1, k2, k3, k4⟩ := K
        refine ⟨k1, ?_, k4, rfl, hw, fun e => absurd e (nn _ k3)⟩
        refine Int.lt_of_lt_of_le k2 ?_
        conv => rhs; unfold Rs.left
        simp only [e2, hr, show ¬ (2 : Int) = 1 by decide, if_false, if_true]
        exact Int.le_refl _
      | none =>
        have hwt := h.idle hr
        have W := step_wf (tag := tag) h.wf
        have F := step_fit (C := C) (tag := tag) h.fit
        have B := mstep_bad (C := C) (code := code) (m := s.m) (tag := tag)
        have L : (s.m.step C tag code).1.bad = false → code.length ≤ 1024 := by rw [B]; exact h.len
        have U := W.used1
        have T := step_to (C := C) (code := code) (tag := tag) hwt
        generalize s.m.step C tag code = q at *
        rcases T with ⟨t1, t2, t3⟩ | ⟨t1, t2, t3, t4⟩ | ⟨t1, t2, t3, t4, t5⟩
        · rw [if_pos t1]
          refine ⟨⟨W, F, L, by show (1 : Int) ≤ 3; decide, by show (3 : Int) ≤ 4; decide, n0, fun e => absurd (show (3 : Int) = 1 from e) (by decide), fun g hg => ?_, fun _ => t2, fun e => absurd (show (3 : Int) ≤ 2 from e) (by decide), fun _ => t3⟩, ?_, rfl, rfl, hw, fun e => absurd (show (3 : Int) = 4 from e) (by decide)⟩
          · have hg' : (none : Option Rdg) = some g := hg
            cases hg'
          · unfold Rs.left
            simp only [e2, hr, if_true, show ¬ (3 : Int) = 1 by decide, show ¬ (3 : Int) = 2 by decide, show ¬ (2 : Int) = 1 by decide, if_false]
            omega
        · rw [if_neg (by omega), if_pos t1]
          have K := rd_ok (C := C) (code := code) (s := { s with steps := s.steps + 1, m := q.1 }) (words := words) (g := Rdg.new q.2.cell s.stamp) (c := q.2.cell) W F L e2 n0 (t4.trans hh) t2 (new_gwf _ _) hw
          obtain ⟨k1, k2, k3, k4⟩ := K
          refine ⟨k1, ?_, k4, rfl, hw, fun e => absurd e (nn _ k3)⟩
          refine Int.lt_of_lt_of_le k2 ?_
          conv => rhs; unfold Rs.left
          simp only [e2, hr, show ¬ (2 : Int) = 1 by decide, if_false, if_true, t3, Rdg.new]
          omega
        · rw [if_neg t1, if_neg t2]
          refine ⟨⟨W, F, L, p1, p4, n0, fun e => absurd (show s.part = 1 from e) e1, fun g hg => ?_, fun _ => t3, fun _ => t5.trans hh, fun e => absurd (show 3 ≤ s.part from e) (by omega)⟩, ?_, rfl, rfl, hw, fun e => absurd (show s.part = 4 from e) hp⟩
          · have hg' : (none : Option Rdg) = some g := hg
            cases hg'
          · unfold Rs.left
            simp only [e2, hr, if_true, show ¬ (2 : Int) = 1 by decide, if_false, t4]
            omega
end Go.Proofs.YtphaeodcomgffaaGreat
set_option linter.unusedVariables false
set_option linter.unusedSimpArgs false
namespace Go.Proofs.YtphaeodcomgffaaGreat
open Go.RowKit

theorem runP_val {f : Nat} {av : Array Value} {W : World} {ro : Nat → Nat} {r rm : Nat} {w : World} {X : Nat} {C : Cfg} {th tag : Int} {code : List Ins} {args : List Nat} {s : Rs} {MB : Nat} {v : Value} {words : List Nat} {op : Bool} {cnt : Int} {val val' : Value}
    (h : Calls Tryz.prog f av W (RunP ro r rm w X C th tag code args s MB v words op cnt val)) (e : val' = val) : Calls Tryz.prog f av W (RunP ro r rm w X C th tag code args s MB v words op cnt val') := e ▸ h
/-- run, whatever it comes to. -/
theorem run_walk {ro : Nat → Nat} {r rm : Nat} {w : World} {X : Nat} {C : Cfg} {th tag : Int} {code : List Ins} {args : List Nat} {s : Rs} {q : Rp} {MB : Nat} {v : Value} {words : List Nat} {cnt : Int} (hC : C.ok) (h : RIs ro r w X C th tag code args s q) (hm : MemIs ro rm w MB v words true cnt) (hrm : rm + 1 < r ∨ r + 31 < rm) (hl : (words.length : Int) = 3 + C.threads + 3 * C.cells) (c0 : 0 ≤ cnt) (c1 : cnt ≤ 1000000000) (R : Rwf C code s) (e2 : s.part = 2) :
    Calls Tryz.prog 64 #[ptr X, ptr MB] w (RunP ro r rm w X C th tag code args (s.run C tag code words).1 MB v words (!(s.run C tag code words).2) (if (s.run C tag code words).2 then cnt + 1 else cnt) (.tuple #[])) := by
  have hu1 := R.wf.used1
  have hC6 := hC.2.2.2.2.2.1
  unfold Rs.run
  cases hr : s.read with
  | some g =>
    obtain ⟨_, hwt, hg, hg1⟩ := R.read g hr
    obtain ⟨k1, k2, k3, k4⟩ := R.wf.wait _ hwt
    have s1 := hg.steps1
    have p3 := hg.part3
    unfold Rs.rd
    by_cases e : (g.next C words).part = 4
    · simp only [if_pos e]
      exact run_done hC h hm hrm hr ⟨hg.part0, p3⟩ k1 k2 hl c0 c1 hg.steps0 (by omega) e hwt (by omega) (by omega)
    · simp only [if_neg e]
      exact run_goes hC h hm hrm hr ⟨hg.part0, p3⟩ k1 k2 hl c0 c1 hg.steps0 (by omega) e
  | none =>
    have hwt := R.idle hr
    have SW := mstep_walk h.mach hC R.wf ⟨R.fit.stack⟩ R.len
    have T := step_to (C := C) (code := code) (tag := tag) hwt
    have W := step_wf (tag := tag) R.wf
    generalize s.m.step C tag code = p at *
    simp only
    rcases T with ⟨t1, t2, t3⟩ | ⟨t1, t2, t3, t4⟩ | ⟨t1, t2, t3, t4, t5⟩
    · rw [if_pos t1]
      have K := run_ends h hm hrm hr t1 SW
      rw [hr] at K
      exact K
    · rw [if_neg (by omega), if_pos t1]
      obtain ⟨k1, k2, k3, k4⟩ := W.wait _ t2
      have hn : ((Rdg.new p.2.cell s.stamp).next C words).part ≠ 4 := by rcases new_next C words p.2.cell s.stamp with e | e <;> omega
      unfold Rs.rd
      simp only [if_neg hn]
      exact run_asks hC h hm hrm hr t1 k1 k2 hl c0 c1 SW
    · rw [if_neg t1, if_neg t2]
      have K := run_plain h hm hrm hr t1 t2 SW
      rw [hr] at K
      exact K
/-- A step of a reader. -/
theorem readerstep_walk {ro : Nat → Nat} {r rm : Nat} {w : World} {X : Nat} {C : Cfg} {th tag : Int} {code : List Ins} {args : List Nat} {s : Rs} {q : Rp} {MB : Nat} {v : Value} {words : List Nat} {op : Bool} {cnt : Int} (hC : C.ok) (h : RIs ro r w X C th tag code args s q) (hm : MemIs ro rm w MB v words op cnt) (hrm : rm + 1 < r ∨ r + 31 < rm) (hl : (words.length : Int) = 3 + C.threads + 3 * C.cells) (t0 : 0 ≤ th) (t1 : th < C.threads) (c0 : 0 ≤ cnt) (c1 : cnt ≤ 1000000000) (s0 : 0 ≤ s.steps) (s1 : s.steps ≤ 1000000) (R : Rwf C code s) (hp : s.part ≠ 4) :
    Calls Tryz.prog 18 #[ptr X, ptr MB] w (RunP ro r rm w X C th tag code args (s.step C tag code th words).1 MB v (s.step C tag code th words).2.1 (!(s.step C tag code th words).2.2) (if (s.step C tag code th words).2.2 then cnt + 1 else cnt) (.tuple #[.bool ((s.step C tag code th words).1.part == 4), .int .i64 0])) := by
  have p1 := R.part1
  have p4 := R.part4
  have n0 := R.n0
  have hp4 : (s.part == 4) = false := by simpa using hp
  unfold Rs.step
  by_cases e1 : s.part = 1
  · obtain ⟨n2, hu⟩ := R.n1 e1
    rw [if_pos e1]
    by_cases e2 : s.n = 0
    · rw [if_pos e2]
      refine runP_val (rstep_a h hm hrm hl hC t0 t1 c0 c1 s0 s1 e1 e2) ?_
      show Value.tuple #[.bool (s.part == 4), .int .i64 0] = _
      rw [hp4]
    · rw [if_neg e2]
      by_cases e3 : s.n = 1
      · rw [if_pos e3]
        refine runP_val (rstep_b h hm hrm hl hC t0 t1 c0 c1 s0 s1 e1 e3) ?_
        show Value.tuple #[.bool (s.part == 4), .int .i64 0] = _
        rw [hp4]
      · rw [if_neg e3]
        exact runP_val (rstep_c h hm hrm hl hC t0 t1 c0 c1 s0 s1 e1 (by omega)) rfl
  · rw [if_neg e1]
    by_cases e3 : s.part = 3
    · rw [if_pos e3]
      exact runP_val (rstep_d h hm hrm hl hC t0 t1 c0 c1 s0 s1 e3) rfl
    · rw [if_neg e3]
      have e2 : s.part = 2 := by omega
      have K := rdr_step_ok (C := C) (code := code) (tag := tag) (th := th) (words := []) (s := s) R hp (by simp)
      have hq : ∀ ws, (({ s with steps := s.steps + 1 } : Rs).run C tag code ws).1.part ≠ 4 := fun ws => by
        unfold Rs.run
        split
        · unfold Rs.rd
          split <;> (show s.part ≠ 4; exact hp)
        · simp only
          split
          · show (3 : Int) ≠ 4; decide
          split
          · unfold Rs.rd
            split <;> (show s.part ≠ 4; exact hp)
          · show s.part ≠ 4; exact hp
      have hq4 : ((({ s with steps := s.steps + 1 } : Rs).run C tag code words).1.part == 4) = false := by simpa using hq words
      have R' : Rwf C code ({ s with steps := s.steps + 1 } : Rs) := ⟨R.wf, R.fit, R.len, R.part1, R.part4, R.n0, R.n1, R.read, R.idle, R.how, R.how3⟩
      refine runP_val (rstep_e h hm hrm hl hC t0 t1 c0 c1 s0 s1 e2 _ (({ s with steps := s.steps + 1 } : Rs).run C tag code words).2 (hq words) fun ro' W h' hm' => run_walk hC h' hm' hrm hl c0 c1 R' e2) ?_
      show Value.tuple #[.bool ((({ s with steps := s.steps + 1 } : Rs).run C tag code words).1.part == 4), .int .i64 0] = _
      rw [hq4]
end Go.Proofs.YtphaeodcomgffaaGreat
