import Derived.Test.YtphaeodcomgffaaGreatQC
set_option linter.unusedVariables false
set_option linter.unusedSimpArgs false
namespace Go.Proofs.YtphaeodcomgffaaGreat
open Go.RowKit Ieee

/-- All numbers of a machine have the one NaN; a machine that goes on has no error. -/
structure FixA (m : Ms) : Prop where
  args : ∀ i, fx (m.args i) = m.args i
  locals : ∀ i, fx (m.locals i) = m.locals i
  stack : ∀ y ∈ m.stack, fx y = y
  writes : ∀ t ∈ m.writes, fx t.2 = t.2
  clean : m.how = 0 → m.ecode = 0 ∧ m.err = 0

theorem fx_0 : fx 0 = 0 := by decide +kernel
theorem fx_nan : fx theNaN = theNaN := fx_bad bad_nan
theorem fx_orN (o : Option Nat) : fx (orN o) = orN o := by
  cases o with
  | none => exact fx_nan
  | some x => exact fx_fx x
theorem one_fix (op : Int) (x : Nat) : fx (oneF op x) = oneF op x := by
  unfold oneF
  split
  · exact fx_fx _
  split
  · exact fx_fx _
  split
  · exact fx_fx _
  split
  · exact fx_orN _
  split
  · exact fx_yes _
  split
  · exact fx_yes _
  split
  · split
    · decide +kernel
    · split
      · decide +kernel
      · exact fx_fx _
  · exact fx_fx _
theorem two_fix (op : Int) (x y : Nat) : fx (twoF op x y) = twoF op x y := by
  unfold twoF
  split
  · exact fx_orN _
  split
  · exact fx_orN _
  split
  · exact fx_orN _
  split
  · exact fx_orN _
  split
  · exact fx_fx _
  split
  · split
    · exact fx_nan
    · split
      · exact fx_fx _
      · exact fx_fx _
  split
  · split
    · exact fx_nan
    · split
      · exact fx_fx _
      · exact fx_fx _
  repeat' split
  all_goals exact fx_yes _
theorem FixA.top {m : Ms} (h : FixA m) (n : Nat) : fx (m.top n) = m.top n := by
  unfold Ms.top
  rw [List.getD_eq_getElem?_getD]
  rcases hx : m.stack[m.stack.length - 1 - n]? with _ | y
  · exact fx_0
  · exact h.stack y (List.mem_of_getElem? hx)
theorem FixA.trade {m : Ms} (h : FixA m) (n : Nat) {l : List Nat} (hl : ∀ y ∈ l, fx y = y) : FixA (m.trade n l) :=
  ⟨h.args, h.locals, fun y hy => by
    unfold Ms.trade at hy
    rcases List.mem_append.1 hy with h1 | h1
    · exact h.stack y (List.mem_of_mem_take h1)
    · exact hl y h1, h.writes, h.clean⟩
theorem FixA.same {m m' : Ms} (h : FixA m) (ha : m'.args = m.args) (hl : m'.locals = m.locals) (hs : m'.stack = m.stack) (hw : m'.writes = m.writes) (hh : m'.how = m.how) (hc : m'.ecode = m.ecode) (he : m'.err = m.err) : FixA m' :=
  ⟨by rw [ha]; exact h.args, by rw [hl]; exact h.locals, by rw [hs]; exact h.stack, by rw [hw]; exact h.writes, by rw [hh, hc, he]; exact h.clean⟩
theorem FixA.ends {m : Ms} (h : FixA m) {a : Int} (ha : a ≠ 0) (b c : Int) : FixA (m.ends a b c).1 := ⟨h.args, h.locals, h.stack, h.writes, fun e => absurd e ha⟩
theorem one_fixm {x : Nat} (h : fx x = x) : ∀ y ∈ [x], fx y = y := fun y hy => by simp at hy; rw [hy]; exact h
theorem none_fixm : ∀ y ∈ ([] : List Nat), fx y = y := by simp

theorem reck_fix {m : Ms} {x : Ins} (h : FixA m) : FixA (m.reck x) := by
  unfold Ms.reck
  by_cases e : x.op = 1
  · rw [if_pos e]
    exact h.trade 0 (one_fixm (fx_fx _))
  rw [if_neg e]; clear e
  by_cases e : x.op = 2
  · rw [if_pos e]
    exact h.trade 1 none_fixm
  rw [if_neg e]; clear e
  by_cases e : x.op = 3
  · rw [if_pos e]
    exact h.trade 0 (one_fixm (h.top 0))
  rw [if_neg e]; clear e
  by_cases e : x.op = 4
  · rw [if_pos e]
    exact h.trade 2 (fun y hy => by simp at hy; rcases hy with e | e <;> rw [e] <;> exact h.top _)
  rw [if_neg e]; clear e
  by_cases e : x.op = 5
  · rw [if_pos e]
    exact h.trade 0 (one_fixm (h.top _))
  rw [if_neg e]; clear e
  by_cases e : x.op = 6
  · rw [if_pos e]
    exact h.trade 0 (one_fixm (h.args _))
  rw [if_neg e]; clear e
  by_cases e : x.op = 7
  · rw [if_pos e]
    exact h.trade 0 (one_fixm (h.locals _))
  rw [if_neg e]; clear e
  by_cases e : x.op = 8
  · rw [if_pos e]
    have k := h.trade 1 none_fixm
    refine ⟨k.args, fun i => ?_, k.stack, k.writes, k.clean⟩
    show fx (if i = x.n.toNat then m.top 0 else m.locals i) = (if i = x.n.toNat then m.top 0 else m.locals i)
    by_cases hi : i = x.n.toNat
    · rw [if_pos hi]; exact h.top 0
    · rw [if_neg hi]; exact h.locals i
  rw [if_neg e]; clear e
  by_cases e : x.op = 9
  · rw [if_pos e]
    exact h.trade 1 (one_fixm (one_fix _ _))
  rw [if_neg e]; clear e
  by_cases e : x.op = 10
  · rw [if_pos e]
    exact h.trade 2 (one_fixm (two_fix _ _ _))
  rw [if_neg e]; clear e
  by_cases e : x.op = 18
  · rw [if_pos e]
    exact (h.trade 1 none_fixm).same rfl rfl rfl rfl rfl rfl rfl
  rw [if_neg e]; clear e
  exact h
theorem do_fix {C : Cfg} {m : Ms} {x : Ins} {q : Ms × Ask} {tag : Int} (h : FixA m) (e : m.doS C tag x = .ok q) : FixA q.1 := by
  unfold Ms.doS at e
  split at e
  · unfold Ms.readS at e
    split at e
    · cases e
    · split at e
      · cases e; exact (h.trade 1 none_fixm).same rfl rfl rfl rfl rfl rfl rfl
      · rename_i y hy
        cases e
        obtain ⟨t, ht, e1⟩ := wrote_in hy
        exact (h.trade 1 (one_fixm (e1 ▸ h.writes t ht))).same rfl rfl rfl rfl rfl rfl rfl
  split at e
  · unfold Ms.writeS at e
    split at e
    · cases e
    split at e
    · cases e
    · split at e
      · cases e
      · rename_i p hp
        cases e
        have k := h.trade 2 none_fixm
        refine ⟨k.args, k.locals, k.stack, fun t ht => ?_, k.clean⟩
        rcases put_in hp t ht with h1 | h1
        · rw [h1]; exact fx_fx _
        · exact h.writes t h1
  split at e
  · cases e; exact h.ends (by decide) _ _
  split at e
  · cases e; exact h.ends (by decide) _ _
  split at e
  · cases e; exact h.same rfl rfl rfl rfl rfl rfl rfl
  split at e
  · cases e; exact (h.trade 1 none_fixm).same rfl rfl rfl rfl rfl rfl rfl
  split at e
  · cases e; exact h.same rfl rfl rfl rfl rfl rfl rfl
  split at e
  · split at e
    · cases e; exact h.ends (by decide) _ _
    · cases e; exact h.same rfl rfl rfl rfl rfl rfl rfl
  · cases e; exact reck_fix h
theorem begin_fix {m : Ms} (h : FixA m) : FixA m.begin := h.same rfl rfl rfl rfl rfl rfl rfl
theorem step_fix {C : Cfg} {code : List Ins} {m : Ms} {tag : Int} (h : FixA m) : FixA (m.step C tag code).1 := by
  unfold Ms.step
  split
  · exact h
  split
  · exact h
  split
  · exact h.ends (by decide) _ _
  split
  · exact h.ends (by decide) _ _
  split
  · exact h.ends (by decide) _ _
  split
  · exact h.ends (by decide) _ _
  split
  · split
    · exact (begin_fix h).ends (by decide) _ _
    · rename_i r hr
      exact do_fix (begin_fix h) hr
  · exact (begin_fix h).ends (by decide) _ _
theorem give_fix {m : Ms} (h : FixA m) {x : Nat} : FixA (m.give x).1 := by
  unfold Ms.give
  split
  · exact h
  · exact (h.trade 0 (one_fixm (fx_fx x))).same rfl rfl rfl rfl rfl rfl rfl
theorem new_fix (bad : Bool) (args : List Nat) : FixA (Ms.new bad args) := by
  refine ⟨fun i => ?_, fun _ => fx_0, by simp [Ms.new], by simp [Ms.new], fun _ => ⟨rfl, rfl⟩⟩
  show fx (if i < args.length then fx (args.getD i 0) else 0) = (if i < args.length then fx (args.getD i 0) else 0)
  split
  · exact fx_fx _
  · exact fx_0
end Go.Proofs.YtphaeodcomgffaaGreat
