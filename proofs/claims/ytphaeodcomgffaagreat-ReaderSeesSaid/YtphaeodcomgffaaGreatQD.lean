import Derived.Test.YtphaeodcomgffaaGreatQC
set_option linter.unusedVariables false
set_option linter.unusedSimpArgs false
namespace Go.Proofs.YtphaeodcomgffaaGreat
open Go.RowKit

/-- What the cell's three words say of a stamp. -/
def wantS (C : Cfg) (ws : List Nat) (stamp : Nat) (c : Int) : Nat :=
  if stamp < ws.getD (3 + C.threads + 3 * c).toNat 0 then fx (ws.getD ((3 + C.threads + 3 * c).toNat + 2) 0) else fx (ws.getD ((3 + C.threads + 3 * c).toNat + 1) 0)
structure SeenG (C : Cfg) (ws : List Nat) (g : Rdg) : Prop where
  c0 : 0 ≤ g.cell
  c1 : g.cell < C.cells
  stamp : g.stamp = ws.getD 2 0
  version : g.version = ws.getD (3 + C.threads + 3 * g.cell).toNat 0
  how : (g.part = 1 ∧ ¬ g.stamp < g.version) ∨ (g.part = 2 ∧ ¬ g.stamp < g.version ∧ g.value = fx (ws.getD ((3 + C.threads + 3 * g.cell).toNat + 1) 0)) ∨ (g.part = 3 ∧ g.stamp < g.version)
/-- A reader in words that nobody changes but it. -/
structure Seen (C : Cfg) (th : Int) (ws0 : List Nat) (s : Rs) (ws : List Nat) : Prop where
  len : ws.length = ws0.length
  same : ∀ i, i ≠ 3 + th.toNat → ws.getD i 0 = ws0.getD i 0
  stamp : 2 ≤ s.part → s.stamp = ws0.getD 2 0
  writes : s.m.writes = []
  reads : ∀ t ∈ s.m.reads, 0 ≤ t.1 ∧ t.1 < C.cells ∧ t.2 = wantS C ws0 (ws0.getD 2 0) t.1
  read : ∀ g, s.read = some g → SeenG C ws0 g

theorem next_seen {C : Cfg} {th : Int} {ws0 ws : List Nat} {g : Rdg} (hC : C.ok) (t0 : 0 ≤ th) (t1 : th < C.threads) (same : ∀ i, i ≠ 3 + th.toNat → ws.getD i 0 = ws0.getD i 0) (h : SeenG C ws0 g) :
    ((g.next C ws).part = 4 ∧ (g.next C ws).value = wantS C ws0 (ws0.getD 2 0) g.cell) ∨ SeenG C ws0 (g.next C ws) := by
  obtain ⟨c0, c1, hs, hv, how⟩ := h
  have A : ∀ j : Nat, ws.getD ((3 + C.threads + 3 * g.cell).toNat + j) 0 = ws0.getD ((3 + C.threads + 3 * g.cell).toNat + j) 0 := fun j => same _ (by omega)
  have hl : ∀ j : Nat, g.which = j → ws.getD (g.loc C) 0 = ws0.getD ((3 + C.threads + 3 * g.cell).toNat + j) 0 := fun j hj => by
    rw [← A]
    congr 1
    unfold Rdg.loc
    rw [hj]
    omega
  unfold Rdg.next
  rcases how with ⟨e, n⟩ | ⟨e, n, hx⟩ | ⟨e, n⟩
  · rw [hl 1 (by unfold Rdg.which; rw [if_pos e])]
    right
    unfold Rdg.eat Rdg.more
    simp only [e, if_true, show ¬ (1 : Int) = 0 by decide, if_false]
    exact ⟨c0, c1, hs, hv, .inr (.inl ⟨rfl, n, rfl⟩)⟩
  · rw [hl 0 (by unfold Rdg.which; rw [if_neg (by omega), if_neg (by omega)])]
    left
    unfold Rdg.eat Rdg.more
    simp only [e, if_true, show ¬ (2 : Int) = 0 by decide, show ¬ (2 : Int) = 1 by decide, if_false, Nat.add_zero]
    have hne : (ws0.getD (3 + C.threads + 3 * g.cell).toNat 0 != g.version) = false := by rw [hv]; simp
    refine ⟨if_neg (fun hb => Bool.noConfusion ((hne.symm.trans hb : false = true))), ?_⟩
    show g.value = _
    unfold wantS
    rw [if_neg (by rw [← hs, ← hv]; exact n), hx]
  · rw [hl 2 (by unfold Rdg.which; rw [if_neg (by omega), if_pos e])]
    left
    unfold Rdg.eat Rdg.more
    simp only [e, if_true, show ¬ (3 : Int) = 0 by decide, show ¬ (3 : Int) = 1 by decide, show ¬ (3 : Int) = 2 by decide, if_false]
    refine ⟨trivial, ?_⟩
    unfold wantS
    rw [if_pos (by rw [← hs, ← hv]; exact n)]
theorem new_seen {C : Cfg} {th : Int} {ws0 ws : List Nat} {c : Int} {stamp : Nat} (hC : C.ok) (t0 : 0 ≤ th) (t1 : th < C.threads) (same : ∀ i, i ≠ 3 + th.toNat → ws.getD i 0 = ws0.getD i 0) (c0 : 0 ≤ c) (c1 : c < C.cells) (hs : stamp = ws0.getD 2 0) :
    SeenG C ws0 ((Rdg.new c stamp).next C ws) := by
  have hl : ws.getD ((Rdg.new c stamp).loc C) 0 = ws0.getD (3 + C.threads + 3 * c).toNat 0 := by
    have e : (Rdg.new c stamp).loc C = (3 + C.threads + 3 * c).toNat := by unfold Rdg.loc Rdg.which Rdg.new; simp
    rw [e]
    exact same _ (by omega)
  unfold Rdg.next
  rw [hl]
  unfold Rdg.eat Rdg.more Rdg.new
  simp only [if_true]
  refine ⟨c0, c1, hs, rfl, ?_⟩
  by_cases h : stamp < ws0.getD (3 + C.threads + 3 * c).toNat 0
  · rw [if_pos h]; exact .inr (.inr ⟨rfl, h⟩)
  · rw [if_neg h]; exact .inl ⟨rfl, h⟩
theorem reck_rw (m : Ms) (x : Ins) : (m.reck x).writes = m.writes ∧ (m.reck x).reads = m.reads := by
  unfold Ms.reck
  by_cases e : x.op = 1
  · rw [if_pos e]; exact ⟨rfl, rfl⟩
  rw [if_neg e]; clear e
  by_cases e : x.op = 2
  · rw [if_pos e]; exact ⟨rfl, rfl⟩
  rw [if_neg e]; clear e
  by_cases e : x.op = 3
  · rw [if_pos e]; exact ⟨rfl, rfl⟩
  rw [if_neg e]; clear e
  by_cases e : x.op = 4
  · rw [if_pos e]; exact ⟨rfl, rfl⟩
  rw [if_neg e]; clear e
  by_cases e : x.op = 5
  · rw [if_pos e]; exact ⟨rfl, rfl⟩
  rw [if_neg e]; clear e
  by_cases e : x.op = 6
  · rw [if_pos e]; exact ⟨rfl, rfl⟩
  rw [if_neg e]; clear e
  by_cases e : x.op = 7
  · rw [if_pos e]; exact ⟨rfl, rfl⟩
  rw [if_neg e]; clear e
  by_cases e : x.op = 8
  · rw [if_pos e]; exact ⟨rfl, rfl⟩
  rw [if_neg e]; clear e
  by_cases e : x.op = 9
  · rw [if_pos e]; exact ⟨rfl, rfl⟩
  rw [if_neg e]; clear e
  by_cases e : x.op = 10
  · rw [if_pos e]; exact ⟨rfl, rfl⟩
  rw [if_neg e]; clear e
  by_cases e : x.op = 18
  · rw [if_pos e]; exact ⟨rfl, rfl⟩
  rw [if_neg e]; clear e
  exact ⟨rfl, rfl⟩
/-- A reader's machine writes nothing; a step of it reads nothing by itself. -/
theorem mstep_rw {C : Cfg} {code : List Ins} {m : Ms} {tag : Int} (ht : tag ≠ 2) (hw : m.writes = []) : (m.step C tag code).1.writes = [] ∧ (m.step C tag code).1.reads = m.reads := by
  unfold Ms.step
  split
  · exact ⟨hw, rfl⟩
  split
  · exact ⟨hw, rfl⟩
  split
  · exact ⟨hw, rfl⟩
  split
  · exact ⟨hw, rfl⟩
  split
  · exact ⟨hw, rfl⟩
  split
  · exact ⟨hw, rfl⟩
  split
  · split
    · exact ⟨hw, rfl⟩
    · rename_i x _ _ r hr
      have hwb : m.begin.writes = [] := hw
      unfold Ms.doS at hr
      split at hr
      · unfold Ms.readS at hr
        split at hr
        · cases hr
        · rw [hwb] at hr
          cases hr; exact ⟨hw, rfl⟩
      split at hr
      · unfold Ms.writeS at hr
        rw [if_pos ht] at hr
        cases hr
      split at hr
      · cases hr; exact ⟨hw, rfl⟩
      split at hr
      · cases hr; exact ⟨hw, rfl⟩
      split at hr
      · cases hr; exact ⟨hw, rfl⟩
      split at hr
      · cases hr; exact ⟨hw, rfl⟩
      split at hr
      · cases hr; exact ⟨hw, rfl⟩
      split at hr
      · split at hr <;> cases hr <;> exact ⟨hw, rfl⟩
      · cases hr
        obtain ⟨e1, e2⟩ := reck_rw m.begin _
        exact ⟨e1.trans hw, e2⟩
  · exact ⟨hw, rfl⟩
theorem getD_set_ne {l : List Nat} {i j x : Nat} (h : j ≠ i) : (l.set i x).getD j 0 = l.getD j 0 := by
  rw [List.getD_eq_getElem?_getD, List.getD_eq_getElem?_getD, List.getElem?_set_ne (fun e => h e.symm)]
theorem rd_seen {C : Cfg} {th : Int} {ws0 ws : List Nat} {s : Rs} {g : Rdg} (hC : C.ok) (t0 : 0 ≤ th) (t1 : th < C.threads) (hwt : s.m.wait = some g.cell) (c0 : 0 ≤ g.cell) (c1 : g.cell < C.cells)
    (len : ws.length = ws0.length) (same : ∀ i, i ≠ 3 + th.toNat → ws.getD i 0 = ws0.getD i 0) (hst : s.stamp = ws0.getD 2 0) (hw : s.m.writes = []) (hr : ∀ t ∈ s.m.reads, 0 ≤ t.1 ∧ t.1 < C.cells ∧ t.2 = wantS C ws0 (ws0.getD 2 0) t.1)
    (hn : ((g.next C ws).part = 4 ∧ (g.next C ws).value = wantS C ws0 (ws0.getD 2 0) g.cell) ∨ SeenG C ws0 (g.next C ws)) : Seen C th ws0 (s.rd C ws g) ws := by
  unfold Rs.rd
  by_cases e : (g.next C ws).part = 4
  · rw [if_pos e]
    have hv : (g.next C ws).value = wantS C ws0 (ws0.getD 2 0) g.cell := by
      rcases hn with ⟨_, h⟩ | h
      · exact h
      · rcases h.how with ⟨h, _⟩ | ⟨h, _⟩ | ⟨h, _⟩ <;> omega
    refine ⟨len, same, fun _ => hst, ?_, ?_, fun g2 hg2 => by cases hg2⟩
    · show (s.m.give _).1.writes = []
      rw [give_eq hwt]; exact hw
    · show ∀ t ∈ (s.m.give _).1.reads, _
      rw [give_eq hwt]
      intro t ht
      rcases List.mem_append.1 ht with h | h
      · exact hr t h
      · simp at h
        subst h
        refine ⟨c0, c1, ?_⟩
        show fx (g.next C ws).value = _
        rw [hv]
        unfold wantS
        split <;> exact fx_fx _
  · rw [if_neg e]
    refine ⟨len, same, fun _ => hst, hw, hr, fun g2 hg2 => ?_⟩
    have : g.next C ws = g2 := by simpa using hg2
    subst this
    rcases hn with ⟨h, _⟩ | h
    · exact absurd h e
    · exact h
theorem step_seen {C : Cfg} {code : List Ins} {tag th : Int} {ws0 ws : List Nat} {s : Rs} (hC : C.ok) (t0 : 0 ≤ th) (t1 : th < C.threads) (ht : tag ≠ 2) (R : Rwf C code s) (hp : s.part ≠ 4) (h : Seen C th ws0 s ws) : Seen C th ws0 (s.step C tag code th ws).1 (s.step C tag code th ws).2.1 := by
  have p1 := R.part1; have p4 := R.part4; have n0 := R.n0
  have h2 : ws.getD 2 0 = ws0.getD 2 0 := h.same 2 (by omega)
  unfold Rs.step
  by_cases e1 : s.part = 1
  · rw [if_pos e1]
    by_cases e2 : s.n = 0
    · rw [if_pos e2]
      exact ⟨h.len, h.same, fun e => absurd (show 2 ≤ s.part from e) (by omega), h.writes, h.reads, h.read⟩
    · rw [if_neg e2]
      by_cases e3 : s.n = 1
      · rw [if_pos e3]
        exact ⟨by simpa using h.len, fun i hi => (getD_set_ne hi).trans (h.same i hi), fun e => absurd (show 2 ≤ s.part from e) (by omega), h.writes, h.reads, h.read⟩
      · rw [if_neg e3]
        exact ⟨h.len, h.same, fun _ => h2, h.writes, h.reads, h.read⟩
  · rw [if_neg e1]
    by_cases e3 : s.part = 3
    · rw [if_pos e3]
      exact ⟨by simpa using h.len, fun i hi => (getD_set_ne hi).trans (h.same i hi), fun _ => h.stamp (by omega), h.writes, h.reads, h.read⟩
    · rw [if_neg e3]
      have e2 : s.part = 2 := by omega
      have hst := h.stamp (by omega)
      unfold Rs.run
      simp only
      cases hr : s.read with
      | some g =>
        obtain ⟨_, hwt, hg, hg1⟩ := R.read g hr
        have hG := h.read g hr
        have K := rd_seen (s := { s with steps := s.steps + 1, read := some g }) hC t0 t1 hwt hG.c0 hG.c1 h.len h.same hst h.writes h.reads (next_seen hC t0 t1 h.same hG)
        have es : ({ s with steps := s.steps + 1 } : Rs) = { s with steps := s.steps + 1, read := some g } := by rw [← hr]
        simp only [es]
        exact K
      | none =>
        have hwt := R.idle hr
        obtain ⟨w1, w2⟩ := mstep_rw (C := C) (code := code) ht h.writes
        have T := step_to (C := C) (code := code) (tag := tag) hwt
        have W := step_wf (tag := tag) R.wf
        generalize s.m.step C tag code = q at *
        rcases T with ⟨k1, k2, k3⟩ | ⟨k1, k2, k3, k4⟩ | ⟨k1, k2, k3, k4, k5⟩
        · rw [if_pos k1]
          exact ⟨h.len, h.same, fun _ => hst, w1, by show ∀ t ∈ q.1.reads, _; rw [w2]; exact h.reads, fun g hg => by cases hg⟩
        · rw [if_neg (by omega), if_pos k1]
          obtain ⟨c0, c1, _⟩ := W.wait _ k2
          exact rd_seen (s := { s with steps := s.steps + 1, m := q.1 }) (g := Rdg.new q.2.cell s.stamp) hC t0 t1 k2 c0 c1 h.len h.same hst w1 (by show ∀ t ∈ q.1.reads, _; rw [w2]; exact h.reads) (.inr (new_seen hC t0 t1 h.same c0 c1 hst))
        · rw [if_neg k1, if_neg k2]
          exact ⟨h.len, h.same, fun _ => hst, w1, by show ∀ t ∈ q.1.reads, _; rw [w2]; exact h.reads, fun g hg => by cases hg⟩
theorem new_see (C : Cfg) (th : Int) (ws : List Nat) (b : Bool) (args : List Nat) : Seen C th ws (newRs b args) ws :=
  ⟨rfl, fun _ _ => rfl, fun e => absurd (show (2 : Int) ≤ 1 from e) (by decide), rfl, fun t ht => (by cases ht), fun g hg => (by cases hg)⟩
end Go.Proofs.YtphaeodcomgffaaGreat
