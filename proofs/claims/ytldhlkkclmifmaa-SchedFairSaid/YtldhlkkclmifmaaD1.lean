import Derived.Test.YtldhlkkclmifmaaC2
set_option linter.unusedVariables false
set_option linter.unusedSimpArgs false
namespace Go.Proofs.Ytldhlkkclmifmaa
open Go.RowKit

/-! SchedFair: what the law's own two lists say of the state. -/
structure Fair (n : Int) (s : ST) (F T : List Int) : Prop where
  lf : F.length = 8
  lt : T.length = 8
  f : ∀ i : Nat, (i : Int) < n → F.getD i 0 = if s.L i then 0 else 1
  t : ∀ i : Nat, (i : Int) < n → s.L i = true → T.getD i 0 = if s.S i then 1 else 0

theorem getD_set_same {l : List Int} {i : Nat} {x : Int} (h : i < l.length) : (l.set i x).getD i 0 = x := by simp [List.getD, h]
theorem getD_set_other {l : List Int} {i j : Nat} {x : Int} (h : i ≠ j) : (l.set i x).getD j 0 = l.getD j 0 := by simp [List.getD, List.getElem?_set_ne h]

/-- a step of a thread that there is: no round ends -/
theorem fair_step {n : Int} (hn : n ≤ 8) {s : ST} (hi : s.Inv n) {F T : List Int} (h : Fair n s F T) {q : Int} (h0 : 0 ≤ q) (h1 : q < n) :
    ((s.step n q).o = s.o ∧ Fair n (s.step n q) F (T.set q.toNat 1)) ∨
    ((s.step n q).o = s.o + 1 ∧ (∀ k : Nat, (k : Int) < n → ¬ (F.getD k 0 = 0 ∧ (T.set q.toNat 1).getD k 0 = 0)) ∧ ∀ Z : List Int, Z.length = 8 → (∀ k : Nat, (k : Int) < n → Z.getD k 0 = 0) → Fair n (s.step n q) F Z) := by
  have hq8 : q.toNat < T.length := by rw [h.lt]; omega
  unfold ST.step
  rw [if_pos ⟨h0, h1⟩]
  by_cases hL : s.L q.toNat = true
  · have hsub : ∀ i, upd s.S q.toNat true i = true → s.L i = true := fun i hx => by
      by_cases e : i = q.toNat
      · rw [e]; exact hL
      · rw [upd_other _ _ e] at hx; exact hi.sub i hx
    simp only [stepS, stepN, hL, if_true]
    rcases look_cases hn (o := s.o) hi.in_ hsub with ⟨e1, e2, h3⟩ | ⟨e1, e2, _, h4⟩
    · rw [e1, e2]
      refine .inl ⟨rfl, h.lf, by simp [h.lt], h.f, fun i hin hLi => ?_⟩
      by_cases e : i = q.toNat
      · subst e; rw [getD_set_same hq8]; simp only [upd_same]; rfl
      · rw [getD_set_other (by omega)]; simp only [upd_other _ _ e]; exact h.t i hin hLi
    · rw [e1, e2]
      refine .inr ⟨rfl, fun k hk ⟨a, b⟩ => ?_, fun Z hZ hz => ⟨h.lf, hZ, h.f, fun i hin _ => by rw [hz i hin]; rfl⟩⟩
      have hLk : s.L k = true := by
        have := h.f k hk
        cases hx : s.L k with
        | true => rfl
        | false => rw [hx, a] at this; cases this
      by_cases e : k = q.toNat
      · subst e; rw [getD_set_same hq8] at b; cases b
      · rw [getD_set_other (by omega), h.t k hk hLk] at b
        have := h4 k
        rw [upd_other _ _ e, hLk] at this
        rw [this] at b; simp at b
  · simp only [stepS, stepN, hL]
    refine .inl ⟨by simp, h.lf, by simp [h.lt], by simpa using h.f, fun i hin hLi => ?_⟩
    have e : i ≠ q.toNat := fun e => hL (by rw [← e]; simpa using hLi)
    rw [getD_set_other (by omega)]; simpa using h.t i hin hLi

/-- a thread finishes -/
theorem fair_fin {n : Int} (hn : n ≤ 8) {s : ST} (hi : s.Inv n) {F T : List Int} (h : Fair n s F T) {q : Int} (h0 : 0 ≤ q) (h1 : q < n) :
    ((s.fin n q).o = s.o ∧ Fair n (s.fin n q) (F.set q.toNat 1) T) ∨
    ((s.fin n q).o = s.o + 1 ∧ (∀ k : Nat, (k : Int) < n → ¬ ((F.set q.toNat 1).getD k 0 = 0 ∧ T.getD k 0 = 0)) ∧ ∀ Z : List Int, Z.length = 8 → (∀ k : Nat, (k : Int) < n → Z.getD k 0 = 0) → Fair n (s.fin n q) (F.set q.toNat 1) Z) := by
  have hq8 : q.toNat < F.length := by rw [h.lf]; omega
  unfold ST.fin
  rw [if_pos ⟨h0, h1⟩]
  by_cases hL : s.L q.toNat = true
  · have hin : ∀ i : Nat, upd s.L q.toNat false i = true → (i : Int) < n := fun i hx => by
      by_cases e : i = q.toNat
      · rw [e, upd_same] at hx; cases hx
      · rw [upd_other _ _ e] at hx; exact hi.in_ i hx
    have hsub : ∀ i, upd s.S q.toNat false i = true → upd s.L q.toNat false i = true := fun i hx => by
      by_cases e : i = q.toNat
      · rw [e, upd_same] at hx; cases hx
      · rw [upd_other _ _ e] at hx ⊢; exact hi.sub i hx
    have hF : ∀ i : Nat, (i : Int) < n → (F.set q.toNat 1).getD i 0 = if upd s.L q.toNat false i then 0 else 1 := fun i hin => by
      by_cases e : i = q.toNat
      · subst e; rw [getD_set_same hq8, upd_same]; rfl
      · rw [getD_set_other (by omega), upd_other _ _ e]; exact h.f i hin
    simp only [finL, finS, finN, hL, if_true]
    rcases look_cases hn (o := s.o) hin hsub with ⟨e1, e2, h3⟩ | ⟨e1, e2, _, h4⟩
    · rw [e1, e2]
      refine .inl ⟨rfl, by simp [h.lf], h.lt, hF, fun i hin hLi => ?_⟩
      by_cases e : i = q.toNat
      · subst e; simp [upd_same] at hLi
      · simp only [upd_other _ _ e] at hLi ⊢; exact h.t i hin hLi
    · rw [e1, e2]
      refine .inr ⟨rfl, fun k hk ⟨a, b⟩ => ?_, fun Z hZ hz => ⟨by simp [h.lf], hZ, hF, fun i hin _ => by rw [hz i hin]; rfl⟩⟩
      rw [hF k hk] at a
      cases hx : upd s.L q.toNat false k with
      | false => rw [hx] at a; cases a
      | true =>
        have e : k ≠ q.toNat := fun e => by rw [e, upd_same] at hx; cases hx
        have := h4 k
        rw [hx, upd_other _ _ e] at this
        rw [upd_other _ _ e] at hx
        rw [h.t k hk hx, this] at b
        simp at b
  · simp only [finL, finS, finN, hL]
    refine .inl ⟨by simp, by simp [h.lf], h.lt, fun i hin => ?_, by simpa using h.t⟩
    by_cases e : i = q.toNat
    · subst e; rw [getD_set_same hq8]; simp [hL]
    · rw [getD_set_other (by omega)]; simpa using h.f i hin

theorem zeros_getD (i : Nat) : (List.replicate 8 (0 : Int)).getD i 0 = 0 := by
  simp only [List.getD, List.getElem?_replicate]; split <;> rfl
theorem Fair.start {n : Int} : Fair n ⟨liveN n, none8, 0⟩ (List.replicate 8 0) (List.replicate 8 0) := by
  refine ⟨rfl, rfl, fun i hi => ?_, fun i hi _ => ?_⟩
  · rw [zeros_getD]; simp [liveN, hi]
  · rw [zeros_getD]; simp [none8]

/-- how many have not finished -/
def liveC (L : Nat → Bool) (k : Nat) : Nat := ((List.range k).filter L).length
theorem liveC_yes {L : Nat → Bool} {k : Nat} (h : L k = true) : liveC L (k + 1) = liveC L k + 1 := by simp [liveC, List.range_succ, List.filter_append, h]
theorem liveC_no {L : Nat → Bool} {k : Nat} (h : L k = false) : liveC L (k + 1) = liveC L k := by simp [liveC, List.range_succ, List.filter_append, h]
theorem liveC_le (L : Nat → Bool) (k : Nat) : liveC L k ≤ k := by simpa [liveC] using List.length_filter_le L (List.range k)
theorem live_due {n : Int} {s : ST} (hi : s.Inv n) (h0 : 0 ≤ n) : 0 < liveC s.L n.toNat ↔ 0 < (dueL s.L s.S n.toNat).length := by
  constructor
  · intro h
    obtain ⟨x, hx⟩ := List.exists_mem_of_length_pos h
    have hx := (List.mem_filter.1 hx).2
    obtain ⟨j, h1, h2⟩ := hi.due x hx
    exact List.length_pos_of_mem (a := (j : Int)) (dueL_mem.2 ⟨by omega, by have := hi.in_ j h1; omega, by simpa using h1, by simpa using h2⟩)
  · intro h
    obtain ⟨x, hx⟩ := List.exists_mem_of_length_pos h
    have hx := dueL_mem.1 hx
    exact List.length_pos_of_mem (a := x.toNat) (List.mem_filter.2 ⟨List.mem_range.2 (by omega), hx.2.2.1⟩)

end Go.Proofs.Ytldhlkkclmifmaa
