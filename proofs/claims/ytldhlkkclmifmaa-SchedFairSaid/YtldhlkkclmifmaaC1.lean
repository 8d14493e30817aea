import Derived.Test.YtldhlkkclmifmaaA9
set_option linter.unusedVariables false
set_option linter.unusedSimpArgs false
namespace Go.Proofs.Ytldhlkkclmifmaa
open Go.RowKit

/-! The plain law of rounds. -/
structure ST where
  L : Nat → Bool
  S : Nat → Bool
  o : Int
def ST.step (n : Int) (s : ST) (t : Int) : ST := if 0 ≤ t ∧ t < n then ⟨s.L, stepS s.L s.S t.toNat, stepN s.L s.S s.o t.toNat⟩ else s
def ST.fin (n : Int) (s : ST) (t : Int) : ST := if 0 ≤ t ∧ t < n then ⟨finL s.L t.toNat, finS s.L s.S t.toNat, finN s.L s.S s.o t.toNat⟩ else s
def tCode (n t : Int) : Int := if 0 ≤ t ∧ t < n then 0 else 100

theorem allEq_iff {L S : Nat → Bool} : allEq L S = true ↔ ∀ i < 8, S i = L i := by simp [allEq]
theorem noneOf_iff {L : Nat → Bool} : noneOf L = true ↔ ∀ i < 8, L i = false := by simp [noneOf]
theorem look_not {L S : Nat → Bool} {o : Int} {t : Nat} (ht : t < 8) (h1 : L t = true) (h2 : S t = false) : lookS L S = S ∧ lookN L S o = o := by
  have : allEq L S = false := by
    rw [Bool.eq_false_iff]; intro h; have := allEq_iff.1 h t ht; rw [h1, h2] at this; cases this
  simp [lookS, lookN, this]
theorem look_yes {L S : Nat → Bool} {o : Int} {t : Nat} (ht : t < 8) (h1 : L t = true) (h2 : ∀ i < 8, S i = L i) : lookS L S = (fun _ => false) ∧ lookN L S o = o + 1 := by
  have a : allEq L S = true := allEq_iff.2 h2
  have b : noneOf L = false := by
    rw [Bool.eq_false_iff]; intro h; have := noneOf_iff.1 h t ht; rw [h1] at this; cases this
  simp [lookS, lookN, a, b]
theorem look_dead {L S : Nat → Bool} {o : Int} (h : ∀ i < 8, L i = false) : lookS L S = S ∧ lookN L S o = o := by
  have b : noneOf L = true := noneOf_iff.2 h
  simp [lookS, lookN, b]

/-- What holds between two calls. -/
structure ST.Inv (n : Int) (s : ST) : Prop where
  in_ : ∀ i : Nat, s.L i = true → (i : Int) < n
  sub : ∀ i, s.S i = true → s.L i = true
  due : ∀ i, s.L i = true → ∃ j, s.L j = true ∧ s.S j = false

theorem look_cases {n : Int} (hn : n ≤ 8) {L S : Nat → Bool} {o : Int} (hin : ∀ i : Nat, L i = true → (i : Int) < n) (hsub : ∀ i, S i = true → L i = true) :
    (lookS L S = S ∧ lookN L S o = o ∧ ∀ i, L i = true → ∃ j, L j = true ∧ S j = false) ∨
    (lookS L S = (fun _ => false) ∧ lookN L S o = o + 1 ∧ (∃ i, L i = true) ∧ ∀ i, S i = L i) := by
  by_cases h : ∃ j, L j = true ∧ S j = false
  · obtain ⟨j, h1, h2⟩ := h
    have h8 : j < 8 := by have := hin j h1; omega
    exact .inl ⟨(look_not h8 h1 h2 (o := o)).1, (look_not h8 h1 h2 (o := o)).2, fun i hi => ⟨j, h1, h2⟩⟩
  · have heq : ∀ i, S i = L i := fun i => by
      cases hL : L i with
      | true =>
        cases hS : S i with
        | true => rfl
        | false => exact absurd ⟨i, hL, hS⟩ h
      | false =>
        cases hS : S i with
        | true => rw [hsub i hS] at hL; cases hL
        | false => rfl
    by_cases hl : ∃ i, L i = true
    · obtain ⟨i, hi⟩ := hl
      have h8 : i < 8 := by have := hin i hi; omega
      exact .inr ⟨(look_yes h8 hi (fun i _ => heq i) (o := o)).1, (look_yes h8 hi (fun i _ => heq i) (o := o)).2, ⟨i, hi⟩, heq⟩
    · have hd : ∀ i, L i = false := fun i => by
        cases hL : L i with
        | true => exact absurd ⟨i, hL⟩ hl
        | false => rfl
      exact .inl ⟨(look_dead (fun i _ => hd i) (o := o)).1, (look_dead (fun i _ => hd i) (o := o)).2, fun i hi => by rw [hd i] at hi; cases hi⟩

theorem upd_same (L : Nat → Bool) (t : Nat) (v : Bool) : upd L t v t = v := by simp [upd]
theorem upd_other (L : Nat → Bool) {t i : Nat} (v : Bool) (h : i ≠ t) : upd L t v i = L i := by simp [upd, h]

theorem ST.Inv.start {n : Int} (h : 1 ≤ n) : ST.Inv n ⟨liveN n, none8, 0⟩ :=
  ⟨fun i hi => by simpa [liveN] using hi, fun i hi => by simp [none8] at hi, fun i hi => ⟨i, hi, rfl⟩⟩
theorem ST.Inv.step {n : Int} {s : ST} (h : s.Inv n) (hn : n ≤ 8) (t : Int) : (s.step n t).Inv n ∧ s.o ≤ (s.step n t).o ∧ (s.step n t).o ≤ s.o + 1 := by
  unfold ST.step
  split
  · rename_i ht
    by_cases hL : s.L t.toNat = true
    · have hsub : ∀ i, upd s.S t.toNat true i = true → s.L i = true := fun i hi => by
        by_cases e : i = t.toNat
        · rw [e]; exact hL
        · rw [upd_other _ _ e] at hi; exact h.sub i hi
      simp only [stepS, stepN, hL, if_true]
      rcases look_cases hn (o := s.o) h.in_ hsub with ⟨e1, e2, h3⟩ | ⟨e1, e2, ⟨i, hi⟩, _⟩
      · rw [e1, e2]; exact ⟨⟨h.in_, hsub, h3⟩, by (try dsimp only); (try simp only [Bool.false_eq_true, if_false]); omega, by (try dsimp only); (try simp only [Bool.false_eq_true, if_false]); omega⟩
      · rw [e1, e2]; exact ⟨⟨h.in_, fun i hi => by simp at hi, fun i hi => ⟨i, hi, rfl⟩⟩, by (try dsimp only); omega, by (try dsimp only); omega⟩
    · simp only [stepS, stepN, hL]
      exact ⟨⟨h.in_, h.sub, h.due⟩, by (try dsimp only); (try simp only [Bool.false_eq_true, if_false]); omega, by (try dsimp only); (try simp only [Bool.false_eq_true, if_false]); omega⟩
  · exact ⟨h, by (try dsimp only); (try simp only [Bool.false_eq_true, if_false]); omega, by (try dsimp only); (try simp only [Bool.false_eq_true, if_false]); omega⟩
theorem ST.Inv.fin {n : Int} {s : ST} (h : s.Inv n) (hn : n ≤ 8) (t : Int) : (s.fin n t).Inv n ∧ s.o ≤ (s.fin n t).o ∧ (s.fin n t).o ≤ s.o + 1 := by
  unfold ST.fin
  split
  · rename_i ht
    by_cases hL : s.L t.toNat = true
    · have hin : ∀ i : Nat, upd s.L t.toNat false i = true → (i : Int) < n := fun i hi => by
        by_cases e : i = t.toNat
        · rw [e, upd_same] at hi; cases hi
        · rw [upd_other _ _ e] at hi; exact h.in_ i hi
      have hsub : ∀ i, upd s.S t.toNat false i = true → upd s.L t.toNat false i = true := fun i hi => by
        by_cases e : i = t.toNat
        · rw [e, upd_same] at hi; cases hi
        · rw [upd_other _ _ e] at hi ⊢; exact h.sub i hi
      simp only [finL, finS, finN, hL, if_true]
      rcases look_cases hn (o := s.o) hin hsub with ⟨e1, e2, h3⟩ | ⟨e1, e2, ⟨i, hi⟩, _⟩
      · rw [e1, e2]; exact ⟨⟨hin, hsub, h3⟩, by (try dsimp only); (try simp only [Bool.false_eq_true, if_false]); omega, by (try dsimp only); (try simp only [Bool.false_eq_true, if_false]); omega⟩
      · rw [e1, e2]; exact ⟨⟨hin, fun i hi => by simp at hi, fun i hi => ⟨i, hi, rfl⟩⟩, by (try dsimp only); omega, by (try dsimp only); omega⟩
    · simp only [finL, finS, finN, hL]
      exact ⟨⟨h.in_, h.sub, h.due⟩, by (try dsimp only); (try simp only [Bool.false_eq_true, if_false]); omega, by (try dsimp only); (try simp only [Bool.false_eq_true, if_false]); omega⟩
  · exact ⟨h, by (try dsimp only); (try simp only [Bool.false_eq_true, if_false]); omega, by (try dsimp only); (try simp only [Bool.false_eq_true, if_false]); omega⟩

/-! the calls at any thread -/
def RIst (w : World) (b : Nat) (n : Int) (s : ST) : Prop := RIs w b s.L s.S n s.o
def UpS (w : World) (b : Nat) (n : Int) (s : ST) (r : Int) (e : Ending) (w' : World) : Prop := e = .returned (.int .i64 r) ∧ Chg [b] w w' ∧ RIst w' b n s
theorem step_st (w : World) (b : Nat) (n : Int) (s : ST) (t : Int) (h : RIst w b n s) (hn : n ≤ 8) (h3 : 0 ≤ s.o) (h4 : s.o < 9223372036854775807) :
    Calls Try.prog 25 #[.pointer (some ⟨b, 0, none⟩), .int .i64 t] w (UpS w b n (s.step n t) (tCode n t)) := by
  by_cases ht : 0 ≤ t ∧ t < n
  · refine (step_at w b s.L s.S n s.o t h hn ht.1 ht.2 (by omega) h4).mono ?_
    rintro e w' ⟨rfl, h1, h2⟩
    refine ⟨by simp [tCode, ht], h1, ?_⟩
    simp only [ST.step, if_pos ht]; exact h2
  · refine (step_bad w b s.L s.S n s.o t h (by omega)).mono ?_
    rintro e w' ⟨rfl, rfl⟩
    refine ⟨by simp [tCode, ht], Chg.refl _ _, ?_⟩
    simp only [ST.step, if_neg ht]; exact h
theorem fin_st (w : World) (b : Nat) (n : Int) (s : ST) (t : Int) (h : RIst w b n s) (hn : n ≤ 8) (h3 : 0 ≤ s.o) (h4 : s.o < 9223372036854775807) :
    Calls Try.prog 26 #[.pointer (some ⟨b, 0, none⟩), .int .i64 t] w (UpS w b n (s.fin n t) (tCode n t)) := by
  by_cases ht : 0 ≤ t ∧ t < n
  · refine (fin_at w b s.L s.S n s.o t h hn ht.1 ht.2 (by omega) h4).mono ?_
    rintro e w' ⟨rfl, h1, h2⟩
    refine ⟨by simp [tCode, ht], h1, ?_⟩
    simp only [ST.fin, if_pos ht]; exact h2
  · refine (fin_bad w b s.L s.S n s.o t h (by omega)).mono ?_
    rintro e w' ⟨rfl, rfl⟩
    refine ⟨by simp [tCode, ht], Chg.refl _ _, ?_⟩
    simp only [ST.fin, if_neg ht]; exact h
theorem over_st (w : World) (b : Nat) (n : Int) (s : ST) (h : RIst w b n s) :
    Calls Try.prog 24 #[.pointer (some ⟨b, 0, none⟩)] w fun e w' => e = .returned (.int .i64 s.o) ∧ w = w' := over_any w b s.L s.S n s.o h
theorem due_st (w : World) (b : Nat) (n : Int) (s : ST) (h : RIst w b n s) (h0 : 0 ≤ n) (hn : n ≤ 8) :
    Calls Try.prog 12 #[.pointer (some ⟨b, 0, none⟩)] w (DuePost w (dueL s.L s.S n.toNat)) := due_at w b s.L s.S n s.o h h0 hn

end Go.Proofs.Ytldhlkkclmifmaa
