import Derived.Test.YtldhlkkclmifmaaC1
set_option linter.unusedVariables false
set_option linter.unusedSimpArgs false
namespace Go.Proofs.Ytldhlkkclmifmaa
open Go.RowKit

/-! The plain law of a round: who is due, stepped in any order. -/
def stepsDo (n : Int) (s : ST) (l : List Int) : ST := l.foldl (ST.step n) s
theorem stepsDo_snoc {n : Int} {s : ST} {l : List Int} {k : Nat} {t : Int} (h : l[k]? = some t) : stepsDo n s (l.take (k + 1)) = (stepsDo n s (l.take k)).step n t := by
  obtain ⟨hk, rfl⟩ := List.getElem?_eq_some_iff.1 h
  rw [stepsDo, List.take_succ_eq_append_getElem hk, List.foldl_append]; rfl

/-- some are stepped, another one is due -/
theorem steps_part {n : Int} (hn : n ≤ 8) (s : ST) (h : s.Inv n) : ∀ (l : List Int), (∀ t ∈ l, 0 ≤ t ∧ t < n ∧ s.L t.toNat = true) → (∃ u : Nat, s.L u = true ∧ s.S u = false ∧ (u : Int) ∉ l) →
    stepsDo n s l = ⟨s.L, fun i => s.S i || decide ((i : Int) ∈ l), s.o⟩ := by
  intro l
  induction l generalizing s with
  | nil => intro _ _; simp [stepsDo]
  | cons t l ih =>
    intro hl hu
    obtain ⟨u, u1, u2, u3⟩ := hu
    obtain ⟨t0, t1, t2⟩ := hl t (by simp)
    have hne : u ≠ t.toNat := fun e => u3 (by rw [e]; simp; left; omega)
    have hu8 : u < 8 := by have := h.in_ u u1; omega
    have hs : s.step n t = ⟨s.L, upd s.S t.toNat true, s.o⟩ := by
      unfold ST.step
      rw [if_pos ⟨t0, t1⟩]
      have := look_not (o := s.o) hu8 u1 (show upd s.S t.toNat true u = false by rw [upd_other _ _ hne]; exact u2)
      simp [stepS, stepN, t2, this]
    have hinv := (h.step hn t).1
    rw [hs] at hinv
    have := ih ⟨s.L, upd s.S t.toNat true, s.o⟩ hinv (fun x hx => hl x (by simp [hx])) ⟨u, u1, by simp only []; rw [upd_other _ _ hne]; exact u2, fun hx => u3 (by simp [hx])⟩
    simp only [stepsDo, List.foldl_cons] at this ⊢
    rw [hs, this]
    simp only [ST.mk.injEq, true_and, and_true]
    funext i
    by_cases e : i = t.toNat
    · subst e; simp [upd_same]; right; left; omega
    · rw [upd_other _ _ e]
      have : ¬ (i : Int) = t := by omega
      simp [this]

/-- all that are due are stepped, the last one last -/
theorem steps_all {n : Int} (hn : n ≤ 8) (s : ST) (h : s.Inv n) (l : List Int) (t : Int) (hl : ∀ x ∈ l ++ [t], 0 ≤ x ∧ x < n ∧ s.L x.toNat = true) (ht : t ∉ l) (hts : s.S t.toNat = false)
    (hall : ∀ u : Nat, s.L u = true → s.S u = true ∨ (u : Int) ∈ l ++ [t]) : stepsDo n s (l ++ [t]) = ⟨s.L, fun _ => false, s.o + 1⟩ := by
  obtain ⟨t0, t1, t2⟩ := hl t (by simp)
  have hp := steps_part hn s h l (fun x hx => hl x (by simp [hx])) ⟨t.toNat, t2, hts, by rw [Int.toNat_of_nonneg t0]; exact ht⟩
  simp only [stepsDo, List.foldl_append, List.foldl_cons, List.foldl_nil] at hp ⊢
  rw [hp]
  unfold ST.step
  rw [if_pos ⟨t0, t1⟩]
  have ht8 : t.toNat < 8 := by omega
  have := look_yes (o := s.o) ht8 t2 (S := upd (fun i => s.S i || decide ((i : Int) ∈ l)) t.toNat true) (fun i hi => by
    by_cases e : i = t.toNat
    · rw [e, upd_same, t2]
    · rw [upd_other _ _ e]
      cases hL : s.L i with
      | true =>
        rcases hall i hL with h1 | h1
        · simp [h1]
        · have : (i : Int) ∈ l := by
            rcases List.mem_append.1 h1 with h2 | h2
            · exact h2
            · simp at h2; omega
          simp [this]
      | false =>
        have h1 : s.S i = false := by
          cases hS : s.S i with
          | false => rfl
          | true => rw [h.sub i hS] at hL; cases hL
        have h2 : ¬ (i : Int) ∈ l := fun hx => by
          have := (hl i (by simp [hx])).2.2
          simp at this
          rw [this] at hL; cases hL
        simp [h1, h2])
  simp [stepS, stepN, t2, this]

theorem dueL_mem {L S : Nat → Bool} {k : Nat} {x : Int} : x ∈ dueL L S k ↔ 0 ≤ x ∧ x < k ∧ L x.toNat = true ∧ S x.toNat = false := by
  simp only [dueL, List.mem_map, List.mem_filter, List.mem_range, Bool.and_eq_true, Bool.not_eq_true']
  constructor
  · rintro ⟨a, ⟨h1, h2, h3⟩, rfl⟩; simp; exact ⟨h1, h2, h3⟩
  · rintro ⟨h0, h1, h2, h3⟩; exact ⟨x.toNat, ⟨by omega, h2, h3⟩, by omega⟩
theorem dueL_nodup {L S : Nat → Bool} {k : Nat} : (dueL L S k).Nodup := by
  unfold dueL
  rw [List.nodup_iff_pairwise_ne, List.pairwise_map]
  exact (List.Pairwise.filter _ (List.nodup_iff_pairwise_ne.1 List.nodup_range)).imp fun h => by omega
theorem nodup_take {l : List Int} (h : l.Nodup) {k : Nat} (hk : k < l.length) : l[k] ∉ l.take k := by
  intro hm
  obtain ⟨i, hi, e⟩ := List.mem_iff_getElem.1 hm
  simp at hi e
  have := (List.getElem_inj (h₀ := by omega) (h₁ := hk) h).1 e
  omega

/-- the steps of a list whose members are just who is due -/
theorem steps_at {n : Int} (hn : n ≤ 8) (s : ST) (h : s.Inv n) (l : List Int) (hnd : l.Nodup) (hmem : ∀ x, x ∈ l ↔ x ∈ dueL s.L s.S n.toNat) (k : Nat) (hk : k < l.length) :
    stepsDo n s (l.take k) = ⟨s.L, fun i => s.S i || decide ((i : Int) ∈ l.take k), s.o⟩ := by
  have hin : ∀ x ∈ l, 0 ≤ x ∧ x < n ∧ s.L x.toNat = true ∧ s.S x.toNat = false := fun x hx => by
    have := dueL_mem.1 ((hmem x).1 hx); exact ⟨this.1, by omega, this.2.2.1, this.2.2.2⟩
  refine steps_part hn s h _ (fun x hx => by have := hin x (List.mem_of_mem_take hx); exact ⟨this.1, this.2.1, this.2.2.1⟩) ⟨l[k].toNat, ?_, ?_, ?_⟩
  · exact (hin _ (List.getElem_mem hk)).2.2.1
  · exact (hin _ (List.getElem_mem hk)).2.2.2
  · rw [Int.toNat_of_nonneg (hin _ (List.getElem_mem hk)).1]; exact nodup_take hnd hk
theorem steps_full {n : Int} (hn : n ≤ 8) (s : ST) (h : s.Inv n) (l : List Int) (hnd : l.Nodup) (hmem : ∀ x, x ∈ l ↔ x ∈ dueL s.L s.S n.toNat) (hne : 0 < l.length) :
    stepsDo n s l = ⟨s.L, fun _ => false, s.o + 1⟩ := by
  have hin : ∀ x ∈ l, 0 ≤ x ∧ x < n ∧ s.L x.toNat = true ∧ s.S x.toNat = false := fun x hx => by
    have := dueL_mem.1 ((hmem x).1 hx); exact ⟨this.1, by omega, this.2.2.1, this.2.2.2⟩
  obtain ⟨m, t, rfl⟩ : ∃ m t, l = m ++ [t] := ⟨l.dropLast, l.getLast (by intro e; simp [e] at hne), (List.dropLast_concat_getLast _).symm⟩
  refine steps_all hn s h m t (fun x hx => by have := hin x hx; exact ⟨this.1, this.2.1, this.2.2.1⟩) ?_ (hin t (by simp)).2.2.2 (fun u hu => ?_)
  · intro hm; rw [List.nodup_append] at hnd; exact hnd.2.2 t hm t (by simp) rfl
  · cases hS : s.S u with
    | true => exact .inl rfl
    | false => exact .inr ((hmem _).2 (dueL_mem.2 ⟨by omega, by have := h.in_ u hu; omega, by simpa using hu, by simpa using hS⟩))

/-- a list turned by k -/
def turned (l : List Int) (k : Nat) : List Int := (List.range l.length).map fun i => l.getD ((i + k) % l.length) 0
theorem turned_len (l : List Int) (k : Nat) : (turned l k).length = l.length := by simp [turned]
theorem turned_at (l : List Int) (k i : Nat) (hi : i < l.length) : (turned l k)[i]? = some (l.getD ((i + k) % l.length) 0) := by simp [turned, hi]
theorem mod_turn {a k m : Nat} (ha : a < m) : (a + k) % m = if a + k % m < m then a + k % m else a + k % m - m := by
  have hk : k % m < m := Nat.mod_lt _ (by omega)
  rw [← Nat.add_mod_mod]
  split
  · exact Nat.mod_eq_of_lt (by assumption)
  · rw [Nat.mod_eq_sub_mod (by omega)]; exact Nat.mod_eq_of_lt (by omega)
theorem turned_mem (l : List Int) (k : Nat) (x : Int) : x ∈ turned l k ↔ x ∈ l := by
  constructor
  · intro h
    obtain ⟨i, hi, rfl⟩ := List.mem_map.1 h
    have hi := List.mem_range.1 hi
    have : (i + k) % l.length < l.length := Nat.mod_lt _ (by omega)
    rw [List.getD, List.getElem?_eq_getElem this]; exact List.getElem_mem _
  · intro h
    obtain ⟨j, hj, rfl⟩ := List.mem_iff_getElem.1 h
    refine List.mem_map.2 ⟨(j + (l.length - k % l.length)) % l.length, List.mem_range.2 (Nat.mod_lt _ (by omega)), ?_⟩
    have hk : k % l.length < l.length := Nat.mod_lt _ (by omega)
    have hx : (j + (l.length - k % l.length)) % l.length < l.length := Nat.mod_lt _ (by omega)
    have : ((j + (l.length - k % l.length)) % l.length + k) % l.length = j := by
      rw [mod_turn hx]
      by_cases h2 : j + (l.length - k % l.length) < l.length
      · rw [Nat.mod_eq_of_lt h2]; split <;> omega
      · rw [Nat.mod_eq_sub_mod (by omega), Nat.mod_eq_of_lt (by omega)]; split <;> omega
    rw [this, List.getD, List.getElem?_eq_getElem hj]; rfl
theorem turned_nodup (l : List Int) (k : Nat) (h : l.Nodup) : (turned l k).Nodup := by
  unfold turned
  rw [List.nodup_iff_pairwise_ne, List.pairwise_map]
  refine List.Pairwise.imp_of_mem ?_ (List.nodup_iff_pairwise_ne.1 (List.nodup_range (n := l.length)))
  intro a b ha hb hab he
  have ha := List.mem_range.1 ha
  have hb := List.mem_range.1 hb
  have hp : 0 < l.length := by omega
  have h1 : (a + k) % l.length < l.length := Nat.mod_lt _ hp
  have h2 : (b + k) % l.length < l.length := Nat.mod_lt _ hp
  rw [List.getD, List.getD, List.getElem?_eq_getElem h1, List.getElem?_eq_getElem h2] at he
  have := (List.getElem_inj (h₀ := h1) (h₁ := h2) h).1 he
  have e1 : (a + k) % l.length = (b + k) % l.length := this
  rw [mod_turn ha, mod_turn hb] at e1
  have hk : k % l.length < l.length := Nat.mod_lt _ hp
  split at e1 <;> split at e1 <;> omega

end Go.Proofs.Ytldhlkkclmifmaa
