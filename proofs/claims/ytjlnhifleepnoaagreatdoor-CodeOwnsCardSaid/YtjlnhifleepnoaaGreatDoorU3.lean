import Derived.Test.YtjlnhifleepnoaaGreatDoorU2
set_option linter.unusedVariables false
set_option linter.unusedSimpArgs false
namespace Go.Proofs.YtjlnhifleepnoaaGreatDoor
open Go.RowKit

theorem parse_back {rs : List UInt8} (h : parseE rs = 0) : prt (fx (parseB rs)) = rs ∧ parseB rs < 18446744073709551616 := by
  unfold parseE at h
  unfold parseB
  split at h
  · rename_i e
    rw [if_pos e, fx_tguess]
    exact ⟨e, tguess_lt rs⟩
  · cases h
theorem whole_back2 {rs : List UInt8} (h : wholeE rs = 0) : Lib.itoa (wholeN rs) = rs := by
  unfold wholeE at h
  unfold wholeN
  cases hp : pu31 rs with
  | ok v =>
    rw [hp] at h
    simp only at h ⊢
    split at h
    · rename_i e
      rw [if_pos e]
      unfold Lib.itoa
      rw [if_neg (by omega)]
      simpa using e
    · cases h
  | _ => rw [hp] at h; cases h

theorem rows_none : ∀ i, i < 21 → (rowAt ((i : Nat) : Int)).1 ≠ [] → i ≠ 9 ∧ i ≠ 10 := by decide +kernel
/-- The instruction of a line: the line is its line. -/
theorem instr_back {s : List UInt8} {p : Ins} (h : instrS s = some p) : lineS p = s ∧ p.x < 18446744073709551616 := by
  unfold instrS at h
  cases h1 : fstO (tryO s onesB 9) 9 0 with
  | some q =>
    rw [h1] at h
    simp only [Option.some.injEq] at h
    subst h
    obtain ⟨j, hj, e⟩ := fst_inv _ _ h1
    rw [Nat.zero_add] at e
    unfold tryO at e
    split at e
    · rename_i hh
      simp only [Option.some.injEq] at e
      subst e
      refine ⟨?_, by simp⟩
      have hl : lineS ⟨9, (j : Int), 0⟩ = (onesB.getD j ⟨#[]⟩).data.toList := rfl
      rw [hl, ← ByteArray.toList_eq]
      exact hh.2
    · cases e
  | none =>
    rw [h1] at h
    simp only at h
    cases h2 : fstO (tryO s twosB 10) 13 0 with
    | some q =>
      rw [h2] at h
      simp only [Option.some.injEq] at h
      subst h
      obtain ⟨j, hj, e⟩ := fst_inv _ _ h2
      rw [Nat.zero_add] at e
      unfold tryO at e
      split at e
      · rename_i hh
        simp only [Option.some.injEq] at e
        subst e
        refine ⟨?_, by simp⟩
        have hl : lineS ⟨10, (j : Int), 0⟩ = (twosB.getD j ⟨#[]⟩).data.toList := rfl
        rw [hl, ← ByteArray.toList_eq]
        exact hh.2
      · cases e
    | none =>
      rw [h2] at h
      simp only at h
      obtain ⟨i, hi, e⟩ := fst_inv _ _ h
      rw [Nat.zero_add] at e
      unfold tryR at e
      split at e
      · cases e
      rename_i hw
      have hw1 : (rowAt (i : Int)).1 ≠ [] := fun x => hw (.inl x)
      have hw2 : (rowAt (i : Int)).1 = (Lib.cut s [32]).1 := by
        by_cases x : (rowAt (i : Int)).1 = (Lib.cut s [32]).1
        · exact x
        · exact absurd (.inr x) hw
      obtain ⟨n9, n10⟩ := rows_none i hi hw1
      split at e
      · rename_i hh
        split at e
        · rename_i hp
          simp only [Option.some.injEq] at e
          subst e
          obtain ⟨hb, hlt⟩ := parse_back hp
          refine ⟨?_, hlt⟩
          have hs := cut_back hh.2
          rw [← hw2] at hs
          have hl : lineS ⟨1, 0, parseB (Lib.cut s [32]).2.1⟩ = [112, 117, 115, 104] ++ 32 :: prt (fx (parseB (Lib.cut s [32]).2.1)) := rfl
          rw [hl, hb]
          have hr : (rowAt (i : Int)).1 = [112, 117, 115, 104] := by rw [hh.1]; decide
          rw [hr] at hs
          exact hs.symm
        · cases e
      rename_i hn1
      split at e
      · rename_i hh
        split at e
        · cases e
        rename_i hm
        simp only [Option.some.injEq] at e
        subst e
        refine ⟨?_, by simp⟩
        have hm' : (Lib.cut s [32]).2.2 = false := by simpa using hm
        unfold lineS
        simp only
        rw [if_neg (by have := hh.1; omega), if_neg (by omega), if_neg (by omega), if_pos hh.2, hw2, cut_fst hm']
      rename_i hn2
      split at e
      · rename_i hm
        split at e
        · rename_i hwh
          simp only [Option.some.injEq] at e
          subst e
          refine ⟨?_, by simp⟩
          have hs := cut_back hm
          rw [← hw2] at hs
          have hi1 : i ≠ 1 := fun x => hn1 ⟨x, hm⟩
          unfold lineS
          simp only
          rw [if_neg (by omega), if_neg (by omega), if_neg (by omega), if_neg (fun x => hn2 ⟨hi1, x⟩), whole_back2 hwh.1]
          simpa using hs.symm
        · cases e
      · cases e

/-- Two lists whose instructions are the same, one by one. -/
inductive Alike : List Ins → List Ins → Prop
  | nil : Alike [] []
  | cons {p q : Ins} {l m : List Ins} : SameI p q → Alike l m → Alike (p :: l) (q :: m)
theorem Alike.len {l m : List Ins} (h : Alike l m) : l.length = m.length := by
  induction h with
  | nil => rfl
  | cons _ _ ih => simp [ih]
theorem Alike.at {l m : List Ins} (h : Alike l m) : ∀ j (hj : j < l.length) (hj' : j < m.length), SameI l[j] m[j] := by
  induction h with
  | nil => intro j hj; simp at hj
  | cons hp hr ih =>
    intro j hj hj'
    cases j with
    | zero => exact hp
    | succ j => exact ih j (by simpa using hj) (by simpa using hj')
theorem sameI_forall {l m : List Ins} (t : Int) (h : Alike l m) : SameP t t l m := ⟨rfl, h.len, h.at⟩

/-- Printed lines, read. -/
theorem loop_lines (len : Int) (hlen : len ≤ 1024) : ∀ (m : List Ins) (f k : Nat) (tag : Int) (l : List Ins), (∀ p ∈ m, p.x < 18446744073709551616 ∧ mayS p len = true) → 0 < k → k + m.length ≤ 1025 → (linesP m).length ≤ f →
    ∃ m', readLoop f (linesP m) k tag l = .ok (k + m.length, tag, l ++ m') ∧ Alike m m'
  | [], f, k, tag, l, _, _, _, _ => ⟨[], by rw [linesP, loop_nil]; simp, .nil⟩
  | p :: m, f, k, tag, l, h, hk, hkm, hf => by
    obtain ⟨hx, hm⟩ := h p (by simp)
    obtain ⟨q, hq, hs⟩ := instr_line p len hx hm hlen
    have hc : Lib.cut (linesP (p :: m)) [10] = (lineS p, linesP m, true) := by
      have : linesP (p :: m) = lineS p ++ 10 :: linesP m := by simp [linesP]
      rw [this]
      exact cut_mk 10 _ _ (line_plain p len hm)
    have hne : linesP (p :: m) ≠ [] := by simp [linesP]
    simp only [List.length_cons] at hkm
    obtain ⟨f', hf', e⟩ := loop_ins (tag := tag) (l := l) (p := q) hne hf (by omega) (by rw [hc]) hk (by rw [hc]; exact hq)
    rw [hc] at hf' e
    obtain ⟨m', e2, hfa⟩ := loop_lines len hlen m f' (k + 1) tag (l ++ [q]) (fun p hp => h p (by simp [hp])) (by omega) (by omega) hf'
    refine ⟨q :: m', ?_, .cons hs hfa⟩
    rw [e, e2]
    simp
    omega

theorem tag_plain (t : Int) : 10 ∉ tagS t := by unfold tagS; split <;> decide
theorem tag_ne : tagS 2 ≠ tagS 1 := by decide

/-- There and back: a program. -/
theorem read_print (tag : Int) (l : List Ins) (hok : okP tag l) (hx : ∀ p ∈ l, p.x < 18446744073709551616) : ∃ l', readS (printS tag l) = .ok (tag, l') ∧ SameP tag tag l l' := by
  obtain ⟨ht, h1, h2, hm⟩ := hok
  have hs : printS tag l = tagS tag ++ 10 :: linesP l := by simp [printS]
  have hc : Lib.cut (printS tag l) [10] = (tagS tag, linesP l, true) := by rw [hs]; exact cut_mk 10 _ _ (tag_plain tag)
  have hne : printS tag l ≠ [] := by rw [hs]; simp
  have hloop : ∃ f', (linesP l).length ≤ f' ∧ readLoop (printS tag l).length (printS tag l) 0 0 [] = readLoop f' (linesP l) 1 tag [] := by
    rcases ht with rfl | rfl
    · have := loop_one (tag := 0) (l := []) hne (Nat.le_refl _) (by rw [hc]) (by rw [hc])
      rwa [hc] at this
    · have := loop_two (tag := 0) (l := []) hne (Nat.le_refl _) (by rw [hc]) (by rw [hc]; exact tag_ne) (by rw [hc])
      rwa [hc] at this
  obtain ⟨f', hf', e⟩ := hloop
  obtain ⟨l', e2, hfa⟩ := loop_lines l.length (by omega) l f' 1 tag [] (fun p hp => ⟨hx p hp, hm p hp⟩) (by omega) (by omega) hf'
  have hsame := sameI_forall tag hfa
  refine ⟨l', ?_, hsame⟩
  have hl : l.length = l'.length := hsame.2.1
  unfold readS
  rw [e, e2]
  simp only [List.nil_append]
  unfold readFin
  rw [if_neg (by intro x; rw [x] at hl; have h0 : l.length = 0 := hl; omega)]
  have hb : badAt l'.length l' 0 = none := badAt_none l' 0 fun j hj => by
    have hj' : j < l.length := by omega
    rw [may_alike (hsame.2.2 j hj' hj), ← hl]
    exact hm _ (List.getElem_mem hj')
  rw [hb]

theorem badAt_all {n : Int} : ∀ (l : List Ins) (i : Nat), badAt n l i = none → ∀ p ∈ l, mayS p n = true
  | q :: l, i, h, p, hp => by
    unfold badAt at h
    split at h
    · rename_i hq
      rcases List.mem_cons.1 hp with rfl | hp
      · exact hq
      · exact badAt_all l (i + 1) h p hp
    · cases h

/-- Lines that are read, printed. -/
theorem loop_back : ∀ (f : Nat) (s : List UInt8) (k : Nat) (tag : Int) (l : List Ins) (r : Nat × Int × List Ins), s.length ≤ f → 0 < k → k ≤ 1025 → readLoop f s k tag l = .ok r →
    ∃ m, s = linesP m ∧ r = (k + m.length, tag, l ++ m) ∧ k + m.length ≤ 1025 ∧ ∀ p ∈ m, p.x < 18446744073709551616
  | 0, s, k, tag, l, r, hf, hk, hk2, h => by
    obtain rfl : s = [] := List.eq_nil_of_length_eq_zero (by omega)
    rw [loop_nil] at h
    cases h
    exact ⟨[], rfl, by simp, by simpa using hk2, by simp⟩
  | f + 1, s, k, tag, l, r, hf, hk, hk2, h => by
    by_cases hn : s = []
    · subst hn
      rw [loop_nil] at h
      cases h
      exact ⟨[], rfl, by simp, by simpa using hk2, by simp⟩
    by_cases hl : 1025 < k + 1
    · rw [loop_long hn hf hl] at h; cases h
    by_cases hc : (Lib.cut s [10]).2.2 = true
    case neg =>
      rw [loop_open hn hf hl (by simpa using hc)] at h; cases h
    cases hi : instrS (Lib.cut s [10]).1 with
    | none => rw [loop_bad hn hf hl hc hk hi] at h; cases h
    | some p =>
      have hless := cut_less hn hc
      rw [readLoop, if_neg hn, if_neg hl, if_neg (by simp [hc]), if_pos hk, hi] at h
      simp only at h
      obtain ⟨m, e1, e2, e3, e4⟩ := loop_back f _ (k + 1) tag (l ++ [p]) r (by omega) (by omega) (by omega) h
      obtain ⟨b1, b2⟩ := instr_back hi
      refine ⟨p :: m, ?_, ?_, by simp; omega, fun q hq => ?_⟩
      · have := cut_back hc
        rw [e1, ← b1] at this
        simpa [linesP] using this
      · rw [e2]; simp; omega
      · rcases List.mem_cons.1 hq with rfl | hq
        · exact b2
        · exact e4 q hq

/-- And back: a text. -/
theorem read_back {s : List UInt8} {tag : Int} {l : List Ins} (h : readS s = .ok (tag, l)) : okP tag l ∧ printS tag l = s ∧ ∀ p ∈ l, p.x < 18446744073709551616 := by
  unfold readS at h
  cases hr : readLoop s.length s 0 0 [] with
  | error e => rw [hr] at h; cases h
  | ok r =>
    rw [hr] at h
    simp only at h
    unfold readFin at h
    split at h
    · cases h
    rename_i hne
    cases hb : badAt r.2.2.length r.2.2 0 with
    | some i => rw [hb] at h; cases h
    | none =>
      rw [hb] at h
      simp only [Except.ok.injEq, Prod.mk.injEq] at h
      obtain ⟨h1, h2⟩ := h
      by_cases hn : s = []
      · subst hn
        rw [loop_nil] at hr
        cases hr
        simp at hne
      by_cases hc : (Lib.cut s [10]).2.2 = true
      case neg => rw [loop_open hn (Nat.le_refl _) (by omega) (by simpa using hc)] at hr; cases hr
      have key : ∀ t : Int, (t = 1 ∨ t = 2) → (Lib.cut s [10]).1 = tagS t → (∃ f', (Lib.cut s [10]).2.1.length ≤ f' ∧ readLoop s.length s 0 0 [] = readLoop f' (Lib.cut s [10]).2.1 1 t []) → okP tag l ∧ printS tag l = s ∧ ∀ p ∈ l, p.x < 18446744073709551616 := by
        rintro t ht htag ⟨f', hf', e⟩
        rw [e] at hr
        obtain ⟨m, e1, e2, e3, e4⟩ := loop_back f' _ 1 t [] r hf' (by omega) (by omega) hr
        rw [e2] at h1 h2 hne hb
        simp only [List.nil_append] at h1 h2 hne hb
        subst h1 h2
        refine ⟨⟨ht, ?_, by omega, badAt_all m 0 hb⟩, ?_, e4⟩
        · exact List.length_pos_iff.2 hne
        · have := cut_back hc
          rw [htag, e1] at this
          rw [this]
          simp [printS]
      by_cases t1 : (Lib.cut s [10]).1 = tagS 1
      · exact key 1 (.inl rfl) t1 (loop_one hn (Nat.le_refl _) hc t1)
      by_cases t2 : (Lib.cut s [10]).1 = tagS 2
      · exact key 2 (.inr rfl) t2 (loop_two hn (Nat.le_refl _) hc t1 t2)
      · rw [loop_no hn (Nat.le_refl _) hc t1 t2] at hr; cases hr
end Go.Proofs.YtjlnhifleepnoaaGreatDoor
