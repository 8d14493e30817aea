import Derived.Test.YtjlnhifleepnoaaGreatDoorU1
import Derived.Test.YtjlnhifleepnoaaGreatDoorK4
set_option linter.unusedVariables false
set_option linter.unusedSimpArgs false
namespace Go.Proofs.YtjlnhifleepnoaaGreatDoor
open Go.RowKit

theorem dec_no10 (u : Nat) : 10 ∉ Lib.decDigits u := fun h => by
  have := dec_bytes u 10 h
  simp at this
theorem itoa_no10 (n : Int) : 10 ∉ Lib.itoa n := by
  unfold Lib.itoa
  split
  · intro h
    rcases List.mem_cons.1 h with h1 | h1
    · cases h1
    · exact dec_no10 _ h1
  · exact dec_no10 _
theorem hexd_no10 : ∀ d, d < 16 → hexd d ≠ 10 := by decide +kernel
theorem hexN_no10 : ∀ k c, 10 ∉ hexN k c
  | 0, _ => by simp [hexN]
  | k + 1, c => by
    rw [hexN]
    intro h
    rcases List.mem_append.1 h with h1 | h1
    · exact hexN_no10 k _ h1
    · exact hexd_no10 (c % 16) (by omega) (List.mem_singleton.1 h1).symm
theorem prt_no10 (c : Nat) : 10 ∉ prt c := by
  unfold prt
  split
  · decide
  split
  · decide
  split
  · decide
  split
  · decide
  split
  · exact itoa_no10 _
  · intro h
    rcases List.mem_cons.1 h with h1 | h1
    · cases h1
    · exact hexN_no10 _ _ h1

theorem fx_zero : fx 0 = 0 := by decide +kernel

/-- What mayS says, part by part. -/
theorem may_parts {op n : Int} {x : Nat} {len : Int} (h : mayS ⟨op, n, x⟩ len = true) : ∃ i : Nat, op = (i : Int) ∧ 1 ≤ i ∧ i ≤ 20 ∧ (i ≠ 1 → fx x = 0) ∧
    (most (i : Int) = -2 → n = 0) ∧ (most (i : Int) = -1 → 0 ≤ n ∧ n < len) ∧ (i = 9 ∨ i = 10 → 1 ≤ n ∧ n ≤ most (i : Int)) ∧ (most (i : Int) ≠ -2 → most (i : Int) ≠ -1 → 0 ≤ n ∧ n ≤ most (i : Int)) := by
  unfold mayS at h
  simp only at h
  split at h
  · cases h
  rename_i h1
  have h2 : ¬ op ≤ 0 := fun e => h1 (.inl e)
  have h3 : ¬ 20 < op := fun e => h1 (.inr (.inl e))
  have h4 : op ≠ 1 → fx x = 0 := fun e => by
    by_cases h5 : fx x = 0
    · exact h5
    · exact absurd (.inr (.inr ⟨e, h5⟩)) h1
  obtain ⟨i, rfl⟩ : ∃ i : Nat, op = (i : Int) := ⟨op.toNat, by omega⟩
  refine ⟨i, rfl, by omega, by omega, fun e => h4 (by omega), ?_, ?_, ?_, ?_⟩
  · intro e
    rw [if_pos e] at h
    simpa using h
  · intro e
    rw [if_neg (by omega), if_pos e] at h
    simpa using h
  · intro e
    have m9 : most (((9 : Nat) : Int)) = 8 := by decide
    have m10 : most (((10 : Nat) : Int)) = 12 := by decide
    rcases e with rfl | rfl
    · rw [m9] at h ⊢
      simpa using h
    · rw [m10] at h ⊢
      simpa using h
  · intro e1 e2
    rw [if_neg e1, if_neg e2] at h
    split at h
    · simp at h; omega
    · simpa using h
theorem may_mk {i : Nat} {n len : Int} {x : Nat} (h1 : 1 ≤ i) (h2 : i ≤ 20) (hx : i ≠ 1 → fx x = 0) (ha : most (i : Int) = -2 → n = 0) (hb : most (i : Int) = -1 → 0 ≤ n ∧ n < len)
    (hc : i = 9 ∨ i = 10 → 1 ≤ n ∧ n ≤ most (i : Int)) (hd : most (i : Int) ≠ -2 → most (i : Int) ≠ -1 → 0 ≤ n ∧ n ≤ most (i : Int)) : mayS ⟨i, n, x⟩ len = true := by
  unfold mayS
  simp only
  rw [if_neg (by rintro (h | h | ⟨h, h'⟩); omega; omega; exact h' (hx (by omega)))]
  split
  · rename_i e; simpa using ha e
  split
  · rename_i e; simpa using hb e
  split
  · rename_i e; simpa using hc (by omega)
  · rename_i e1 e2 e3; simpa using hd e1 e2

/-- The same instruction may be as well. -/
theorem may_alike {p q : Ins} {len : Int} (h : SameI p q) : mayS q len = mayS p len := by
  obtain ⟨h1, h2, h3⟩ := h
  unfold mayS
  rw [h1, h2, h3]

def isIns (o : Option Ins) (op n : Int) : Bool := match o with
  | some q => q.op == op && q.n == n && q.x == 0
  | none => false
theorem isIns_eq {o : Option Ins} {op n : Int} (h : isIns o op n = true) : o = some ⟨op, n, 0⟩ := by
  cases o with
  | none => cases h
  | some q =>
    obtain ⟨a, b, c⟩ := q
    simp only [isIns, Bool.and_eq_true, beq_iff_eq] at h
    obtain ⟨⟨rfl, rfl⟩, rfl⟩ := h
    rfl
theorem one_lines : ∀ k, k < 9 → 1 ≤ k → isIns (instrS (onesB.getD k ⟨#[]⟩).data.toList) 9 (k : Nat) = true := by decide +kernel
theorem two_lines : ∀ k, k < 13 → 1 ≤ k → isIns (instrS (twosB.getD k ⟨#[]⟩).data.toList) 10 (k : Nat) = true := by decide +kernel
theorem bare_lines : ∀ i, i < 21 → 2 ≤ i → most ((i : Nat) : Int) = -2 → isIns (instrS (rowAt ((i : Nat) : Int)).1) (i : Nat) 0 = true := by decide +kernel
theorem rows_word : ∀ i, i < 21 → 1 ≤ i → i ≠ 9 → i ≠ 10 → (rowAt ((i : Nat) : Int)).1 ≠ [] := by decide +kernel
theorem rows_most : ∀ i, i < 21 → most ((i : Nat) : Int) < 1024 := by decide +kernel

/-- A line's instruction is the instruction. -/
theorem instr_line (p : Ins) (len : Int) (hx : p.x < 18446744073709551616) (hm : mayS p len = true) (hlen : len ≤ 1024) : ∃ q, instrS (lineS p) = some q ∧ SameI p q := by
  obtain ⟨op, n, x⟩ := p
  obtain ⟨i, rfl, h1, h2, h3, ha, hb, hc, hd⟩ := may_parts hm
  simp only at hx
  by_cases e1 : i = 1
  · subst e1
    have m1 : most (((1 : Nat) : Int)) = -2 := by decide
    obtain rfl := ha m1
    have hl : lineS ⟨((1 : Nat) : Int), 0, x⟩ = [112, 117, 115, 104] ++ 32 :: prt (fx x) := by
      unfold lineS
      simp only
      rw [if_pos (by decide)]
      rfl
    have hw := words_none (lineS ⟨((1 : Nat) : Int), 0, x⟩) (by rw [hl]; simp)
    obtain ⟨pe, pb⟩ := tparse (fx x) (fx_lt hx) (fx_fx x)
    refine ⟨⟨1, 0, fx x⟩, ?_, rfl, rfl, (fx_fx x).symm⟩
    unfold instrS
    rw [hw.1, hw.2]
    simp only
    rw [hl, cut_mk 32 [112, 117, 115, 104] (prt (fx x)) (by decide)]
    have hr : tryR (rowAt (((1 : Nat) : Int))).1 (prt (fx x)) true 1 = some ⟨1, 0, fx x⟩ := by
      unfold tryR
      rw [if_neg (by decide), if_pos ⟨rfl, rfl⟩, if_pos pe, pb]
    exact row_hit (i := 1) (by omega) (by decide) hr
  have hx0 := h3 e1
  by_cases e9 : i = 9
  · subst e9
    have m9 : most (((9 : Nat) : Int)) = 8 := by decide
    have hn := hc (.inl rfl)
    rw [m9] at hn
    obtain ⟨k, rfl⟩ : ∃ k : Nat, n = (k : Int) := ⟨n.toNat, by omega⟩
    refine ⟨⟨9, k, 0⟩, ?_, rfl, rfl, by rw [fx_zero]; exact hx0⟩
    exact isIns_eq (one_lines k (by omega) (by omega))
  by_cases e10 : i = 10
  · subst e10
    have m10 : most (((10 : Nat) : Int)) = 12 := by decide
    have hn := hc (.inr rfl)
    rw [m10] at hn
    obtain ⟨k, rfl⟩ : ∃ k : Nat, n = (k : Int) := ⟨n.toNat, by omega⟩
    refine ⟨⟨10, k, 0⟩, ?_, rfl, rfl, by rw [fx_zero]; exact hx0⟩
    exact isIns_eq (two_lines k (by omega) (by omega))
  by_cases em : most (i : Int) = -2
  · obtain rfl := ha em
    refine ⟨⟨i, 0, 0⟩, ?_, rfl, rfl, by rw [fx_zero]; exact hx0⟩
    have hl : lineS ⟨(i : Int), 0, x⟩ = (rowAt (i : Int)).1 := by
      unfold lineS
      simp only
      rw [if_neg (by omega), if_neg (by omega), if_neg (by omega), if_pos em]
    rw [hl]
    exact isIns_eq (bare_lines i (by omega) (by omega) em)
  · have hn : 0 ≤ n ∧ n < 1024 := by
      by_cases e : most (i : Int) = -1
      · have := hb e; omega
      · have := hd em e
        have := rows_most i (by omega)
        omega
    obtain ⟨k, rfl⟩ : ∃ k : Nat, n = (k : Int) := ⟨n.toNat, by omega⟩
    have hl : lineS ⟨(i : Int), k, x⟩ = (rowAt (i : Int)).1 ++ 32 :: Lib.decDigits k := by
      unfold lineS
      simp only
      rw [if_neg (by omega), if_neg (by omega), if_neg (by omega), if_neg em]
      unfold Lib.itoa
      rw [if_neg (by omega)]
      simp
    have hw := words_none (lineS ⟨(i : Int), k, x⟩) (by rw [hl]; simp)
    refine ⟨⟨i, k, 0⟩, ?_, rfl, rfl, by rw [fx_zero]; exact hx0⟩
    unfold instrS
    rw [hw.1, hw.2]
    simp only
    rw [hl, cut_mk 32 _ _ (rows_plain i (by omega)).1]
    have wd := whole_dec k (by omega)
    have hr : tryR (rowAt (i : Int)).1 (Lib.decDigits k) true i = some ⟨i, k, 0⟩ := by
      unfold tryR
      rw [if_neg (by rintro (e | e); exact rows_word i (by omega) h1 e9 e10 e; exact e rfl), if_neg (fun e => e1 e.1), if_neg (fun e => em e.2), if_pos rfl, wd.1, wd.2, if_pos ⟨rfl, may_mk h1 h2 (fun _ => fx_zero) (fun e => absurd e em) (fun e => by have := hb e; omega) hc hd⟩]
    exact row_hit (by omega) (rows_word i (by omega) h1 e9 e10) hr

/-- No line has an end of line in it. -/
theorem line_plain (p : Ins) (len : Int) (hm : mayS p len = true) : 10 ∉ lineS p := by
  obtain ⟨op, n, x⟩ := p
  obtain ⟨i, rfl, h1, h2, h3, ha, hb, hc, hd⟩ := may_parts hm
  unfold lineS
  simp only
  split
  · intro h
    rcases List.mem_append.1 h with h | h
    · revert h; decide
    · exact prt_no10 _ h
  split
  · rename_i e; have := hc (.inl (by omega)); have m9 : most (((9 : Nat) : Int)) = 8 := by decide
    obtain rfl : i = 9 := by omega
    rw [m9] at this
    rw [← ByteArray.toList_eq]
    exact (ones_plain n.toNat (by omega)).2
  split
  · rename_i e; have := hc (.inr (by omega)); have m9 : most (((10 : Nat) : Int)) = 12 := by decide
    obtain rfl : i = 10 := by omega
    rw [m9] at this
    rw [← ByteArray.toList_eq]
    exact (twos_plain n.toNat (by omega)).2
  split
  · exact (rows_plain i (by omega)).2
  · intro h
    rcases List.mem_append.1 h with h | h
    · rcases List.mem_append.1 h with h | h
      · exact (rows_plain i (by omega)).2 h
      · revert h; decide
    · exact itoa_no10 _ h
end Go.Proofs.YtjlnhifleepnoaaGreatDoor
