import Derived.Test.YtfnfmbfkgfpddaaDoorB5
set_option linter.unusedVariables false
set_option linter.unusedSimpArgs false
namespace Go.Proofs.YtfnfmbfkgfpddaaDoor
open Go.RowKit

def emp : ByteArray := ⟨#[]⟩
def sp1 : ByteArray := ⟨#[32]⟩
def nl1 : ByteArray := ⟨#[10]⟩
theorem tl_app (a b : ByteArray) : (a ++ b).data.toList = a.data.toList ++ b.data.toList := by rw [ByteArray.data_append]; simp
theorem tl_inj {a b : ByteArray} (h : a.data.toList = b.data.toList) : a = b := ByteArray.ext (Array.toList_inj.1 h)
theorem bt_tl (s : ByteArray) (i : Nat) (h : i < s.size) : bt s i = (s.data.toList.getD i 0).toNat := by
  rw [bt_eq h]
  have h2 : i < s.data.toList.length := by rw [← Lib.size_eq]; exact h
  simp only [List.getD, List.getElem?_eq_getElem h2, Option.getD_some]
  rfl
theorem size_app (a b : ByteArray) : (a ++ b).size = a.size + b.size := by
  rw [Lib.size_eq, tl_app, List.length_append, ← Lib.size_eq, ← Lib.size_eq]
theorem bt_left {a b : ByteArray} {i : Nat} (h : i < a.size) : bt (a ++ b) i = bt a i := by
  rw [bt_tl _ _ (by rw [size_app]; omega), bt_tl _ _ h, tl_app]
  have h2 : i < a.data.toList.length := by rw [← Lib.size_eq]; exact h
  simp only [List.getD, List.getElem?_append_left h2]
theorem bt_right {a b : ByteArray} {i : Nat} (h : i < b.size) : bt (a ++ b) (a.size + i) = bt b i := by
  rw [bt_tl _ _ (by rw [size_app]; omega), bt_tl _ _ h, tl_app]
  simp only [List.getD]
  rw [List.getElem?_append_right (by rw [← Lib.size_eq]; omega), ← Lib.size_eq]
  congr 3
  omega
theorem ex_tl (s : ByteArray) (i j : Nat) : (s.extract i j).data.toList = (s.data.toList.drop i).take (j - i) := by rw [← ByteArray.toList_eq]; exact Lib.extract_toList s i j
theorem ex_left {a b : ByteArray} {i j : Nat} (h : j ≤ a.size) : (a ++ b).extract i j = a.extract i j := by
  apply tl_inj
  have hl : a.data.toList.length = a.size := (Lib.size_eq a).symm
  rw [ex_tl, ex_tl, tl_app, List.drop_append, List.take_append]
  rcases Nat.lt_or_ge i j with h1 | h1
  · rw [show j - i - (a.data.toList.drop i).length = 0 by simp; omega]
    simp
  · rw [show j - i = 0 by omega]
    simp
theorem ex_right (a b : ByteArray) : (a ++ b).extract a.size (a ++ b).size = b := by
  apply tl_inj
  have hl : a.data.toList.length = a.size := (Lib.size_eq a).symm
  have hb : b.data.toList.length = b.size := (Lib.size_eq b).symm
  have e1 : List.drop a.size (a.data.toList ++ b.data.toList) = b.data.toList := by rw [← hl]; simp
  rw [ex_tl, tl_app, size_app, e1, List.take_of_length_le (by omega)]
theorem ex_all (a : ByteArray) : a.extract 0 a.size = a := by
  apply tl_inj
  rw [ex_tl, List.drop_zero, Nat.sub_zero, Lib.size_eq, List.take_length]
theorem ex_glue (s : ByteArray) {i j k : Nat} (h1 : i ≤ j) (h2 : j ≤ k) (h3 : k ≤ s.size) : s.extract i j ++ s.extract j k = s.extract i k := by
  apply tl_inj
  rw [tl_app, ex_tl, ex_tl, ex_tl]
  have : k - i = (j - i) + (k - j) := by omega
  rw [this, List.take_add, List.drop_drop]
  congr 3
  omega
theorem ex_size (s : ByteArray) {i j : Nat} (h1 : i ≤ j) (h2 : j ≤ s.size) : (s.extract i j).size = j - i := by
  rw [ByteArray.size_extract]; omega
theorem ex_bt (s : ByteArray) {i j k : Nat} (h2 : j ≤ s.size) (hk : i + k < j) : bt (s.extract i j) k = bt s (i + k) := by
  have h1 : k < (s.extract i j).size := by rw [ex_size s (by omega) h2]; omega
  rw [bt_tl _ _ h1, bt_tl _ _ (by omega), ex_tl]
  simp only [List.getD]
  rw [List.getElem?_take, if_pos (by omega), List.getElem?_drop]

/-- What the law's first loop joins. -/
def jn (l : List ByteArray) : Nat → ByteArray
  | 0 => emp
  | i + 1 => (if 0 < i then jn l i ++ sp1 else jn l i) ++ l.getD i emp
theorem jn_app (l m : List ByteArray) : ∀ i, i ≤ l.length → jn (l ++ m) i = jn l i
  | 0, _ => rfl
  | i + 1, h => by
    simp only [jn, jn_app l m i (by omega)]
    congr 1
    simp only [List.getD]
    rw [List.getElem?_append_left (by omega)]

theorem size_emp : emp.size = 0 := rfl
theorem size_sp : sp1.size = 1 := rfl
def Good (x : ByteArray) : Prop := 0 < x.size ∧ ∀ k, k < x.size → ¬ blank (bt x k)
structure WInv (s : ByteArray) (i : Nat) (L : List ByteArray) (f : Nat) : Prop where
  le : f ≤ i
  seg : ∀ j, f ≤ j → j < i → ¬ blank (bt s j)
  good : ∀ x ∈ L, Good x
  len : L = [] ∨ (jn L L.length).size + 1 ≤ f

theorem jn_push (L : List ByteArray) (x : ByteArray) : (jn (L ++ [x]) (L ++ [x]).length).size ≤ (if L = [] then 0 else (jn L L.length).size + 1) + x.size := by
  have e : (L ++ [x]).length = L.length + 1 := by simp
  rw [e]
  simp only [jn, jn_app L [x] L.length (Nat.le_refl _)]
  have g : (L ++ [x]).getD L.length emp = x := by simp [List.getD]
  rw [g, size_app]
  cases L with
  | nil => simp [jn, size_emp]
  | cons y L =>
    rw [if_pos (by simp), if_neg (by simp), size_app, size_sp]
    exact Nat.le_refl _

theorem winv (s : ByteArray) : ∀ i, i ≤ s.size → WInv s i (wordsSt s i).1 (wordsSt s i).2
  | 0, _ => ⟨by simp [wordsSt], fun j h1 h2 => by omega, by simp [wordsSt], .inl rfl⟩
  | i + 1, hi => by
    have ih := winv s i (by omega)
    rcases hq : wordsSt s i with ⟨L, f⟩
    rw [hq] at ih
    by_cases hb : blank (bt s i)
    · by_cases hf : f < i
      · rw [wordsSt_hit hq hb hf]
        refine ⟨by simp, fun j h1 h2 => by simp at h1; omega, ?_, .inr ?_⟩
        · intro x hx
          rcases List.mem_append.1 hx with h | h
          · exact ih.good x h
          · rw [List.mem_singleton.1 h]
            refine ⟨by rw [ex_size s (by omega) (by omega)]; omega, fun k hk => ?_⟩
            rw [ex_size s (by omega) (by omega)] at hk
            rw [ex_bt s (by omega) (by omega)]
            exact ih.seg _ (by simp) (by omega)
        · have h1 := jn_push L (s.extract f i)
          rw [ex_size s (by omega) (by omega)] at h1
          simp only at h1 ⊢
          rcases ih.len with h | h
          · rw [if_pos h] at h1; omega
          · simp only at h
            split at h1 <;> omega
      · rw [wordsSt_gap hq hb hf]
        have := ih.le
        simp only at this
        refine ⟨by simp, fun j h1 h2 => by simp at h1; omega, ih.good, ?_⟩
        rcases ih.len with h | h
        · exact .inl h
        · right; simp only at h ⊢; omega
    · rw [wordsSt_miss hq hb]
      refine ⟨by have := ih.le; omega, fun j h1 h2 => ?_, ih.good, ih.len⟩
      rcases Nat.lt_succ_iff_lt_or_eq.1 h2 with h | rfl
      · exact ih.seg j h1 h
      · exact hb

theorem words_good (s : ByteArray) : (∀ x ∈ words s, Good x) ∧ (jn (words s) (words s).length).size ≤ s.size := by
  have h := winv s s.size (Nat.le_refl _)
  unfold words
  rcases hq : wordsSt s s.size with ⟨L, f⟩
  rw [hq] at h
  simp only
  have hle := h.le
  simp only at hle
  split
  · rename_i hf
    constructor
    · intro x hx
      rcases List.mem_append.1 hx with h1 | h1
      · exact h.good x h1
      · rw [List.mem_singleton.1 h1]
        refine ⟨by rw [ex_size s hle (Nat.le_refl _)]; omega, fun k hk => ?_⟩
        rw [ex_size s hle (Nat.le_refl _)] at hk
        rw [ex_bt s (Nat.le_refl _) (by omega)]
        exact h.seg _ (by simp) (by omega)
    · have h1 := jn_push L (s.extract f s.size)
      rw [ex_size s hle (Nat.le_refl _)] at h1
      rcases h.len with h2 | h2
      · rw [if_pos h2] at h1; omega
      · simp only at h2
        split at h1 <;> omega
  · refine ⟨h.good, ?_⟩
    rcases h.len with h1 | h1
    · simp only at h1
      subst h1
      exact Nat.zero_le _
    · simp only at h1
      omega

theorem wordsSt_pre (a b : ByteArray) : ∀ i, i ≤ a.size → wordsSt (a ++ b) i = wordsSt a i
  | 0, _ => rfl
  | i + 1, h => by
    simp only [wordsSt, wordsSt_pre a b i (by omega), bt_left (a := a) (b := b) (i := i) (by omega), ex_left (a := a) (b := b) (j := i) (by omega)]

/-- The words of good words joined. -/
theorem words_jn (l : List ByteArray) (hg : ∀ x ∈ l, Good x) : ∀ i, i < l.length → ∃ f, wordsSt (jn l (i + 1)) (jn l (i + 1)).size = (l.take i, f) ∧ f < (jn l (i + 1)).size ∧ (jn l (i + 1)).extract f (jn l (i + 1)).size = l.getD i emp
  | 0, h => by
    have hx := hg (l.getD 0 emp) (by simp only [List.getD, List.getElem?_eq_getElem h, Option.getD_some]; exact List.getElem_mem h)
    have e : jn l 1 = l.getD 0 emp := by
      simp only [jn]
      rw [if_neg (by omega)]
      apply tl_inj
      rw [tl_app]
      simp [emp]
    rw [e]
    refine ⟨0, ?_, hx.1, ex_all _⟩
    have := wordsSt_skip (s := l.getD 0 emp) (i := 0) (L := []) (f := 0) rfl (l.getD 0 emp).size (fun j _ h2 => hx.2 j (by omega))
    rw [Nat.zero_add] at this
    rw [this]
    simp
  | i + 1, h => by
    obtain ⟨f, h1, h2, h3⟩ := words_jn l hg i (by omega)
    have hx := hg (l.getD (i + 1) emp) (by simp only [List.getD, List.getElem?_eq_getElem h, Option.getD_some]; exact List.getElem_mem h)
    obtain ⟨x, hxx⟩ : ∃ x, x = l.getD (i + 1) emp := ⟨_, rfl⟩
    obtain ⟨J, hJ⟩ : ∃ J, J = jn l (i + 1) := ⟨_, rfl⟩
    have e : jn l (i + 1 + 1) = J ++ sp1 ++ x := by
      rw [jn, if_pos (by omega), ← hJ, ← hxx]
    rw [← hJ] at h1 h2 h3
    rw [← hxx] at hx
    rw [e, ← hxx]
    have s1 : (J ++ sp1).size = J.size + 1 := by rw [size_app]; rfl
    have s2 : (J ++ sp1 ++ x).size = J.size + 1 + x.size := by rw [size_app, s1]
    have p1 : wordsSt (J ++ sp1 ++ x) J.size = (l.take i, f) := by
      rw [wordsSt_pre (J ++ sp1) x _ (by omega), wordsSt_pre J sp1 _ (Nat.le_refl _), h1]
    have b1 : blank (bt (J ++ sp1 ++ x) J.size) := by
      rw [bt_left (by omega)]
      have := bt_right (a := J) (b := sp1) (i := 0) (by decide)
      rw [Nat.add_zero] at this
      rw [this]
      exact .inl (by decide)
    have p2 := wordsSt_hit p1 b1 h2
    have e2 : (J ++ sp1 ++ x).extract f J.size = l.getD i emp := by
      rw [ex_left (by omega), ex_left (Nat.le_refl _), h3]
    rw [e2] at p2
    have e3 : l.take i ++ [l.getD i emp] = l.take (i + 1) := by
      rw [List.take_add_one]
      simp only [List.getD, List.getElem?_eq_getElem (show i < l.length by omega), Option.getD_some, Option.toList_some]
    rw [e3] at p2
    have p3 := wordsSt_skip p2 x.size (fun j h4 h5 => by
      have := bt_right (a := J ++ sp1) (b := x) (i := j - (J.size + 1)) (by omega)
      rw [s1, show J.size + 1 + (j - (J.size + 1)) = j by omega] at this
      rw [this]
      exact hx.2 _ (by omega))
    rw [s2]
    refine ⟨J.size + 1, p3, by have := hx.1; omega, ?_⟩
    have := ex_right (J ++ sp1) x
    rwa [s1, s2] at this

theorem words_again (l : List ByteArray) (hg : ∀ x ∈ l, Good x) : words (jn l l.length) = l := by
  cases hl : l.length with
  | zero =>
    have : l = [] := List.eq_nil_of_length_eq_zero hl
    subst this
    rfl
  | succ k =>
    obtain ⟨f, h1, h2, h3⟩ := words_jn l hg k (by omega)
    rw [words_add h1 h2, h3]
    have : l.take (k + 1) = l := List.take_of_length_le (by omega)
    conv => rhs; rw [← this]
    rw [List.take_add_one]
    simp only [List.getD, List.getElem?_eq_getElem (show k < l.length by omega), Option.getD_some, Option.toList_some]

/-- What the law's last loop puts together. -/
def al (l : List ByteArray) : Nat → ByteArray
  | 0 => emp
  | i + 1 => al l i ++ l.getD i emp ++ nl1
theorem al_app (l m : List ByteArray) : ∀ i, i ≤ l.length → al (l ++ m) i = al l i
  | 0, _ => rfl
  | i + 1, h => by
    simp only [al, al_app l m i (by omega)]
    congr 2
    simp only [List.getD]
    rw [List.getElem?_append_left (by omega)]
theorem al_push (L : List ByteArray) (x : ByteArray) : al (L ++ [x]) (L ++ [x]).length = al L L.length ++ x ++ nl1 := by
  have e : (L ++ [x]).length = L.length + 1 := by simp
  rw [e]
  simp only [al, al_app L [x] L.length (Nat.le_refl _)]
  have g : (L ++ [x]).getD L.length emp = x := by simp [List.getD]
  rw [g]
def NoNl (x : ByteArray) : Prop := ∀ k, k < x.size → bt x k ≠ 10
structure LInv (s : ByteArray) (i : Nat) (L : List ByteArray) (f : Nat) : Prop where
  le : f ≤ i
  seg : ∀ j, f ≤ j → j < i → bt s j ≠ 10
  good : ∀ x ∈ L, NoNl x
  cat : al L L.length = s.extract 0 f
theorem linv (s : ByteArray) : ∀ i, i ≤ s.size → LInv s i (linesSt s i).1 (linesSt s i).2
  | 0, _ => ⟨by simp [linesSt], fun j h1 h2 => by omega, by simp [linesSt], by
      apply tl_inj
      simp [linesSt, al, emp, ex_tl]⟩
  | i + 1, hi => by
    have ih := linv s i (by omega)
    rcases hq : linesSt s i with ⟨L, f⟩
    rw [hq] at ih
    have hle := ih.le
    simp only at hle
    by_cases hb : bt s i = 10
    · rw [linesSt_hit hq hb]
      refine ⟨by simp, fun j h1 h2 => by simp at h1; omega, ?_, ?_⟩
      · intro x hx
        rcases List.mem_append.1 hx with h | h
        · exact ih.good x h
        · rw [List.mem_singleton.1 h]
          intro k hk
          rw [ex_size s hle (by omega)] at hk
          rw [ex_bt s (by omega) (by omega)]
          exact ih.seg _ (by simp) (by omega)
      · rw [al_push, ih.cat, ex_glue s (by omega) hle (by omega)]
        have e : s.extract i (i + 1) = nl1 := by
          apply tl_inj
          rw [ex_tl, show i + 1 - i = 1 by omega]
          have h2 : i < s.data.toList.length := by rw [← Lib.size_eq]; omega
          rw [bt_tl s i (by omega)] at hb
          rw [List.drop_eq_getElem_cons h2, List.take_succ_cons, List.take_zero]
          simp only [List.getD, List.getElem?_eq_getElem h2, Option.getD_some] at hb
          rw [UInt8.toNat_inj.1 (show _ = (10 : UInt8).toNat from hb)]
          rfl
        rw [← e, ex_glue s (by omega) (by omega) (by omega)]
    · rw [linesSt_miss hq hb]
      refine ⟨by omega, fun j h1 h2 => ?_, ih.good, ih.cat⟩
      rcases Nat.lt_succ_iff_lt_or_eq.1 h2 with h | rfl
      · exact ih.seg j h1 h
      · exact hb
theorem lines_back (s : ByteArray) : (∀ x ∈ lines s, NoNl x) ∧ (al (lines s) (lines s).length = s ∨ al (lines s) (lines s).length = s ++ nl1 ∧ 0 < s.size) := by
  have h := linv s s.size (Nat.le_refl _)
  unfold lines
  rcases hq : linesSt s s.size with ⟨L, f⟩
  rw [hq] at h
  simp only
  have hle := h.le
  simp only at hle
  split
  · rename_i hf
    constructor
    · intro x hx
      rcases List.mem_append.1 hx with h1 | h1
      · exact h.good x h1
      · rw [List.mem_singleton.1 h1]
        intro k hk
        rw [ex_size s hle (Nat.le_refl _)] at hk
        rw [ex_bt s (Nat.le_refl _) (by omega)]
        exact h.seg _ (by simp) (by omega)
    · right
      refine ⟨?_, by omega⟩
      rw [al_push, h.cat, ex_glue s (by omega) hle (Nat.le_refl _), ex_all]
  · refine ⟨h.good, .inl ?_⟩
    rw [h.cat]
    simp only
    rw [show f = s.size by omega, ex_all]
end Go.Proofs.YtfnfmbfkgfpddaaDoor
