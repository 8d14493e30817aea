import Derived.Test.YtfnfmbfkgfpddaaDoorT1
import Derived.Test.YtfnfmbfkgfpddaaDoorW2
set_option linter.unusedVariables false
set_option linter.unusedSimpArgs false
namespace Go.Proofs.YtfnfmbfkgfpddaaDoor
open Go.RowKit

def badW (l : List UInt8) (n : Nat) : Prop := 2147483647 < n ∨ (1 < l.length ∧ l.head? = some 48)
instance (l : List UInt8) (n : Nat) : Decidable (badW l n) := inferInstanceAs (Decidable (_ ∨ _))
def dwholeN (l : List UInt8) : Int := match rd 10 l with
  | some n => if badW l n then 0 else n
  | none => 0
def dwholeE (l : List UInt8) : Int := match rd 10 l with
  | some n => if badW l n then 20 else 0
  | none => 20

set_option maxRecDepth 100000 in
/-- The document's Whole. -/
theorem rwhole_walk (s : ByteArray) (w : World) : Calls Tryd.prog 30 #[.string s] w fun e w' => e = .returned (.tuple #[.int .i64 (dwholeN s.toList), .int .i64 (dwholeE s.toList)]) ∧ w' = w := by
  have RW := fun W => read_walk s 10 W (.inl rfl)
  rw [← ByteArray.toList_eq] at RW
  have hlen : s.toList.length = s.size := by rw [ByteArray.toList_eq]; exact (Lib.size_eq s).symm
  unfold dwholeN dwholeE
  cases hr : rd 10 s.toList with
  | none =>
    rw [hr] at RW
    simp only [rdTuple] at RW
    simp only
    clear hr
    go_enter Tryd.func30, Tryd.ntmps30
    go_wp2_with (go_at_call 43; refine (RW _).mono ?_; rintro e w' ⟨rfl, rfl⟩)
    go_ret2
    exact ⟨rfl, rfl⟩
  | some n =>
    rw [hr] at RW
    simp only [rdTuple] at RW
    simp only
    have hne : 0 < s.size := by
      rcases Nat.eq_zero_or_pos s.size with h | h
      · rw [(empty_iff s).2 h] at hr
        simp [rd] at hr
      · exact h
    clear hr
    have hbt : s.toList.head? = some (s[0]'hne) := by
      rw [ByteArray.toList_eq, List.head?_eq_getElem?, List.getElem?_eq_getElem (by rw [← Lib.size_eq]; exact hne)]
      rfl
    by_cases h1 : 2147483647 < n
    · rw [if_pos (.inl h1), if_pos (.inl h1)]
      have k1 : (2147483647 : Int) < n := by omega
      clear hbt
      go_enter Tryd.func30, Tryd.ntmps30
      go_wp2_with (go_at_call 43; refine (RW _).mono ?_; rintro e w' ⟨rfl, rfl⟩)
      go_ret2
      exact ⟨rfl, rfl⟩
    · have k1 : ¬ (2147483647 : Int) < n := by omega
      by_cases h2 : 1 < s.size
      · have k2 : (1 : Int) < s.size := by omega
        obtain ⟨x, hx⟩ : ∃ x, x = s[0]'hne := ⟨_, rfl⟩
        rw [← hx] at hbt
        by_cases h3 : x = 48
        · have hb : badW s.toList n := .inr ⟨by omega, by rw [hbt, h3]⟩
          rw [if_pos hb, if_pos hb]
          have b1 : (((s[0]'hne).toNat : Int) == 48) = true := by rw [← hx, h3]; decide
          clear hbt hb hx
          go_enter Tryd.func30, Tryd.ntmps30
          go_wp2_with (go_at_call 43; refine (RW _).mono ?_; rintro e w' ⟨rfl, rfl⟩)
          go_ret2
          exact ⟨rfl, rfl⟩
        · have hb : ¬ badW s.toList n := by
            rintro (h | ⟨_, h⟩)
            · exact h1 h
            · rw [hbt] at h; exact h3 (Option.some.inj h)
          rw [if_neg hb, if_neg hb]
          have b1 : (((s[0]'hne).toNat : Int) == 48) = false := by rw [← hx]; exact byte_ne (k := 48) rfl h3
          clear hbt hb hx
          go_enter Tryd.func30, Tryd.ntmps30
          go_wp2_with (go_at_call 43; refine (RW _).mono ?_; rintro e w' ⟨rfl, rfl⟩)
          go_ret2
          exact ⟨rfl, rfl⟩
      · have k2 : ¬ (1 : Int) < s.size := by omega
        have hb : ¬ badW s.toList n := by
          rintro (h | ⟨h, _⟩)
          · exact h1 h
          · omega
        rw [if_neg hb, if_neg hb]
        clear hbt hb
        go_enter Tryd.func30, Tryd.ntmps30
        go_wp2_with (go_at_call 43; refine (RW _).mono ?_; rintro e w' ⟨rfl, rfl⟩)
        go_ret2
        exact ⟨rfl, rfl⟩

theorem pu31_dec {n : Nat} (h : n ≤ 2147483647) : pu31 (Lib.decDigits n) = .ok n := by
  unfold pu31 puAll
  rw [if_neg (dec_ne n)]
  induction n using Nat.strongRecOn with
  | _ n ih =>
    by_cases h9 : 9 < n
    · rw [dec_step h9, pu_snoc _ _ _ _ (n % 10) (ih (n / 10) (by omega) (by omega)) (hexd_dv _ (by omega)) (by omega) (by omega) (by omega)]
      congr 1; omega
    · rw [dec_last h9]
      have := hexd_dv n (by omega)
      simp only [pu, this]
      rw [if_neg (by omega), if_neg (by omega), if_neg (by omega)]
      simp

theorem rdl_split {B : Nat} : ∀ (a : List UInt8) (acc n : Nat) (c : UInt8), rdl B acc (a ++ [c]) = some n → ∃ v, rdl B acc a = some v ∧ 0 ≤ wv B c.toNat ∧ n = v * B + (wv B c.toNat).toNat
  | [], acc, n, c, h => by
    simp only [List.nil_append, rdl] at h
    split at h
    · cases h
    · simp only [Option.some.injEq] at h
      exact ⟨acc, rfl, by omega, h.symm⟩
  | x :: a, acc, n, c, h => by
    simp only [List.cons_append, rdl] at h ⊢
    split at h
    · cases h
    · rename_i hx
      rw [if_neg hx]
      exact rdl_split a _ n c h
theorem wv10_hexd {c : UInt8} (h : 0 ≤ wv 10 c.toNat) : c = hexd (wv 10 c.toNat).toNat ∧ (wv 10 c.toNat).toNat < 10 := by
  have : ∀ k : Fin 256, 0 ≤ wv 10 k.val → k.val = (hexd (wv 10 k.val).toNat).toNat ∧ (wv 10 k.val).toNat < 10 := by decide +kernel
  have h1 := this ⟨c.toNat, c.toNat_lt⟩ h
  exact ⟨UInt8.toNat_inj.1 h1.1, h1.2⟩
theorem rdl_unique : ∀ (k : Nat) (l : List UInt8) (n : Nat), l.length = k → rdl 10 0 l = some n → l ≠ [] → (1 < l.length → l.head? ≠ some 48) → l = Lib.decDigits n
  | 0, l, n, hk, _, hne, _ => absurd (List.eq_nil_of_length_eq_zero hk) hne
  | k + 1, l, n, hk, h, hne, hh => by
    obtain ⟨a, c, rfl⟩ : ∃ a c, l = a ++ [c] := ⟨l.dropLast, l.getLast hne, (List.dropLast_concat_getLast hne).symm⟩
    obtain ⟨v, hv, h0, hn⟩ := rdl_split a 0 n c h
    obtain ⟨hc, hd⟩ := wv10_hexd h0
    cases a with
    | nil =>
      simp only [rdl, Option.some.injEq] at hv
      subst hv
      have e : n = (wv 10 c.toNat).toNat := by omega
      rw [List.nil_append, dec_last (by omega), e, ← hc]
    | cons x a =>
      have hx : x ≠ 48 := by
        have := hh (by simp)
        intro e
        exact this (by rw [e]; rfl)
      have ih := rdl_unique k (x :: a) v (by simp at hk ⊢; omega) hv (by simp) (fun _ e => hx (Option.some.inj e))
      have hv0 : v ≠ 0 := by
        rintro rfl
        rw [dec_last (by omega)] at ih
        exact hx (List.cons.inj ih).1
      rw [dec_step (by omega), show n / 10 = v by omega, ← ih, show n % 10 = (wv 10 c.toNat).toNat by omega, ← hc]

theorem whole_same (l : List UInt8) : wholeN l = dwholeN l ∧ wholeE l = dwholeE l := by
  have key : (∃ v, pu31 l = .ok v ∧ Lib.decDigits v = l) ∨ wholeN l = 0 ∧ wholeE l = 20 ∧ ∀ v, pu31 l = .ok v → Lib.decDigits v ≠ l := by
    unfold wholeN wholeE
    cases hr : pu31 l with
    | ok v =>
      by_cases hq : Lib.decDigits v = l
      · exact .inl ⟨v, rfl, hq⟩
      · right
        simp only
        rw [if_neg hq, if_neg hq]
        exact ⟨rfl, rfl, fun u e => by cases e; exact hq⟩
    | range => exact .inr ⟨rfl, rfl, fun u e => by cases e⟩
    | _ => exact .inr ⟨rfl, rfl, fun u e => by cases e⟩
  rcases key with ⟨v, h1, h2⟩ | ⟨h1, h2, h3⟩
  · have hv := pu31_le h1
    have e1 : wholeN l = v ∧ wholeE l = 0 := by
      unfold wholeN wholeE
      rw [h1]
      simp only
      rw [if_pos h2, if_pos h2]
      exact ⟨rfl, rfl⟩
    have r : rd 10 l = some v := by rw [← h2]; exact rd_dec (by omega)
    have nb : ¬ badW l v := by
      rintro (h | ⟨h, h4⟩)
      · omega
      · obtain ⟨b, t, h5, _, _⟩ := dec_cons v
        rw [← h2, h5] at h4
        have : b = 48 := Option.some.inj h4
        subst this
        have z := dec_zero h5
        subst z
        rw [← h2, dec_last (by omega)] at h
        simp at h
    unfold dwholeN dwholeE
    rw [r]
    simp only
    rw [if_neg nb, if_neg nb]
    exact e1
  · rw [h1, h2]
    unfold dwholeN dwholeE
    cases hr : rd 10 l with
    | none => exact ⟨rfl, rfl⟩
    | some n =>
      simp only
      by_cases nb : badW l n
      · rw [if_pos nb, if_pos nb]; exact ⟨rfl, rfl⟩
      · exfalso
        have hne : l ≠ [] := by rintro rfl; simp [rd] at hr
        have hrl : rdl 10 0 l = some n := by
          unfold rd at hr
          split at hr
          · cases hr
          · exact hr
        have hl := rdl_unique _ l n rfl hrl hne (fun hlt e => nb (.inr ⟨hlt, e⟩))
        have hn : n ≤ 2147483647 := by
          rcases Nat.lt_or_ge 2147483647 n with h | h
          · exact absurd (.inl h) nb
          · exact h
        have := pu31_dec hn
        rw [← hl] at this
        exact h3 n this hl.symm

set_option maxRecDepth 100000 in
theorem wholes (w : World) (s : ByteArray) (hs : s.size ≤ 281474976710656) (L : Laid w) : Calls Tryd.prog 12 #[.string s] w (Fine w) := by
  have PW : ∀ W, Laid W → Calls Tryd.prog 13 #[.string s] W (WholePost (wholeN s.toList) (wholeE s.toList) W) := fun W l => whole_walk s W l hs
  have QW := fun W => rwhole_walk s W
  unfold WholePost at PW
  rw [← (whole_same s.toList).1, ← (whole_same s.toList).2] at QW
  obtain ⟨b, hb⟩ : ∃ b, b = wholeN s.toList := ⟨_, rfl⟩
  obtain ⟨n, hn⟩ : ∃ n, n = wholeE s.toList := ⟨_, rfl⟩
  rw [← hb, ← hn] at PW QW
  have t1 : (n == n) = true := by simp
  have t2 : (b == b) = true := by simp
  have LD := Lib.hid L
  clear L hb hn
  go_enter Tryd.func12, Tryd.ntmps12
  go_wp2_with (first | (go_at_call 13; refine (PW _ LD.out).mono ?_; rintro e w1 ⟨rfl, b1⟩; have B1 := Lib.hid b1; have L1 := Lib.hid (LD.out.below b1); clear b1) | (go_at_call 30; refine (QW _).mono ?_; rintro e w2 ⟨rfl, rfl⟩) | (go_at_call 16; refine (live_walk _ L1.out).mono ?_; rintro e w3 ⟨rfl, b3⟩; have B3 := Lib.hid (B1.out.trans (b3.mono B1.out.size)); clear b3))
  all_goals go_ret
  all_goals exact fine_of B3.out

def HasWhole (s : ByteArray) (n f : Int) : Prop := s.size ≤ 281474976710656 ∧ wholeN s.toList = n ∧ wholeE s.toList = f
theorem whole_at (s : ByteArray) (w : World) (L : Laid w) (n f : Int) (h : HasWhole s n f) : Calls Tryd.prog 13 #[.string s] w (WholePost n f w) := by
  obtain ⟨h1, rfl, rfl⟩ := h
  exact whole_walk s w L h1

set_option maxRecDepth 100000 in
theorem numbers (w : World) (L : Laid w) : Calls Tryd.prog 3 #[] w (Fine w) := by
  have W1 : HasWhole ⟨#[50, 49, 52, 55, 52, 56, 51, 54, 52, 55]⟩ 2147483647 0 := ⟨by decide, by rw [ByteArray.toList_eq]; decide +kernel, by rw [ByteArray.toList_eq]; decide +kernel⟩
  have W2 : HasWhole ⟨#[50, 49, 52, 55, 52, 56, 51, 54, 52, 56]⟩ 0 20 := ⟨by decide, by rw [ByteArray.toList_eq]; decide +kernel, by rw [ByteArray.toList_eq]; decide +kernel⟩
  have T1 : HasText 4602678819172646912 [120, 51, 102, 101, 48, 48, 48, 48, 48, 48, 48, 48, 48, 48, 48, 48, 48] := ⟨by decide, by decide +kernel⟩
  have T2 : HasText 9223372036854775808 [45, 48] := ⟨by decide, by decide +kernel⟩
  have q1 : ((S [120, 51, 102, 101, 48, 48, 48, 48, 48, 48, 48, 48, 48, 48, 48, 48, 48]).toList == [120, 51, 102, 101, 48, 48, 48, 48, 48, 48, 48, 48, 48, 48, 48, 48, 48]) = true := by simp [S_list]
  have q2 : ((S [45, 48]).toList == [45, 48]) = true := by simp [S_list]
  have q3 : ((S [110, 97, 110]).toList == [110, 97, 110]) = true := by simp [S_list]
  have T3 : HasText 18444492273895866369 [110, 97, 110] := ⟨by decide, by decide +kernel⟩
  have LD := Lib.hid L
  have B1 := Lib.hid (Below.refl w.heap.size w)
  clear L
  go_enter Tryd.func3, Tryd.ntmps3
  go_wp2_with (first | (go_at_call 13; refine (whole_at _ _ LD.out _ _ (by assumption)).mono ?_; rintro e w1 ⟨rfl, b1⟩; have LD := Lib.hid (LD.out.below b1); have B1 := Lib.hid (B1.out.trans (b1.mono B1.out.size)); clear b1) | (go_at_call 14; refine (print_at _ _ LD.out _ (by assumption)).mono ?_; rintro e w1 ⟨rfl, b1⟩; have LD := Lib.hid (LD.out.below b1); have B1 := Lib.hid (B1.out.trans (b1.mono B1.out.size)); clear b1) | (go_at_call 15; refine (raw_walk 9223372036854775808 _).mono ?_; rintro e w' ⟨rfl, rfl⟩) | (go_at_call 15; refine (raw_walk 18444492273895866369 _).mono ?_; rintro e w' ⟨rfl, rfl⟩))
  all_goals go_ret
  all_goals exact fine_of B1.out
end Go.Proofs.YtfnfmbfkgfpddaaDoor
