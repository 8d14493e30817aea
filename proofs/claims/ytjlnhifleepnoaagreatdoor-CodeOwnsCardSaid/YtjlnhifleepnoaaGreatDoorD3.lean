import Derived.Test.YtjlnhifleepnoaaGreatDoorR1
set_option linter.unusedVariables false
set_option linter.unusedSimpArgs false
namespace Go.Proofs.YtjlnhifleepnoaaGreatDoor
open Go.RowKit

def isDig (c : UInt8) : Prop := 48 ≤ c.toNat ∧ c.toNat ≤ 57
/-- What digits are worth. -/
def valD : Nat → List UInt8 → Nat
  | acc, [] => acc
  | acc, c :: r => valD (10 * acc + (c.toNat - 48)) r
theorem valD_snoc : ∀ (a : List UInt8) (acc : Nat) (c : UInt8), valD acc (a ++ [c]) = 10 * valD acc a + (c.toNat - 48)
  | [], acc, c => rfl
  | x :: a, acc, c => by
    show valD _ (a ++ [c]) = _
    rw [valD_snoc a _ c]
    rfl
theorem decS {n : Nat} (h : n < 10) : Lib.decDigits n = [UInt8.ofNat (48 + n)] := by
  rw [Lib.decDigits, dif_pos h]
theorem decB {n : Nat} (h : ¬ n < 10) : Lib.decDigits n = Lib.decDigits (n / 10) ++ [UInt8.ofNat (48 + n % 10)] := by
  rw [Lib.decDigits, dif_neg h]
theorem valD_ge : ∀ (a : List UInt8) (acc : Nat), acc ≤ valD acc a
  | [], acc => Nat.le_refl _
  | x :: a, acc => Nat.le_trans (by omega) (valD_ge a (10 * acc + (x.toNat - 48)))
theorem dig_back (c : UInt8) (h : isDig c) : UInt8.ofNat (48 + (c.toNat - 48)) = c := by
  rw [show 48 + (c.toNat - 48) = c.toNat by have := h.1; omega]
  simp
/-- Digits without a zero ahead are those of their worth. -/
theorem dec_val : ∀ (n : Nat) (l : List UInt8), l.length = n → (∀ c ∈ l, isDig c) → l ≠ [] → (l.length = 1 ∨ l.head? ≠ some 48) → Lib.decDigits (valD 0 l) = l := by
  intro n
  induction n with
  | zero => intro l hl _ h0 _; exact absurd (List.eq_nil_of_length_eq_zero hl) h0
  | succ n ih =>
    intro l hl hd h0 hz
    obtain ⟨a, c, rfl⟩ : ∃ a c, l = a ++ [c] := ⟨l.dropLast, l.getLast h0, (List.dropLast_concat_getLast h0).symm⟩
    have hc : isDig c := hd c (by simp)
    rw [valD_snoc]
    by_cases ha : a = []
    · subst ha
      show Lib.decDigits (10 * 0 + (c.toNat - 48)) = [c]
      rw [decS (by have := hc.2; omega), Nat.mul_zero, Nat.zero_add, dig_back c hc]
    · have hla : a.length = n := by simpa using hl
      have hhead : a.head? ≠ some 48 := by
        rcases hz with h1 | h1
        · have : a.length = 0 := by simpa using h1
          exact absurd (List.eq_nil_of_length_eq_zero this) ha
        · cases a with
          | nil => exact absurd rfl ha
          | cons x r => simpa using h1
      have hA := ih a hla (fun x hx => hd x (by simp [hx])) ha (.inr hhead)
      have hpos : 0 < valD 0 a := by
        cases a with
        | nil => exact absurd rfl ha
        | cons x r =>
          have hx := hd x (by simp)
          have hne : x.toNat ≠ 48 := fun e => hhead (by simp; exact UInt8.toNat_inj.1 e)
          have := valD_ge r (10 * 0 + (x.toNat - 48))
          have := hx.1
          show 0 < valD (10 * 0 + (x.toNat - 48)) r
          omega
      have hcd : c.toNat - 48 < 10 := by have := hc.2; omega
      rw [decB (by omega), show (10 * valD 0 a + (c.toNat - 48)) / 10 = valD 0 a by omega, show (10 * valD 0 a + (c.toNat - 48)) % 10 = c.toNat - 48 by omega, hA, dig_back c hc]
theorem dec_inj {u v : Nat} (h : Lib.decDigits u = Lib.decDigits v) : u = v := by
  have h1 := decNat_dec u
  rw [h, decNat_dec v] at h1
  exact (Option.some.inj h1).symm

/-- What the document's number says of digits, of a number up to most. -/
def NumOk (l : List UInt8) (m : Int) (n : Int) (ok : Bool) : Prop := (ok = true → 0 ≤ n ∧ l = Lib.decDigits n.toNat ∧ n ≤ m) ∧ (∀ v : Nat, l = Lib.decDigits v → (v : Int) ≤ m → ok = true)

def NumPost (l : List UInt8) (m : Int) (e : Ending) : Prop := ∃ (n : Int) (ok : Bool), e = .returned (.tuple #[.int .i64 n, .bool ok]) ∧ NumOk l m n ok
theorem num_no {l : List UInt8} {m n : Int} (h : ∀ v : Nat, l = Lib.decDigits v → (v : Int) ≤ m → False) : NumOk l m n false := ⟨fun h => (by cases h), fun v h1 h2 => (h v h1 h2).elim⟩

theorem valD_take (s : ByteArray) (k : Nat) (h : k < s.size) : valD 0 (s.data.toList.take (k + 1)) = 10 * valD 0 (s.data.toList.take k) + ((s[k]'h).toNat - 48) := by
  have hl : k < s.data.toList.length := by rw [← Lib.size_eq]; exact h
  rw [List.take_add_one, List.getElem?_eq_getElem hl]
  show valD 0 (_ ++ [_]) = _
  rw [valD_snoc]
  rfl

set_option maxRecDepth 100000 in
set_option maxHeartbeats 2000000 in
/-- The document's number. -/
theorem dnum_walk (s : ByteArray) (m : Int) (w : World) (hm0 : 0 ≤ m) (hm1 : m ≤ 1023) (hs : s.size < 4294967281) : Calls Tryz.prog 31 #[.string s, .int .i64 m] w fun e w' => NumPost s.data.toList m e ∧ Below w.heap.size w w' := by
  go_enter Tryz.func31, Tryz.ntmps31
  go_wp2
  go_loopw [6, 7] (fun v n wr => ∃ (k : Nat) (a : Nat), wr = w ∧ v = .int .i64 a ∧ n = .int .i64 k ∧ k ≤ s.size ∧ k ≤ 5 ∧ a < 10 ^ k ∧ a = valD 0 (s.data.toList.take k) ∧ ∀ j (hj : j < s.size), j < k → isDig (s[j]'hj)) (fun _ n _ => s.size - (intOf n).toNat)
  case atStart => exact ⟨0, 0, rfl, rfl, rfl, by omega, by omega, by decide, rfl, fun j _ h => by omega⟩
  case round =>
    obtain ⟨k, a, rfl, rfl, rfl, hk, hk5, ha, hv, hd⟩ := hrel
    have HV := Lib.hid hv
    have HD := Lib.hid hd
    clear hv hd
    have hp : 10 ^ k ≤ 100000 := by
      rcases (by omega : k = 0 ∨ k = 1 ∨ k = 2 ∨ k = 3 ∨ k = 4 ∨ k = 5) with rfl | rfl | rfl | rfl | rfl | rfl <;> decide
    have ha5 : a < 100000 := by omega
    by_cases h : k < s.size ∧ k < 5
    · obtain ⟨h1, h2⟩ := h
      have h' : (k : Int) < s.size := by omega
      have h5 : (k : Int) < 5 := by omega
      by_cases hdig : isDig (s[k]'h1)
      · have hdig' := hdig
        obtain ⟨d1, d2⟩ := hdig
        have VT := Lib.hid (valD_take s k h1)
        have ND := Lib.hid (show ∀ j (hj : j < s.size), j < k + 1 → isDig (s[j]'hj) from fun j hj hjk => by rcases Nat.lt_succ_iff_lt_or_eq.1 hjk with h5 | rfl; exact HD.out j hj h5; exact hdig')
        obtain ⟨c, hc⟩ : ∃ c : Nat, c = (s[k]'h1).toNat := ⟨_, rfl⟩
        have t1 : ¬ (((s[k]'h1).toNat : Int) < 48) := by omega
        have t2 : ¬ (57 < ((s[k]'h1).toNat : Int)) := by omega
        have w1 : IntKind.u8.wrap (((s[k]'h1).toNat : Int) - 48) = ((s[k]'h1).toNat : Int) - 48 := by simp [IntKind.wrap, IntKind.bits, IntKind.signed]; omega
        have w2 : IntKind.i64.wrap (((s[k]'h1).toNat : Int) - 48) = ((s[k]'h1).toNat : Int) - 48 := by rw [IntKind.wrap_i64]; omega
        have PW := Lib.hid (show 10 * a + ((s[k]'h1).toNat - 48) < 10 ^ (k + 1) from by rw [Nat.pow_succ]; omega)
        clear hdig' hp ha
        go_wp2
        go_roundw
        case rel => exact ⟨k + 1, 10 * a + ((s[k]'h1).toNat - 48), trivial, by congr 1; omega, by go_num, by omega, by omega, PW.out, by rw [VT.out, HV.out], ND.out⟩
        case measure => simp [intOf]; omega
      · have NO := Lib.hid (num_no (l := s.data.toList) (m := m) (n := 0) fun v e _ => hdig (by
          have hl : k < s.data.toList.length := by rw [← Lib.size_eq]; exact h1
          have : (s.data.toList[k]'hl) ∈ Lib.decDigits v := by rw [← e]; exact List.getElem_mem _
          exact dec_bytes v _ this))
        by_cases t : ((s[k]'h1).toNat : Int) < 48
        · clear hdig hp ha
          go_wp2
          go_ret2
          exact ⟨⟨_, _, rfl, NO.out⟩, Below.refl _ _⟩
        · have t2 : (57 < ((s[k]'h1).toNat : Int)) := by
            by_cases h9 : (57 < ((s[k]'h1).toNat : Int))
            · exact h9
            · exact absurd ⟨by omega, by omega⟩ hdig
          clear hdig hp ha
          go_wp2
          go_ret2
          exact ⟨⟨_, _, rfl, NO.out⟩, Below.refl _ _⟩
    · have h' : ¬ ((k : Int) < s.size ∧ (k : Int) < 5) := by omega
      have hall : ∀ c ∈ s.data.toList.take k, isDig c := fun c hc => by
        obtain ⟨j, hj, e⟩ := List.getElem_of_mem hc
        have hj1 : j < k ∧ j < s.data.toList.length := by rw [List.length_take] at hj; omega
        have hj2 : j < s.size := by rw [Lib.size_eq]; exact hj1.2
        rw [List.getElem_take] at e
        rw [← e]
        exact HD.out j hj2 hj1.1
      have hsl : s.size = s.data.toList.length := Lib.size_eq s
      by_cases z : s.size = 0
      · have NO := Lib.hid (num_no (l := s.data.toList) (m := m) (n := (a : Int)) fun v e _ => by
          have : s.data.toList = [] := List.eq_nil_of_length_eq_zero (by omega)
          rw [this] at e
          exact dec_ne v e.symm)
        have k1 : ¬ (k : Int) < s.size := by omega
        have k2 : ¬ (1 : Int) ≤ s.size := by omega
        clear h h' hall ha hp z hsl
        go_wp2
        go_ret2
        exact ⟨⟨_, _, rfl, NO.out⟩, Below.refl _ _⟩
      by_cases z5 : 5 ≤ s.size
      · obtain rfl : k = 5 := by omega
        have NO := Lib.hid (num_no (l := s.data.toList) (m := m) (n := (a : Int)) fun v e hv => by
          have h3 := dec_len 3 v (by omega)
          rw [← e] at h3
          omega)
        have k1 : (1 : Int) ≤ s.size := by omega
        have k2 : ¬ (s.size : Int) ≤ 4 := by omega
        clear h h' hall ha hp
        clear z z5 hsl
        by_cases k3 : (5 : Int) < s.size
        · go_wp2
          go_ret2
          exact ⟨⟨_, _, rfl, NO.out⟩, Below.refl _ _⟩
        · go_wp2
          go_ret2
          exact ⟨⟨_, _, rfl, NO.out⟩, Below.refl _ _⟩
      · have hks : k = s.size := by omega
        have htake : s.data.toList.take k = s.data.toList := List.take_of_length_le (by omega)
        rw [htake] at hall
        have hv : a = valD 0 s.data.toList := by rw [← htake]; exact HV.out
        have hne : s.data.toList ≠ [] := fun e => by rw [e] at hsl; exact z hsl
        have k1 : (1 : Int) ≤ s.size := by omega
        have k2 : (s.size : Int) ≤ 4 := by omega
        have k3 : ¬ (k : Int) < s.size := by omega
        have good : (s.data.toList.length = 1 ∨ s.data.toList.head? ≠ some 48) → Lib.decDigits a = s.data.toList := fun hz => by
          rw [hv]; exact dec_val _ _ rfl hall hne hz
        have yes : (s.data.toList.length = 1 ∨ s.data.toList.head? ≠ some 48) → (a : Int) ≤ m → NumOk s.data.toList m a true := fun hz hle => ⟨fun _ => ⟨by omega, by rw [Int.toNat_natCast]; exact (good hz).symm, hle⟩, fun _ _ _ => rfl⟩
        have no : (s.data.toList.length = 1 ∨ s.data.toList.head? ≠ some 48) → ¬ (a : Int) ≤ m → NumOk s.data.toList m a false := fun hz hle => num_no fun v e hvm => by
          have := dec_inj ((good hz).trans e)
          omega
        by_cases z1 : s.size = 1
        · have t1 : ((s.size : Int) == 1) = true := by simp; omega
          have hz : s.data.toList.length = 1 ∨ s.data.toList.head? ≠ some 48 := .inl (by omega)
          by_cases hle : (a : Int) ≤ m
          · have NO := Lib.hid (yes hz hle)
            clear h h' hall ha hp z z5 hsl z1 hks htake hv hne good yes no hz
            go_wp2
            go_ret2
            exact ⟨⟨_, _, rfl, NO.out⟩, Below.refl _ _⟩
          · have NO := Lib.hid (no hz hle)
            clear h h' hall ha hp z z5 hsl z1 hks htake hv hne good yes no hz
            go_wp2
            go_ret2
            exact ⟨⟨_, _, rfl, NO.out⟩, Below.refl _ _⟩
        · have t1 : ((s.size : Int) == 1) = false := by simp; omega
          have h0 : 0 < s.size := by omega
          have h0' : (0 : Int) < s.size := by omega
          have hhead : s.data.toList.head? = some (s[0]'h0) := by
            have hl : 0 < s.data.toList.length := by omega
            have e : s.data.toList[0]'hl = s[0]'h0 := rfl
            rw [← e, List.head?_eq_getElem?, List.getElem?_eq_getElem hl]
          by_cases e0 : s[0]'h0 = 48
          · have t2 : (((s[0]'h0).toNat : Int) != 48) = false := by rw [e0]; rfl
            have NO := Lib.hid (num_no (l := s.data.toList) (m := m) (n := (a : Int)) fun v e hvm => by
              rw [e0] at hhead
              obtain ⟨r, hr⟩ : ∃ r, s.data.toList = 48 :: r := by
                cases hL : s.data.toList with
                | nil => exact absurd hL hne
                | cons x r => rw [hL] at hhead; simp at hhead; exact ⟨r, by rw [hhead]⟩
              rw [hr] at e
              have hv0 := dec_zero e.symm
              rw [hv0, decS (by omega)] at e
              have hr0 : r = [] := by simpa using e
              rw [hr, hr0] at hsl
              exact z1 hsl)
            clear h h' hall ha hp z z5 hsl z1 hks htake hv hne good yes no hhead e0
            go_wp2
            go_ret2
            exact ⟨⟨_, _, rfl, NO.out⟩, Below.refl _ _⟩
          · have t2 : (((s[0]'h0).toNat : Int) != 48) = true := by
              rw [bne_iff_ne]
              intro h2
              exact e0 (UInt8.toNat_inj.1 (by have : (s[0]'h0).toNat = 48 := by omega
                                              exact this))
            have hz : s.data.toList.length = 1 ∨ s.data.toList.head? ≠ some 48 := .inr (by rw [hhead]; simpa using e0)
            by_cases hle : (a : Int) ≤ m
            · have NO := Lib.hid (yes hz hle)
              clear h h' hall ha hp z z5 hsl z1 hks htake hv hne good yes no hz hhead e0
              go_wp2
              go_ret2
              exact ⟨⟨_, _, rfl, NO.out⟩, Below.refl _ _⟩
            · have NO := Lib.hid (no hz hle)
              clear h h' hall ha hp z z5 hsl z1 hks htake hv hne good yes no hz hhead e0
              go_wp2
              go_ret2
              exact ⟨⟨_, _, rfl, NO.out⟩, Below.refl _ _⟩
end Go.Proofs.YtjlnhifleepnoaaGreatDoor
