import Derived.Test.YtjlnhifleepnoaaGreatDoorC4
set_option linter.unusedVariables false
set_option linter.unusedSimpArgs false
namespace Go.Proofs.YtjlnhifleepnoaaGreatDoor
open Go.RowKit

theorem order_some {c K : Nat} {s : Bool} {m : Nat} {e : Int} (h : bad c = false) (hk : Ieee.double.read K = .number s m e) : ∃ o, Ieee.double.order c K = some o := by
  unfold Ieee.Format.order
  rw [hk]
  rcases order_self h with ⟨s', m', e', h1⟩ | ⟨s', h1⟩
  · rw [h1]; exact ⟨_, rfl⟩
  · rw [h1]; exact ⟨_, rfl⟩

theorem hexN16 {b : Nat} (hb : b < 18446744073709551616) : 120 :: hexN 16 b = ([120] ++ List.replicate (16 - (hexMin b).length) 48) ++ hexMin b := by
  have := hexN_eq 15 b (by simpa using hb)
  rw [this.1]
  simp
theorem hexMin_len {b : Nat} (hb : b < 18446744073709551616) : (hexMin b).length ≤ 16 := (hexN_eq 15 b (by simpa using hb)).2

/-- What a walk knows of the tables. -/
structure Laid (w : World) : Prop where
  tz : w.cell? ⟨6, 15, none⟩ = some (.int .u8 4)
  tab : Lib.TabIs Tryz.prog w "internal/strconv.uint64pow10" .u64 Lib.pow10Tab
  syn : ∃ t p, w.cell? ⟨3, 0, none⟩ = some (.iface t p)
  rng : ∃ t p, w.cell? ⟨4, 0, none⟩ = some (.iface t p)

def PrintPost (w : World) (l : List UInt8) (e : Ending) (w' : World) : Prop := e = .returned (.string (S l)) ∧ Below w.heap.size w w'

set_option maxRecDepth 100000 in
set_option maxHeartbeats 4000000 in
theorem print_gen (c : Nat) (w : World) (L : Laid w) (hc : c < 18446744073709551616) (hf : fx c = c) (ho : ¬ isOdd c) : Calls Tryz.prog 34 #[.float .f64 c] w (PrintPost w (prt c)) := by
  rw [prt_odd ho]
  have hn1 : c ≠ theNaN := fun h => ho (.inl h)
  have hn2 : c ≠ pinf := fun h => ho (.inr (.inl h))
  have hn3 : c ≠ ninf := fun h => ho (.inr (.inr (.inl h)))
  have hn4 : c ≠ nzero := fun h => ho (.inr (.inr (.inr h)))
  have hbad := not_bad hf hn1
  have BW := fix_at hf
  have SW := same_at hf hn2
  have TW := bits_at hf
  have ri := run_inf
  have q : (FloatKind.f64.format.order c c != some Ordering.eq) = false := hbad
  obtain ⟨o1, p1⟩ := order_some hbad read_negL
  obtain ⟨o2, p2⟩ := order_some hbad read_posL
  have p1' : FloatKind.f64.format.order c 14069245235905429504 = some o1 := p1
  have p2' : FloatKind.f64.format.order c 4845873199050653696 = some o2 := p2
  have HN := Lib.hid hn3
  have HZ := Lib.hid hn4
  have LD := Lib.hid L
  have HC := Lib.hid hc
  have HP := Lib.hid (show inR c = (o1 == .gt && o2 == .lt) by simp [inR, p1, p2])
  clear hn1 hn2 hn3 hn4 ho hf hbad p1 p2 L
  -- the way of the digits to the base 16
  have hexway : isWhole c = false → (((o1 == .gt && o2 == .lt) = false) ∨ ∃ n, (∀ W, (convert 31 2 (.float .f64 c)).run Tryz.prog W = .ok (.int .i64 n) W) ∧ (FloatKind.f64.format.order c (floatOfInt .f64 n) != some Ordering.eq) = true ∧ o1 = .gt ∧ o2 = .lt) →
      Calls Tryz.prog 34 #[.float .f64 c] w (PrintPost w (120 :: hexN 16 c)) := by
    intro hw hcase
    clear HP
    have hln := hexMin_len HC.out
    have hs1 : (S (hexMin c)).size = (hexMin c).length := S_size _
    have hs0 : (S (hexMin c)).size ≤ 16 := by omega
    have hs3 : (S (List.replicate (16 - (S (hexMin c)).size) 48)).size = 16 - (S (hexMin c)).size := by rw [S_size]; simp
    have hs2 : ¬ 9223372036854775807 < 1 + (S (List.replicate (16 - (S (hexMin c)).size) 48)).size := by omega
    have hs4 : ¬ 9223372036854775807 < 1 + (S (List.replicate (16 - (S (hexMin c)).size) 48)).size + (S (hexMin c)).size := by omega
    have fin : ∀ w1 w2, Below w.heap.size w w1 → Below w1.heap.size w1 w2 → PrintPost w (120 :: hexN 16 c) (.returned (.string (⟨#[120]⟩ ++ S (List.replicate (16 - (S (hexMin c)).size) 48) ++ S (hexMin c)))) w2 := fun w1 w2 b1 b2 => by
      refine ⟨?_, b1.trans (b2.mono b1.size)⟩
      rw [hexN16 HC.out, ← S_add, ← S_add, hs1]
      rfl
    clear hs1 hs3 hln
    have FIN := Lib.hid fin; clear fin
    have RM : ∀ W, FloatKind.f64.format.order c 18438243695727462560 = some Ordering.lt → (binOp .mul 31 (.float .f64 c) (.float .f64 4611686018427387904)).run Tryz.prog W = .ok (.float .f64 18442240474082181120) W := fun W h =>
      run_float_arith W .mul 31 .f64 _ _ _ (twice HC.out h)
    have RB : (FloatKind.f64.format.order 18442240474082181120 c == some Ordering.eq) = false := by
      rw [beq_eq_false_iff_ne]
      exact fun h => HN.out (ninf_ne HC.out h)
    by_cases hH : FloatKind.f64.format.order c 18438243695727462560 = some Ordering.lt
    · have rm := fun W => RM W hH
      clear RM
      rcases hcase with hcase | ⟨n, cv, hne, rfl, rfl⟩
      · cases o1 <;> cases o2 <;> first | (simp at hcase; done) | skip
        all_goals clear hcase
        all_goals
          go_enter Tryz.func34, Tryz.ntmps34
          go_wp2_with (first | (go_at_call 45; refine (BW _).mono ?_; rintro e w' ⟨rfl, rfl⟩) | (go_at_call 45; refine (fix0_walk _).mono ?_; rintro e w' ⟨rfl, rfl⟩) | (go_at_call 38; refine (SW _).mono ?_; rintro e w' ⟨rfl, rfl⟩) | (go_at_call 47; refine (TW _).mono ?_; rintro e w' ⟨rfl, rfl⟩) | (go_at_call 46; refine (format16 c _ HC.out LD.out.tz).mono ?_; rintro e w1 ⟨rfl, b1⟩; have B1 := Lib.hid b1; clear b1) | (go_at_call 48; refine (rep_zeros _ _ (by omega) (by omega)).mono ?_; rintro e w2 ⟨rfl, b2⟩; have B2 := Lib.hid b2; clear b2))
          go_ret
          exact FIN.out _ _ B1.out B2.out
      · clear hw
        go_enter Tryz.func34, Tryz.ntmps34
        go_wp2_with (first | (go_at_call 45; refine (BW _).mono ?_; rintro e w' ⟨rfl, rfl⟩) | (go_at_call 45; refine (fix0_walk _).mono ?_; rintro e w' ⟨rfl, rfl⟩) | (go_at_call 38; refine (SW _).mono ?_; rintro e w' ⟨rfl, rfl⟩) | (go_at_call 47; refine (TW _).mono ?_; rintro e w' ⟨rfl, rfl⟩) | (go_at_call 46; refine (format16 c _ HC.out LD.out.tz).mono ?_; rintro e w1 ⟨rfl, b1⟩; have B1 := Lib.hid b1; clear b1) | (go_at_call 48; refine (rep_zeros _ _ (by omega) (by omega)).mono ?_; rintro e w2 ⟨rfl, b2⟩; have B2 := Lib.hid b2; clear b2))
        go_ret
        exact FIN.out _ _ B1.out B2.out
    · have hH' : (FloatKind.f64.format.order c 18438243695727462560 == some Ordering.lt) = false := by rw [beq_eq_false_iff_ne]; exact hH
      clear RM RB hH
      rcases hcase with hcase | ⟨n, cv, hne, rfl, rfl⟩
      · cases o1 <;> cases o2 <;> first | (simp at hcase; done) | skip
        all_goals clear hcase
        all_goals
          go_enter Tryz.func34, Tryz.ntmps34
          go_wp2_with (first | (go_at_call 45; refine (BW _).mono ?_; rintro e w' ⟨rfl, rfl⟩) | (go_at_call 45; refine (fix0_walk _).mono ?_; rintro e w' ⟨rfl, rfl⟩) | (go_at_call 38; refine (SW _).mono ?_; rintro e w' ⟨rfl, rfl⟩) | (go_at_call 47; refine (TW _).mono ?_; rintro e w' ⟨rfl, rfl⟩) | (go_at_call 46; refine (format16 c _ HC.out LD.out.tz).mono ?_; rintro e w1 ⟨rfl, b1⟩; have B1 := Lib.hid b1; clear b1) | (go_at_call 48; refine (rep_zeros _ _ (by omega) (by omega)).mono ?_; rintro e w2 ⟨rfl, b2⟩; have B2 := Lib.hid b2; clear b2))
          go_ret
          exact FIN.out _ _ B1.out B2.out
      · clear hw
        go_enter Tryz.func34, Tryz.ntmps34
        go_wp2_with (first | (go_at_call 45; refine (BW _).mono ?_; rintro e w' ⟨rfl, rfl⟩) | (go_at_call 45; refine (fix0_walk _).mono ?_; rintro e w' ⟨rfl, rfl⟩) | (go_at_call 38; refine (SW _).mono ?_; rintro e w' ⟨rfl, rfl⟩) | (go_at_call 47; refine (TW _).mono ?_; rintro e w' ⟨rfl, rfl⟩) | (go_at_call 46; refine (format16 c _ HC.out LD.out.tz).mono ?_; rintro e w1 ⟨rfl, b1⟩; have B1 := Lib.hid b1; clear b1) | (go_at_call 48; refine (rep_zeros _ _ (by omega) (by omega)).mono ?_; rintro e w2 ⟨rfl, b2⟩; have B2 := Lib.hid b2; clear b2))
        go_ret
        exact FIN.out _ _ B1.out B2.out
  by_cases hin : (o1 == .gt && o2 == .lt) = true
  · have hin' : inR c = true := by rw [HP.out]; exact hin
    obtain ⟨v1, v2, v3⟩ := inR_val hin'
    simp only [Bool.and_eq_true, beq_iff_eq] at hin
    obtain ⟨rfl, rfl⟩ := hin
    obtain ⟨n, hn⟩ : ∃ n, n = val c := ⟨_, rfl⟩
    have hw : isWhole c = (Ieee.double.order c (floatOfInt .f64 n) == some .eq) := by simp [isWhole, hin', hn]
    rw [← hn] at v1 v2 v3 ⊢
    have cv := cv2 v1
    clear v1 hn
    cases hq : (Ieee.double.order c (floatOfInt .f64 n) == some .eq)
    · rw [hq] at hw
      rw [if_neg (by rw [hw]; simp)]
      refine hexway hw (.inr ⟨n, cv, ?_, rfl, rfl⟩)
      rw [bne_iff_ne]
      exact beq_eq_false_iff_ne.1 hq
    · rw [hq] at hw
      rw [if_pos hw]
      clear hexway hw
      have f3 : FloatKind.f64.format.order c (floatOfInt .f64 n) = some Ordering.eq := beq_iff_eq.1 hq
      clear hq
      by_cases hz : FloatKind.f64.format.order c 0 = some Ordering.eq
      · have h0 : ((c : Int) == 0) = true := by
          rcases zero_of HC.out hz with h | h
          · simp [h]
          · exact absurd h HZ.out
        go_enter Tryz.func34, Tryz.ntmps34
        go_wp2_with (first | (go_at_call 45; refine (BW _).mono ?_; rintro e w' ⟨rfl, rfl⟩) | (go_at_call 45; refine (fix0_walk _).mono ?_; rintro e w' ⟨rfl, rfl⟩) | (go_at_call 38; refine (SW _).mono ?_; rintro e w' ⟨rfl, rfl⟩) | (go_at_call 47; refine (TW _).mono ?_; rintro e w' ⟨rfl, rfl⟩) | (go_at_call 49; refine (Tryz.strconv_FormatInt_10 n (by omega) (by omega) _ LD.out.tab).mono ?_; rintro e w' ⟨rfl, k, os, rfl⟩))
        go_ret
        exact ⟨rfl, below_grow _ _ _⟩
      · have hz' : (FloatKind.f64.format.order c 0 == some Ordering.eq) = false := by rw [beq_eq_false_iff_ne]; exact hz
        clear hz
        go_enter Tryz.func34, Tryz.ntmps34
        go_wp2_with (first | (go_at_call 45; refine (BW _).mono ?_; rintro e w' ⟨rfl, rfl⟩) | (go_at_call 45; refine (fix0_walk _).mono ?_; rintro e w' ⟨rfl, rfl⟩) | (go_at_call 38; refine (SW _).mono ?_; rintro e w' ⟨rfl, rfl⟩) | (go_at_call 47; refine (TW _).mono ?_; rintro e w' ⟨rfl, rfl⟩) | (go_at_call 49; refine (Tryz.strconv_FormatInt_10 n (by omega) (by omega) _ LD.out.tab).mono ?_; rintro e w' ⟨rfl, k, os, rfl⟩))
        go_ret
        exact ⟨rfl, below_grow _ _ _⟩
  · have hin' : inR c = false := by rw [HP.out]; simpa using hin
    have hw : isWhole c = false := by simp [isWhole, hin']
    rw [if_neg (by rw [hw]; simp)]
    exact hexway hw (.inl (by simpa using hin))
end Go.Proofs.YtjlnhifleepnoaaGreatDoor
