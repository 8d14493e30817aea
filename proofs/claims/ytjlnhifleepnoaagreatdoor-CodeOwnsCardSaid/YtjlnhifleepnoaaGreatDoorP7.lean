import Derived.Test.YtjlnhifleepnoaaGreatDoorP6
set_option linter.unusedVariables false
set_option linter.unusedSimpArgs false
namespace Go.Proofs.YtjlnhifleepnoaaGreatDoor
open Go.RowKit

set_option maxRecDepth 100000 in
theorem print_bad (b : Nat) (hb : bad b = true) (w : World) : Calls Tryz.prog 34 #[.float .f64 b] w fun e w' => e = .returned (.string (S [110, 97, 110])) ∧ w' = w := by
  have BW : ∀ w, Calls Tryz.prog 45 #[.float .f64 b] w fun e w' => e = .returned (.float .f64 theNaN) ∧ w' = w := fun w => by
    have h := fix_walk b w
    rwa [show fx b = theNaN by simp [fx, hb]] at h
  have q : (FloatKind.f64.format.order theNaN theNaN != some Ordering.eq) = true := bad_nan
  clear hb
  go_enter Tryz.func34, Tryz.ntmps34
  go_wp2_with (go_at_call 45; refine (BW _).mono ?_; rintro e w' ⟨rfl, rfl⟩)
  go_ret
  exact ⟨rfl, rfl⟩
/-- text.Print. -/
theorem print_any (b : Nat) (w : World) (L : Laid w) (hb : b < 18446744073709551616) : Calls Tryz.prog 34 #[.float .f64 b] w (PrintPost w (prt (fx b))) := by
  cases h : bad b
  · have hf : fx b = b := by simp [fx, h]
    rw [hf]
    exact print_walk b w L hb hf
  · have hf : fx b = theNaN := by simp [fx, h]
    rw [hf]
    exact (print_bad b h w).mono fun e w' ⟨h, h2⟩ => by subst h2; exact ⟨h, Below.refl _ _⟩

theorem puVal_lt (l : List UInt8) : puVal 18446744073709551615 (puAll 16 1152921504606846976 18446744073709551615 l) < 18446744073709551616 := by
  have key : ∀ (l : List UInt8) acc v, pu 16 1152921504606846976 18446744073709551615 acc l = .ok v → acc < 18446744073709551616 → v < 18446744073709551616 := by
    intro l
    induction l with
    | nil => intro acc v h ha; simp [pu] at h; omega
    | cons c r ih =>
      intro acc v h ha
      simp only [pu] at h
      split at h
      · cases h
      · split at h
        · cases h
        · split at h
          · cases h
          · exact ih _ _ h (by omega)
  unfold puAll
  split
  · simp [puVal]
  · cases h : pu 16 1152921504606846976 18446744073709551615 0 l with
    | ok v => exact key l 0 v h (by omega)
    | range => simp [puVal]
    | _ => simp [puVal]
theorem floatOfInt_lt (n : Int) : floatOfInt .f64 n < 18446744073709551616 := by
  have := Ieee.double.write_lt (.number (n < 0) n.natAbs 0)
  exact this
theorem tguess_lt (l : List UInt8) : tguess l < 18446744073709551616 := by
  unfold tguess
  repeat' split
  all_goals first | decide +kernel | exact fx_lt (puVal_lt _) | exact floatOfInt_lt _

/-- The error's number and the bits of text.Parse. -/
def parseE (l : List UInt8) : Int := if prt (tguess l) = l then 0 else 20
def parseB (l : List UInt8) : Nat := if prt (tguess l) = l then tguess l else 0
def ParsePost (l : List UInt8) (w : World) (e : Ending) (w' : World) : Prop := e = .returned (.tuple #[.float .f64 (parseB l), .int .i64 (parseE l)]) ∧ Below w.heap.size w w'

theorem sound {c : Nat} (h : c % 9223372036854775808 ≤ 9218868437227405312) : bad c = false := by
  have hsw : Ieee.double.signWeight = 9223372036854775808 := by decide +kernel
  have hi : Ieee.double.infRung = 9218868437227405312 := by decide +kernel
  unfold bad
  rw [bne_eq_false_iff_eq]
  show Ieee.double.order c c = some .eq
  unfold Ieee.Format.order
  cases hq : Ieee.double.read c with
  | number s m e => simp [Ieee.Datum.order]
  | infinity s => simp [Ieee.Datum.order]
  | nan s t =>
    unfold Ieee.Format.read at hq
    rw [hsw, hi] at hq
    simp only at hq
    split at hq
    · cases hq
    · split at hq
      · cases hq
      · split at hq
        · cases hq
        · omega
theorem fx_sound {c : Nat} (h : c % 9223372036854775808 ≤ 9218868437227405312) : fx c = c := by simp [fx, sound h]
theorem nearest_sound (s : Bool) (m : Nat) (e : Int) : Ieee.double.nearest s m e % 9223372036854775808 ≤ 9218868437227405312 := by
  have hsw : Ieee.double.signWeight = 9223372036854775808 := by decide +kernel
  have hi : Ieee.double.infRung = 9218868437227405312 := by decide +kernel
  unfold Ieee.Format.nearest Ieee.Format.word
  rw [hsw, hi]
  simp only
  split
  · split <;> omega
  · split <;> omega
theorem fx_int (n : Int) : fx (floatOfInt .f64 n) = floatOfInt .f64 n := fx_sound (nearest_sound _ _ _)
theorem fx_tguess (l : List UInt8) : fx (tguess l) = tguess l := by
  unfold tguess
  split
  · exact (by simp [fx, bad_nan] : fx theNaN = theNaN)
  · split
    · exact fx_sound (by decide +kernel)
    · split
      · exact fx_sound (by decide +kernel)
      · split
        · exact fx_sound (by decide +kernel)
        · split
          · exact fx_fx _
          · exact fx_int _

set_option maxRecDepth 100000 in
theorem parse_walk (s : ByteArray) (w : World) (L : Laid w) (hs : s.size ≤ 281474976710656) : Calls Tryz.prog 40 #[.string s] w (ParsePost s.toList w) := by
  have hlt := tguess_lt s.toList
  have hf := fx_tguess s.toList
  have GW := guess_walk s w L hs
  obtain ⟨g, hg⟩ : ∃ g, g = tguess s.toList := ⟨_, rfl⟩
  unfold ParsePost parseB parseE
  rw [← hg] at GW hlt hf ⊢
  have PW : ∀ W, Laid W → Calls Tryz.prog 34 #[.float .f64 g] W (PrintPost W (prt g)) := fun W l => by
    have := print_any g W l hlt
    rwa [hf] at this
  have LD := Lib.hid L
  clear L hlt hf hg
  by_cases hq : prt g = s.toList
  · rw [if_pos hq, if_pos hq]
    have t1 : ((S (prt g)).toList == s.toList) = true := by rw [← hq]; simp [S]
    have HQ := Lib.hid hq
    clear hq
    go_enter Tryz.func40, Tryz.ntmps40
    go_wp2_with (first | (go_at_call 52; refine GW.mono ?_; rintro e w1 ⟨rfl, b1⟩; have B1 := Lib.hid b1; clear b1) | (go_at_call 34; refine (PW _ (LD.out.below B1.out)).mono ?_; rintro e w2 ⟨rfl, b2⟩; have B2 := Lib.hid b2; clear b2))
    go_ret2
    exact ⟨rfl, B1.out.trans (B2.out.mono B1.out.size)⟩
  · rw [if_neg hq, if_neg hq]
    have t1 : ((S (prt g)).toList == s.toList) = false := by
      rw [beq_eq_false_iff_ne]
      intro h
      exact hq (by simpa [S] using h)
    clear hq
    go_enter Tryz.func40, Tryz.ntmps40
    go_wp2_with (first | (go_at_call 52; refine GW.mono ?_; rintro e w1 ⟨rfl, b1⟩; have B1 := Lib.hid b1; clear b1) | (go_at_call 34; refine (PW _ (LD.out.below B1.out)).mono ?_; rintro e w2 ⟨rfl, b2⟩; have B2 := Lib.hid b2; clear b2))
    go_ret2
    exact ⟨rfl, B1.out.trans (B2.out.mono B1.out.size)⟩
end Go.Proofs.YtjlnhifleepnoaaGreatDoor
