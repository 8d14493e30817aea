import Derived.Test.YtfnfmbfkgfpddaaDoorW1
set_option linter.unusedVariables false
set_option linter.unusedSimpArgs false
namespace Go.Proofs.YtfnfmbfkgfpddaaDoor
open Go.RowKit

theorem prt_len {c : Nat} (hc : c < 18446744073709551616) : (prt c).length ≤ 17 := by
  unfold prt
  repeat' split
  · decide
  · decide
  · decide
  · decide
  · rename_i h
    have h2 : inR c = true := by
      unfold isWhole at h
      rw [Bool.and_eq_true] at h
      exact h.1
    obtain ⟨v1, v2, v3⟩ := inR_val h2
    exact itoa_len v2 v3
  · simp [hexN_len]
theorem S_list (l : List UInt8) : (S l).toList = l := by simp [S]


def Gives (v : Nat) (n : Int) (w : World) (e : Ending) (w' : World) : Prop := e = .returned (.tuple #[.float .f64 v, .int .i64 n]) ∧ Below w.heap.size w w'
theorem parse_at (s : ByteArray) (w : World) (L : Laid w) (v : Nat) (n : Int) (h : s.size ≤ 281474976710656 ∧ parseB s.toList = v ∧ parseE s.toList = n) : Calls Tryd.prog 18 #[.string s] w (Gives v n w) := by
  obtain ⟨h1, rfl, rfl⟩ := h
  exact (parse_walk s w L h1).mono fun e w' ⟨h, b⟩ => ⟨h, b⟩
theorem print_at (c : Nat) (w : World) (L : Laid w) (l : List UInt8) (h : c < 18446744073709551616 ∧ prt (fx c) = l) : Calls Tryd.prog 14 #[.float .f64 c] w (PrintPost w l) := by
  obtain ⟨h1, rfl⟩ := h
  exact print_any c w L h1

def InLine (s : ByteArray) (v : Nat) (n : Int) : Prop := s.size ≤ 281474976710656 ∧ parseB s.toList = v ∧ parseE s.toList = n
def HasText (c : Nat) (l : List UInt8) : Prop := c < 18446744073709551616 ∧ prt (fx c) = l

set_option maxRecDepth 100000 in
set_option maxHeartbeats 1000000 in
theorem back1 (w : World) (a b fa : Nat) (A B : List UInt8) (r : Bool) (s : ByteArray) (v : Nat) (ha : HasText a A) (hb : HasText b B) (hp : InLine (S A) fa 0) (BA : ∀ W, Calls Tryd.prog 28 #[.float .f64 a] W fun e w' => e = .returned (.int .u64 fa) ∧ w' = W) (RS : ∀ W, Calls Tryd.prog 29 #[.float .f64 a, .float .f64 b] W fun e w' => e = .returned (.bool r) ∧ w' = W)
    (t1 : ((S A).toList == (S B).toList) = r) (hs : InLine s v 0) (hv : HasText v s.toList) (L : Laid w) : Calls Tryd.prog 9 #[.int .u64 a, .int .u64 b, .string s] w (Fine w) := by
  have e20 := run_bits
  have t0 : ((fa : Int) == (fa : Int)) = true := by simp
  have t2 : (r == r) = true := by simp
  have t3 : ((S s.toList).toList == s.toList) = true := by simp [S_list]
  have LD := Lib.hid L
  have B1 := Lib.hid (Below.refl w.heap.size w)
  clear L
  go_enter Tryd.func9, Tryd.ntmps9
  go_wp2_with (first | (go_at_call 15; refine (raw_walk _ _).mono ?_; rintro e w' ⟨rfl, rfl⟩) | (go_at_call 14; refine (print_at _ _ LD.out _ (by assumption)).mono ?_; rintro e w1 ⟨rfl, b1⟩; have LD := Lib.hid (LD.out.below b1); have B1 := Lib.hid (B1.out.trans (b1.mono B1.out.size)); clear b1) | (go_at_call 18; refine (parse_at _ _ LD.out _ _ (by assumption)).mono ?_; rintro e w1 ⟨rfl, b1⟩; have LD := Lib.hid (LD.out.below b1); have B1 := Lib.hid (B1.out.trans (b1.mono B1.out.size)); clear b1) | (go_at_call 28; refine (BA _).mono ?_; rintro e w' ⟨rfl, rfl⟩) | (go_at_call 29; refine (RS _).mono ?_; rintro e w' ⟨rfl, rfl⟩) | (go_at_call 16; refine (live_walk _ LD.out).mono ?_; rintro e w1 ⟨rfl, b1⟩; have LD := Lib.hid (LD.out.below b1); have B1 := Lib.hid (B1.out.trans (b1.mono B1.out.size)); clear b1))
  all_goals go_ret
  all_goals exact fine_of B1.out

set_option maxRecDepth 100000 in
set_option maxHeartbeats 1000000 in
theorem back2 (w : World) (a b fa : Nat) (A B : List UInt8) (r : Bool) (s : ByteArray) (ha : HasText a A) (hb : HasText b B) (hp : InLine (S A) fa 0) (BA : ∀ W, Calls Tryd.prog 28 #[.float .f64 a] W fun e w' => e = .returned (.int .u64 fa) ∧ w' = W) (RS : ∀ W, Calls Tryd.prog 29 #[.float .f64 a, .float .f64 b] W fun e w' => e = .returned (.bool r) ∧ w' = W)
    (t1 : ((S A).toList == (S B).toList) = r) (hs : InLine s 0 20) (L : Laid w) : Calls Tryd.prog 9 #[.int .u64 a, .int .u64 b, .string s] w (Fine w) := by
  have e20 := run_bits
  have t0 : ((fa : Int) == (fa : Int)) = true := by simp
  have t2 : (r == r) = true := by simp
  have LD := Lib.hid L
  have B1 := Lib.hid (Below.refl w.heap.size w)
  clear L
  go_enter Tryd.func9, Tryd.ntmps9
  go_wp2_with (first | (go_at_call 15; refine (raw_walk _ _).mono ?_; rintro e w' ⟨rfl, rfl⟩) | (go_at_call 14; refine (print_at _ _ LD.out _ (by assumption)).mono ?_; rintro e w1 ⟨rfl, b1⟩; have LD := Lib.hid (LD.out.below b1); have B1 := Lib.hid (B1.out.trans (b1.mono B1.out.size)); clear b1) | (go_at_call 18; refine (parse_at _ _ LD.out _ _ (by assumption)).mono ?_; rintro e w1 ⟨rfl, b1⟩; have LD := Lib.hid (LD.out.below b1); have B1 := Lib.hid (B1.out.trans (b1.mono B1.out.size)); clear b1) | (go_at_call 28; refine (BA _).mono ?_; rintro e w' ⟨rfl, rfl⟩) | (go_at_call 29; refine (RS _).mono ?_; rintro e w' ⟨rfl, rfl⟩) | (go_at_call 16; refine (live_walk _ LD.out).mono ?_; rintro e w1 ⟨rfl, b1⟩; have LD := Lib.hid (LD.out.below b1); have B1 := Lib.hid (B1.out.trans (b1.mono B1.out.size)); clear b1))
  all_goals go_ret
  all_goals exact fine_of B1.out

theorem back (w : World) (a b : Nat) (s : ByteArray) (ha : a < 18446744073709551616) (hb : b < 18446744073709551616) (hs : s.size ≤ 281474976710656) (L : Laid w) : Calls Tryd.prog 9 #[.int .u64 a, .int .u64 b, .string s] w (Fine w) := by
  have hp : InLine (S (prt (fx a))) (fx a) 0 := by
    obtain ⟨h1, h2⟩ := tparse (fx a) (fx_lt ha) (fx_fx a)
    refine ⟨by rw [S_size]; have := prt_len (fx_lt ha); omega, ?_, ?_⟩
    · rw [S_list]; exact h2
    · rw [S_list]; exact h1
  have t1 : ((S (prt (fx a))).toList == (S (prt (fx b))).toList) = (fx a == fx b) := by
    rw [Bool.eq_iff_iff, S_list, S_list, beq_iff_eq, beq_iff_eq]
    exact ⟨fun h => prt_inj (fx_lt ha) (fx_fx _) (fx_lt hb) (fx_fx _) h, fun h => by rw [h]⟩
  by_cases hq : prt (tguess s.toList) = s.toList
  · exact back1 w a b (fx a) _ _ _ s (tguess s.toList) ⟨ha, rfl⟩ ⟨hb, rfl⟩ hp (rbits_walk a) (rsame_walk a b) t1 ⟨hs, by unfold parseB; rw [if_pos hq], by unfold parseE; rw [if_pos hq]⟩ ⟨tguess_lt _, by rw [fx_tguess, hq]⟩ L
  · exact back2 w a b (fx a) _ _ _ s ⟨ha, rfl⟩ ⟨hb, rfl⟩ hp (rbits_walk a) (rsame_walk a b) t1 ⟨hs, by unfold parseB; rw [if_neg hq], by unfold parseE; rw [if_neg hq]⟩ L
end Go.Proofs.YtfnfmbfkgfpddaaDoor
