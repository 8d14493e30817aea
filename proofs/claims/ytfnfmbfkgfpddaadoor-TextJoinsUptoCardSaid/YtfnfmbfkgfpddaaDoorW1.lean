import Derived.Test.YtfnfmbfkgfpddaaDoorL1
import Derived.Test.YtfnfmbfkgfpddaaDoorR2
set_option linter.unusedVariables false
set_option linter.unusedSimpArgs false
namespace Go.Proofs.YtfnfmbfkgfpddaaDoor
open Go.RowKit

def Fine (w : World) (e : Ending) (w' : World) : Prop := e = .returned (.bool true) ∧ Below w.heap.size w w'
theorem fine_of {w w' : World} (b : Below w.heap.size w w') : Fine w (.returned (.bool true)) w' := ⟨rfl, b⟩

set_option maxRecDepth 100000 in
theorem prints_walk (a : Nat) (ha : a < 18446744073709551616) (w : World) (L : Laid w) : Calls Tryd.prog 4 #[.int .u64 a] w (Fine w) := by
  have PW : ∀ W, Laid W → Calls Tryd.prog 14 #[.float .f64 a] W (PrintPost W (prt (fx a))) := fun W l => print_any a W l ha
  have QW := fun W => rprint_walk a W ha
  obtain ⟨l, hl⟩ : ∃ l, l = prt (fx a) := ⟨_, rfl⟩
  rw [← hl] at PW QW
  have t1 : ((S l).toList == (S l).toList) = true := by simp
  have LD := Lib.hid L
  clear L hl ha
  go_enter Tryd.func4, Tryd.ntmps4
  go_wp2_with (first | (go_at_call 15; refine (raw_walk _ _).mono ?_; rintro e w' ⟨rfl, rfl⟩) | (go_at_call 16; refine (live_walk _ LD.out).mono ?_; rintro e w1 ⟨rfl, b1⟩; have B1 := Lib.hid b1; have L1 := Lib.hid (LD.out.below b1); clear b1) | (go_at_call 14; refine (PW _ L1.out).mono ?_; rintro e w2 ⟨rfl, b2⟩; have B2 := Lib.hid (B1.out.trans (b2.mono B1.out.size)); clear b2) | (go_at_call 17; refine (QW _).mono ?_; rintro e w' ⟨rfl, rfl⟩))
  all_goals go_ret
  all_goals exact fine_of B2.out

set_option maxRecDepth 100000 in
theorem parses_walk (s : ByteArray) (hs : s.size ≤ 281474976710656) (w : World) (L : Laid w) : Calls Tryd.prog 5 #[.string s] w (Fine w) := by
  have PW : ∀ W, Laid W → Calls Tryd.prog 18 #[.string s] W (ParsePost s.toList W) := fun W l => parse_walk s W l hs
  have QW := fun W => rparse_walk s W
  have e20 := run_bits
  unfold ParsePost at PW
  unfold DParsePost at QW
  rw [← (parse_same s.toList).1, ← (parse_same s.toList).2] at QW
  obtain ⟨b, hb⟩ : ∃ b, b = parseB s.toList := ⟨_, rfl⟩
  obtain ⟨n, hn⟩ : ∃ n, n = parseE s.toList := ⟨_, rfl⟩
  rw [← hb, ← hn] at PW QW
  have t1 : (n == n) = true := by simp
  have t2 : ((b : Int) == (b : Int)) = true := by simp
  have LD := Lib.hid L
  clear L hb hn
  go_enter Tryd.func5, Tryd.ntmps5
  go_wp2_with (first | (go_at_call 18; refine (PW _ LD.out).mono ?_; rintro e w1 ⟨rfl, b1⟩; have B1 := Lib.hid b1; have L1 := Lib.hid (LD.out.below b1); clear b1) | (go_at_call 19; refine (QW _).mono ?_; rintro e w2 ⟨rfl, b2⟩; have B2 := Lib.hid (B1.out.trans (b2.mono B1.out.size)); have L2 := Lib.hid (L1.out.below b2); clear b2) | (go_at_call 16; refine (live_walk _ L2.out).mono ?_; rintro e w3 ⟨rfl, b3⟩; have B3 := Lib.hid (B2.out.trans (b3.mono B2.out.size)); clear b3))
  all_goals go_ret
  all_goals exact fine_of B3.out

set_option maxRecDepth 100000 in
theorem names_walk (s : ByteArray) (hs : s.size ≤ 281474976710656) (w : World) (L : Laid w) : Calls Tryd.prog 6 #[.string s] w (Fine w) := by
  have PW := fun W => name_walk s W (by omega)
  have QW := fun W => rname_walk s W (by omega)
  obtain ⟨b, hb⟩ : ∃ b, b = isName s := ⟨_, rfl⟩
  rw [← hb] at PW QW
  have t1 : (b == b) = true := by simp
  have LD := Lib.hid L
  clear L hb
  go_enter Tryd.func6, Tryd.ntmps6
  go_wp2_with (first | (go_at_call 16; refine (live_walk _ LD.out).mono ?_; rintro e w1 ⟨rfl, b1⟩; have B1 := Lib.hid b1; clear b1) | (go_at_call 21; refine (PW _).mono ?_; rintro e w2 ⟨rfl, b2⟩; have B2 := Lib.hid (B1.out.trans (b2.mono B1.out.size)); clear b2) | (go_at_call 22; refine (QW _).mono ?_; rintro e w' ⟨rfl, rfl⟩))
  all_goals go_ret
  all_goals exact fine_of B2.out

theorem words_len (s : ByteArray) : (words s).length ≤ s.size + 1 := by
  rcases h : wordsSt s s.size with ⟨l, f⟩
  have := wordsSt_le s _ _ _ h
  unfold words
  rw [h]
  split <;> simp <;> omega
theorem splitL_len (s : ByteArray) : (splitL s).length ≤ 1025 := by
  unfold splitL
  split
  · simp
  · have := words_len s
    omega
theorem lines_len (s : ByteArray) : (lines s).length ≤ s.size + 1 := by
  rcases h : linesSt s s.size with ⟨l, f⟩
  have := linesSt_le s _ _ _ h
  unfold lines
  rw [h]
  split <;> simp <;> omega
theorem same_at2 (w : World) (u v : Value) (l : List ByteArray) (h1 : RdS w u l) (h2 : RdS w v l) (b1 : l.length ≤ 9223372036854775807) : Calls Tryd.prog 25 #[u, v] w (SamePost w true) := by
  have := same_any w u v l l h1 h2 b1 b1
  simpa using this

set_option maxRecDepth 100000 in
theorem splits_walk (s : ByteArray) (w : World) (L : Laid w) : Calls Tryd.prog 7 #[.string s] w (Fine w) := by
  have PW := fun W => split_walk s W
  have QW := fun W => rsplit_walk s W
  have ln := splitL_len s
  unfold SplitPost at PW QW
  obtain ⟨n, hn⟩ : ∃ n, n = splitE s := ⟨_, rfl⟩
  obtain ⟨l, hl⟩ : ∃ l, l = splitL s := ⟨_, rfl⟩
  rw [← hn, ← hl] at PW QW
  rw [← hl] at ln
  have t1 : (n == n) = true := by simp
  have LD := Lib.hid L
  clear L hn hl
  go_enter Tryd.func7, Tryd.ntmps7
  go_wp2_with (first | (go_at_call 23; refine (PW _).mono ?_; rintro e w1 ⟨v, rfl, o1, c1⟩; have B1 := Lib.hid (below_of_chg c1); have O1 := Lib.hid o1; clear o1 c1) | (go_at_call 24; refine (QW _).mono ?_; rintro e w2 ⟨u, rfl, o2, c2⟩; have B2 := Lib.hid (B1.out.trans ((below_of_chg c2).mono B1.out.size)); have R1 := Lib.hid (O1.out.rd.keep0 c2); have O2 := Lib.hid o2; clear o2 c2) | (go_at_call 16; refine (live_walk _ (LD.out.below B2.out)).mono ?_; rintro e w3 ⟨rfl, b3⟩; have B3 := Lib.hid (B2.out.trans (b3.mono B2.out.size)); have K3 := Lib.hid (Chg.of_below (S := []) b3); clear b3) | (go_at_call 25; refine (same_at2 _ v u l (R1.out.keep0 K3.out) (O2.out.rd.keep0 K3.out) (by omega)).mono ?_; rintro e w4 ⟨rfl, k, rfl⟩))
  all_goals go_ret
  all_goals exact fine_of (B3.out.trans ((below_of_chg drewN_chg).mono B3.out.size))

set_option maxRecDepth 100000 in
theorem linesL_walk (s : ByteArray) (hs : s.size < 1000000000000) (w : World) (L : Laid w) : Calls Tryd.prog 8 #[.string s] w (Fine w) := by
  have PW := fun W => lines_walk s W hs
  have QW := fun W => rlines_walk s W hs
  have ln := lines_len s
  unfold LinesPost at PW QW
  obtain ⟨l, hl⟩ : ∃ l, l = lines s := ⟨_, rfl⟩
  rw [← hl] at PW QW
  rw [← hl] at ln
  have LD := Lib.hid L
  clear L hl
  go_enter Tryd.func8, Tryd.ntmps8
  go_wp2_with (first | (go_at_call 16; refine (live_walk _ LD.out).mono ?_; rintro e w0 ⟨rfl, b0⟩; have B0 := Lib.hid b0; clear b0) | (go_at_call 26; refine (PW _).mono ?_; rintro e w1 ⟨v, rfl, o1, c1⟩; have B1 := Lib.hid (B0.out.trans ((below_of_chg c1).mono B0.out.size)); have O1 := Lib.hid o1; clear o1 c1) | (go_at_call 27; refine (QW _).mono ?_; rintro e w2 ⟨u, rfl, o2, c2⟩; have B2 := Lib.hid (B1.out.trans ((below_of_chg c2).mono B1.out.size)); have R1 := Lib.hid (O1.out.rd.keep0 c2); have O2 := Lib.hid o2; clear o2 c2) | (go_at_call 25; refine (same_at2 _ v u l R1.out O2.out.rd (by omega)).mono ?_; rintro e w4 ⟨rfl, k, rfl⟩))
  all_goals go_ret
  all_goals exact fine_of (B2.out.trans ((below_of_chg drewN_chg).mono B2.out.size))

theorem prints (w : World) (a : Nat) (ha : a < 18446744073709551616) (L : Laid w) : Calls Tryd.prog 4 #[.int .u64 a] w (Fine w) := prints_walk a ha w L
theorem parses (w : World) (s : ByteArray) (hs : s.size ≤ 281474976710656) (L : Laid w) : Calls Tryd.prog 5 #[.string s] w (Fine w) := parses_walk s hs w L
theorem names (w : World) (s : ByteArray) (hs : s.size ≤ 281474976710656) (L : Laid w) : Calls Tryd.prog 6 #[.string s] w (Fine w) := names_walk s hs w L
theorem splits (w : World) (s : ByteArray) (hs : s.size ≤ 281474976710656) (L : Laid w) : Calls Tryd.prog 7 #[.string s] w (Fine w) := splits_walk s w L
theorem linesU (w : World) (s : ByteArray) (hs : s.size ≤ 1048576) (L : Laid w) : Calls Tryd.prog 8 #[.string s] w (Fine w) := linesL_walk s (by omega) w L
end Go.Proofs.YtfnfmbfkgfpddaaDoor
