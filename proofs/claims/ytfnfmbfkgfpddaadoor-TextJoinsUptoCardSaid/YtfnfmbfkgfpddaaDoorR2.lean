import Derived.Test.YtfnfmbfkgfpddaaDoorR1
set_option linter.unusedVariables false
set_option linter.unusedSimpArgs false
namespace Go.Proofs.YtfnfmbfkgfpddaaDoor
open Go.RowKit

def DParsePost (l : List UInt8) (w : World) (e : Ending) (w' : World) : Prop := e = .returned (.tuple #[.float .f64 (dparseB l), .int .i64 (dparseE l)]) ∧ Below w.heap.size w w'

set_option maxRecDepth 100000 in
/-- The document's Parse. -/
theorem rparse_walk (s : ByteArray) (w : World) : Calls Tryd.prog 19 #[.string s] w (DParsePost s.toList w) := by
  have hlt := dguess_lt s.toList
  have GW := rguess_walk s w
  obtain ⟨g, hg⟩ : ∃ g, g = dguess s.toList := ⟨_, rfl⟩
  unfold DParsePost dparseB dparseE
  rw [← hg] at GW hlt ⊢
  have PW : ∀ W, Calls Tryd.prog 17 #[.float .f64 g] W fun e w' => e = .returned (.string (S (prt (fx g)))) ∧ w' = W := fun W => rprint_walk g W hlt
  clear hlt hg
  by_cases hq : prt (fx g) = s.toList
  · rw [if_pos hq, if_pos hq]
    have t1 : (s.toList == (S (prt (fx g))).toList) = true := by rw [← hq]; simp [S]
    have HQ := Lib.hid hq
    clear hq
    go_enter Tryd.func19, Tryd.ntmps19
    go_wp2_with (first | (go_at_call 42; refine GW.mono ?_; rintro e w1 ⟨rfl, b1⟩; have B1 := Lib.hid b1; clear b1) | (go_at_call 17; refine (PW _).mono ?_; rintro e w2 ⟨rfl, rfl⟩))
    go_ret2
    exact ⟨rfl, B1.out⟩
  · rw [if_neg hq, if_neg hq]
    have t1 : (s.toList == (S (prt (fx g))).toList) = false := by
      rw [beq_eq_false_iff_ne]
      intro h
      exact hq (by simpa [S] using h.symm)
    clear hq
    go_enter Tryd.func19, Tryd.ntmps19
    go_wp2_with (first | (go_at_call 42; refine GW.mono ?_; rintro e w1 ⟨rfl, b1⟩; have B1 := Lib.hid b1; clear b1) | (go_at_call 17; refine (PW _).mono ?_; rintro e w2 ⟨rfl, rfl⟩))
    go_ret2
    exact ⟨rfl, B1.out⟩
end Go.Proofs.YtfnfmbfkgfpddaaDoor
