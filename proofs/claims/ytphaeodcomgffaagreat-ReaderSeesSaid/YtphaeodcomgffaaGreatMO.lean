import Derived.Test.YtphaeodcomgffaaGreatR1
set_option linter.unusedVariables false
set_option linter.unusedSimpArgs false
namespace Go.Proofs.YtphaeodcomgffaaGreat
open Go.RowKit

theorem MIs.setOut {ro ro' : Nat → Nat} {r : Nat} {w w' : World} {M C tag code m p l v'} (h : MIs ro r w M C tag code m p) (mv : Mv ro [r + 8] w ro' w') (o : OwnL cF ro' (r + 8) w' 74 1 v' l) :
    MIs ro' r (w'.setCell ⟨M, 32, none⟩ v') M C tag code { m with out := l } { p with vo := v' } ∧ Mv ro (mR r) w ro' (w'.setCell ⟨M, 32, none⟩ v') := by
  have b := h.blk.keep mv (by simp)
  have ms : Mv ro' [r] w' ro' (w'.setCell ⟨M, 32, none⟩ v') := (Mv.refl _ _ _).setCell (by rw [b.role]; simp) _
  have ma : Mv ro [r, r + 8] w ro' (w'.setCell ⟨M, 32, none⟩ v') := (mv.mono (by simp)).trans (ms.mono (by simp))
  exact ⟨⟨b.put rfl, h.num.keep ma (by simp) (by simp), h.cal.keep ma (by simp) (by simp), h.buf.keep ma (by simp) (by simp <;> omega) (by simp <;> omega), o.keep ms (by simp), h.rds.keep ma (by simp), h.code.keep ma (by simp), h.nd, h.wait⟩, ma.mono (by simp [mR])⟩
theorem MIs.setReads {ro ro' : Nat → Nat} {r : Nat} {w w' : World} {M C tag code m p l v'} (h : MIs ro r w M C tag code m p) (mv : Mv ro [r + 9] w ro' w') (o : OwnL cT ro' (r + 9) w' 76 2 v' l) :
    MIs ro' r (w'.setCell ⟨M, 33, none⟩ v') M C tag code { m with reads := l } { p with vr := v' } ∧ Mv ro (mR r) w ro' (w'.setCell ⟨M, 33, none⟩ v') := by
  have b := h.blk.keep mv (by simp)
  have ms : Mv ro' [r] w' ro' (w'.setCell ⟨M, 33, none⟩ v') := (Mv.refl _ _ _).setCell (by rw [b.role]; simp) _
  have ma : Mv ro [r, r + 9] w ro' (w'.setCell ⟨M, 33, none⟩ v') := (mv.mono (by simp)).trans (ms.mono (by simp))
  exact ⟨⟨b.put rfl, h.num.keep ma (by simp) (by simp), h.cal.keep ma (by simp) (by simp), h.buf.keep ma (by simp) (by simp <;> omega) (by simp <;> omega), h.out.keep ma (by simp), o.keep ms (by simp), h.code.keep ma (by simp), h.nd, h.wait⟩, ma.mono (by simp [mR])⟩

end Go.Proofs.YtphaeodcomgffaaGreat
