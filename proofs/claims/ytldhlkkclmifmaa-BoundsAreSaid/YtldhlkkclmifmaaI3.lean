import Derived.Test.YtldhlkkclmifmaaI2
set_option linter.unusedVariables false
set_option linter.unusedSimpArgs false
namespace Go.Proofs.Ytldhlkkclmifmaa
open Go.RowKit

def dZ (tag steps ahead frm to : Int) : Dd := ⟨0, 0, 0, tag, none, 0, 0, 0, 0, none, 0, 0, none, 0, 0, none, 0, 0, 0, 0, 0, 0, 0, steps, ahead, frm, to⟩
theorem rd_two (w : World) (T : TypeId) (d e : Dd) : Rd (w.alloc (.cells (d.row ++ e.row).toArray T)) 19 (.slice (some ⟨w.heap.size, 0, none⟩) 2 2) ([d, e].map Dd.row) := by
  refine .inr ⟨w.heap.size, 0, 2, rfl, by simp, by simp, fun i j hi hj => ?_⟩
  rw [cell_of_row _ _ _ _ _ _ (heap_alloc_new _ _)]
  have h1 : d.row.length = 19 := rfl
  match i, hi with
  | 0, _ =>
    simp only [Nat.zero_mul, Nat.zero_add, List.getElem?_toArray]
    rw [List.getElem?_append_left (by omega)]; rfl
  | 1, _ =>
    simp only [Nat.one_mul, Nat.zero_add, List.getElem?_toArray]
    rw [List.getElem?_append_right (by omega), h1, Nat.add_sub_cancel_left]; rfl

set_option maxRecDepth 100000 in
set_option maxHeartbeats 2000000 in
theorem blive_any (w : World) : Calls Try.prog 17 #[] w fun e w' => e = .returned (.bool true) ∧ Below w.heap.size w w' := by
  go_enter Try.func17, Try.ntmps17
  go_wp2_with fail
  refine (reader_any _ 1 2 20 1).mono ?_; rintro e w1 ⟨rfl, c1⟩
  rw [show readB 1 2 20 1 = 86 from by decide, show errB 1 2 20 1 = 0 from by decide]
  obtain ⟨e1, hl1⟩ := cfg_keep c1
  have C1 := Lib.hid (((Chg.refl [] w).alloc _).trans c1)
  have X1 := Lib.hid c1
  clear c1
  go_wp2_with fail
  refine (writer_any _ 1 2 20 1).mono ?_; rintro e w2 ⟨rfl, c2⟩
  rw [show writeB 1 2 20 1 = 119 from by decide, show errB 1 2 20 1 = 0 from by decide]
  obtain ⟨e2, hl2⟩ := cfg_keep (X1.out.trans c2)
  have C2 := Lib.hid (C1.out.trans c2)
  have X2 := Lib.hid (X1.out.trans c2)
  clear c2 e1 C1 X1
  go_wp2_with fail
  refine (late_any _ 1 2 20 1 _ [dZ 1 86 0 0 0, dZ 2 0 1 10 248] (rd_two w2 63 _ _) (by simp [Dd.ok, i64, dZ]) (by simp)).mono ?_; rintro e w3 ⟨rfl, c3⟩
  have hd1 : lateI 1 2 20 1 [dZ 1 86 0 0 0, dZ 2 0 1 10 248] = -1 := by decide
  have hd2 : lateE 1 2 20 1 [dZ 1 86 0 0 0, dZ 2 0 1 10 248] = 0 := by decide
  rw [hd1, hd2]
  have C3 := Lib.hid ((C2.out.alloc _).trans (Chg.of_below c3))
  have X3 := Lib.hid ((X2.out.alloc _).trans (Chg.of_below c3))
  obtain ⟨e3, hl3⟩ := cfg_keep X3.out
  clear hd1 hd2 c3 e2 C2 X2
  go_wp2_with fail
  refine (late_any _ 1 2 20 1 _ [dZ 1 86 0 0 0, dZ 2 0 1 10 249] (rd_two w3 63 _ _) (by simp [Dd.ok, i64, dZ]) (by simp)).mono ?_; rintro e w4 ⟨rfl, c4⟩
  have hd1 : lateI 1 2 20 1 [dZ 1 86 0 0 0, dZ 2 0 1 10 249] = 1 := by decide
  have hd2 : lateE 1 2 20 1 [dZ 1 86 0 0 0, dZ 2 0 1 10 249] = 0 := by decide
  rw [hd1, hd2]
  have C4 := Lib.hid ((C3.out.alloc _).trans (Chg.of_below c4))
  clear hd1 hd2 c4 e3
  go_wp2
  go_ret
  exact ⟨rfl, C4.out.below (Nat.le_refl _) (by simp)⟩

end Go.Proofs.Ytldhlkkclmifmaa
