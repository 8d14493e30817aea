import Derived.Test.YtphaeodcomgffaaGreatLB
import Derived.Test.YtphaeodcomgffaaGreatWD
import Derived.StillTailTactics
set_option linter.unusedVariables false
set_option linter.unusedSimpArgs false
namespace Go.Proofs.YtphaeodcomgffaaGreat
open Go.RowKit

/-! served: words in which it is the updater's turn. -/
def servedS (ws : List Nat) : List Nat := ((ws.set 0 (ws.getD 0 0 % 1099511627776)).set 2 (ws.getD 2 0 % 1099511627776)).set 1 (ws.getD 0 0 % 1099511627776)
theorem served_len (ws : List Nat) : (servedS ws).length = ws.length := by unfold servedS; simp
theorem served_fit {ws : List Nat} (h : ∀ x ∈ ws, x < 18446744073709551616) : ∀ x ∈ servedS ws, x < 18446744073709551616 :=
  set_fit (set_fit (set_fit h _ (by omega)) _ (by omega)) _ (by omega)
theorem served_sv {ws : List Nat} (hl : 3 ≤ ws.length) : Sv (servedS ws) := by
  have h0 : (servedS ws).getD 0 0 = ws.getD 0 0 % 1099511627776 := by
    unfold servedS
    rw [getD_set_ne _ _ (by decide), getD_set_ne _ _ (by decide), getD_set_eq _ _ (by omega)]
  refine ⟨by rw [h0]; omega, ?_, ?_⟩
  · unfold servedS
    rw [getD_set_ne _ _ (by decide), getD_set_eq _ _ (by simp; omega)]
    omega
  · rw [h0]
    unfold servedS
    rw [getD_set_eq _ _ (by simp; omega)]
def ServedP (ro : Nat → Nat) (rm rw : Nat) (w : World) (MB WB : Nat) (v v2 : Value) (words : List Nat) (op : Bool) (cnt k : Int) (e : Ending) (w' : World) : Prop :=
  e = .returned (.tuple #[]) ∧ ∃ ro', MemIs ro' rm w' MB v (servedS words) op cnt ∧ WrdIs ro' rw w' WB v2 (servedS words) k ∧ Mv ro [rm + 1, rw + 1] w ro' w'
set_option maxRecDepth 100000 in
set_option maxHeartbeats 4000000 in
theorem served_walk {ro : Nat → Nat} {rm rw : Nat} {w : World} {MB WB : Nat} {v v2 : Value} {words : List Nat} {op : Bool} {cnt k : Int} (a b : Int) (hm : MemIs ro rm w MB v words op cnt) (hw : WrdIs ro rw w WB v2 words k) (hr : rm + 1 < rw ∨ rw + 1 < rm) (h0 : 3 ≤ words.length) (h1 : words.length ≤ 4096) :
    Calls Tryz.prog 40 #[ptr MB, ptr WB, .agg #[.int .i64 0, .int .i64 1, .int .i64 2, .int .i64 3, .int .i64 a, .int .i64 b]] w (ServedP ro rm rw w MB WB v v2 words op cnt k) := by
  obtain ⟨g, c2, rfl, hg, -, -⟩ := hw.own.pos (by omega)
  have P1 := Blk.new ro (rm + rw + 2) w #[.int .i64 0, .int .i64 1, .int .i64 2, .int .i64 3, .int .i64 a, .int .i64 b] 38
  have m1 : Mv ro [] w (setRo ro w.heap.size (rm + rw + 2)) (w.alloc (.cells #[.int .i64 0, .int .i64 1, .int .i64 2, .int .i64 3, .int .i64 a, .int .i64 b] 38)) := ((Mv.refl ro [] w).alloc _).give (Nat.le_refl _)
  have W1 := hw.keep m1 (by simp) (by simp)
  have Q1 := hm.keep m1 (by simp) (by simp)
  have M1 := Lib.hid m1
  simp only [ptr]
  clear hm hw m1
  go_enter Tryz.func40, Tryz.ntmps40
  go_wp2
  generalize setRo ro w.heap.size (rm + rw + 2) = ro1 at *
  generalize w.alloc (.cells #[.int .i64 0, .int .i64 1, .int .i64 2, .int .i64 3, .int .i64 a, .int .i64 b] 38) = w1 at *
  generalize w.heap.size = PB at *
  have hG1 : ro1 g ∈ [rw + 1] := by have := (W1.own.blk g rfl).2; simp; exact this
  obtain ⟨z0, hz0⟩ : ∃ z, z = words.getD 0 0 := ⟨_, rfl⟩
  obtain ⟨z2, hz2⟩ : ∃ z, z = words.getD 2 0 := ⟨_, rfl⟩
  obtain ⟨y0, hy0⟩ : ∃ y, y = z0 % 1099511627776 := ⟨_, rfl⟩
  obtain ⟨y2, hy2⟩ : ∃ y, y = z2 % 1099511627776 := ⟨_, rfl⟩
  have T0 : (z0 : Int).tmod 1099511627776 = y0 := by rw [Int.tmod_eq_emod_of_nonneg (by omega)]; omega
  have T2 : (z2 : Int).tmod 1099511627776 = y2 := by rw [Int.tmod_eq_emod_of_nonneg (by omega)]; omega
  have hl0 : 0 < words.length := by omega
  have hl1 : 1 < words.length := by omega
  have hl2 : 2 < words.length := by omega
  have hi1 : (1 : Int) < words.length := by omega
  have hi2 : (2 : Int) < words.length := by omega
  have hf : ∀ u, OwnL cU ro1 (rw + 1) w1 40 1 (.slice (some ⟨g, 0, none⟩) words.length c2) u → True := fun _ _ => trivial
  have HG := Lib.hid hG1
  have HQ1 := Lib.hid Q1
  have HT0 := Lib.hid T0
  have HT2 := Lib.hid T2
  have HY0 := Lib.hid hy0
  have HY2 := Lib.hid hy2
  have HZ0 := Lib.hid hz0
  have HZ2 := Lib.hid hz2
  have HW1 := Lib.hid W1
  have HP1 := Lib.hid P1
  have fr : ∀ W l, l.length = words.length → WrdIs ro1 rw W WB (.slice (some ⟨g, 0, none⟩) words.length c2) l k → ∀ j, W.frozen? ⟨g, j, none⟩ = false := fun W l hl h => Own.free (n := words.length) (by have := h.own; unfold OwnL at this; rw [hl] at this; exact this)
  have at_ : ∀ W l, l.length = words.length → WrdIs ro1 rw W WB (.slice (some ⟨g, 0, none⟩) words.length c2) l k → ∀ j, j < words.length → W.cell? ⟨g, j, none⟩ = some (.int .u64 (l.getD j 0)) := fun W l hl h j hj => by
    have := h.own.at1 cU_len (i := j) (by omega)
    simp only [cU, List.getElem?_cons_zero] at this
    rw [List.getD_eq_getElem?_getD, List.getElem?_eq_getElem (by omega)]
    exact this
  have HFR := Lib.hid fr
  have HAT := Lib.hid at_
  clear W1 Q1 P1 hG1 T0 T2 hf fr at_ hy0 hy2 hz0 hz2
  have hp1 := HP1.out.cell
  have hc1 := HW1.out.blk.cell
  have hx1_0 := HAT.out _ _ (by simp) HW1.out 0 (by omega)
  rw [← HZ0.out] at hx1_0
  have hf1 := HFR.out _ _ (by simp) HW1.out
  go_still_tail 10, (by kernel_rfl)
  rw [HT0.out]
  change wpList _ _ _ _ _ w1.drew
  refine wpList_plain rfl (fun K hK => ?_)
  go_simp
  refine hK _ _ ?_
  clear hK K
  have N2 : Mv ro1 [rw + 1] w1 ro1 (w1.setCell ⟨g, 0, none⟩ (.int .u64 y0)).drew := ((Mv.refl ro1 [rw + 1] w1).setCell HG.out _).drew
  have W2 : WrdIs ro1 rw (w1.setCell ⟨g, 0, none⟩ (.int .u64 y0)).drew WB (.slice (some ⟨g, 0, none⟩) words.length c2) (words.set 0 y0) k := ⟨HW1.out.blk.keep N2 (by simp), by have := ((HW1.out.own.setU 0 y0 (by omega)).keep (Mv.refl ro1 [] _).drew (by simp)); simpa using this⟩
  have P2 := HP1.out.keep N2 (by simp; omega)
  have Q2 := HQ1.out.keep N2 (by simp; omega) (by simp; omega)
  have HW2 := Lib.hid W2
  have HP2 := Lib.hid P2
  have HQ2 := Lib.hid Q2
  have HN2 := Lib.hid N2
  clear W2 P2 Q2 N2 hp1 hc1 hf1 hx1_0
  generalize (w1.setCell ⟨g, 0, none⟩ (.int .u64 y0)).drew = w2 at *
  refine wpList_nil ?_
  go_wp2
  have hp2 := HP2.out.cell
  have hc2 := HW2.out.blk.cell
  have hx2_2 := HAT.out _ _ (by simp) HW2.out 2 (by omega)
  rw [getD_set_ne _ _ (by decide), ← HZ2.out] at hx2_2
  have hf2 := HFR.out _ _ (by simp) HW2.out
  go_still_tail 10, (by kernel_rfl)
  rw [HT2.out]
  change wpList _ _ _ _ _ w2.drew
  refine wpList_plain rfl (fun K hK => ?_)
  go_simp
  refine hK _ _ ?_
  clear hK K
  have N3 : Mv ro1 [rw + 1] w2 ro1 (w2.setCell ⟨g, 2, none⟩ (.int .u64 y2)).drew := ((Mv.refl ro1 [rw + 1] w2).setCell HG.out _).drew
  have W3 : WrdIs ro1 rw (w2.setCell ⟨g, 2, none⟩ (.int .u64 y2)).drew WB (.slice (some ⟨g, 0, none⟩) words.length c2) ((words.set 0 y0).set 2 y2) k := ⟨HW2.out.blk.keep N3 (by simp), by have := ((HW2.out.own.setU 2 y2 (by simp; omega)).keep (Mv.refl ro1 [] _).drew (by simp)); simpa using this⟩
  have P3 := HP2.out.keep N3 (by simp; omega)
  have Q3 := HQ2.out.keep N3 (by simp; omega) (by simp; omega)
  have HW3 := Lib.hid W3
  have HP3 := Lib.hid P3
  have HQ3 := Lib.hid Q3
  have HN3 := Lib.hid N3
  clear W3 P3 Q3 N3 hp2 hc2 hf2 hx2_2
  generalize (w2.setCell ⟨g, 2, none⟩ (.int .u64 y2)).drew = w3 at *
  refine wpList_nil ?_
  go_wp2
  have hp3 := HP3.out.cell
  have hc3 := HW3.out.blk.cell
  have hx3_0 := HAT.out _ _ (by simp) HW3.out 0 (by omega)
  rw [getD_set_ne _ _ (by decide), getD_set_eq _ _ (by omega)] at hx3_0
  have hx3_1 := HAT.out _ _ (by simp) HW3.out 1 (by omega)
  generalize ((words.set 0 y0).set 2 y2).getD 1 0 = z1 at hx3_1
  have hf3 := HFR.out _ _ (by simp) HW3.out
  go_still_tail 15, (by kernel_rfl)
  change wpList _ _ _ _ _ w3.drew
  refine wpList_plain rfl (fun K hK => ?_)
  go_simp
  refine hK _ _ ?_
  clear hK K
  have N4 : Mv ro1 [rw + 1] w3 ro1 (w3.setCell ⟨g, 1, none⟩ (.int .u64 y0)).drew := ((Mv.refl ro1 [rw + 1] w3).setCell HG.out _).drew
  have W4 : WrdIs ro1 rw (w3.setCell ⟨g, 1, none⟩ (.int .u64 y0)).drew WB (.slice (some ⟨g, 0, none⟩) words.length c2) (((words.set 0 y0).set 2 y2).set 1 y0) k := ⟨HW3.out.blk.keep N4 (by simp), by have := ((HW3.out.own.setU 1 y0 (by simp; omega)).keep (Mv.refl ro1 [] _).drew (by simp)); simpa using this⟩
  have P4 := HP3.out.keep N4 (by simp; omega)
  have Q4 := HQ3.out.keep N4 (by simp; omega) (by simp; omega)
  have HW4 := Lib.hid W4
  have HP4 := Lib.hid P4
  have HQ4 := Lib.hid Q4
  have HN4 := Lib.hid N4
  clear W4 P4 Q4 N4 hp3 hc3 hf3 hx3_0 hx3_1
  generalize (w3.setCell ⟨g, 1, none⟩ (.int .u64 y0)).drew = w4 at *
  refine wpList_nil ?_
  go_wp2
  have hp4 := HP4.out.cell
  have hc4 := HW4.out.blk.cell
  have hx4 := HAT.out _ _ (by simp) HW4.out 0 (by omega)
  rw [getD_set_ne _ _ (by decide), getD_set_ne _ _ (by decide), getD_set_eq _ _ (by omega)] at hx4
  have KW4 := poke_ok (HQ4.out.keep ((Mv.refl ro1 [] w4).drew) (by simp) (by simp)) 0 y0 (by omega)
  go_still_tail 11, (by kernel_rfl)
  change wpList _ _ _ _ _ w4.drew
  go_wp2_with (go_at_call 43; refine KW4.mono ?_; rintro e w5 ⟨rfl, q5, m5⟩)
  have HW5 := Lib.hid (HW4.out.keep ((Mv.refl ro1 [rm + 1] w4).drew.trans m5) (by simp; omega) (by simp; omega))
  have HP5 := Lib.hid (HP4.out.keep ((Mv.refl ro1 [rm + 1] w4).drew.trans m5) (by simp; omega))
  have HQ5 := Lib.hid q5
  have HN5 := Lib.hid ((Mv.refl ro1 [rm + 1] w4).drew.trans m5)
  clear q5 m5 hp4 hc4 hx4 KW4
  have hp5 := HP5.out.cell
  have hc5 := HW5.out.blk.cell
  have hx5 := HAT.out _ _ (by simp) HW5.out 1 (by omega)
  rw [getD_set_eq _ _ (by simp; omega)] at hx5
  have KW5 := poke_ok (HQ5.out.keep ((Mv.refl ro1 [] w5).drew) (by simp) (by simp)) 1 y0 (by simp; omega)
  go_still_tail 11, (by kernel_rfl)
  change wpList _ _ _ _ _ w5.drew
  go_wp2_with (go_at_call 43; refine KW5.mono ?_; rintro e w6 ⟨rfl, q6, m6⟩)
  have HW6 := Lib.hid (HW5.out.keep ((Mv.refl ro1 [rm + 1] w5).drew.trans m6) (by simp; omega) (by simp; omega))
  have HP6 := Lib.hid (HP5.out.keep ((Mv.refl ro1 [rm + 1] w5).drew.trans m6) (by simp; omega))
  have HQ6 := Lib.hid q6
  have HN6 := Lib.hid ((Mv.refl ro1 [rm + 1] w5).drew.trans m6)
  clear q6 m6 hp5 hc5 hx5 KW5
  have hp6 := HP6.out.cell
  have hc6 := HW6.out.blk.cell
  have hx6 := HAT.out _ _ (by simp) HW6.out 2 (by omega)
  rw [getD_set_ne _ _ (by decide), getD_set_eq _ _ (by simp; omega)] at hx6
  have KW6 := poke_ok (HQ6.out.keep ((Mv.refl ro1 [] w6).drew) (by simp) (by simp)) 2 y2 (by simp; omega)
  go_still_tail 11, (by kernel_rfl)
  change wpList _ _ _ _ _ w6.drew
  go_wp2_with (go_at_call 43; refine KW6.mono ?_; rintro e w7 ⟨rfl, q7, m7⟩)
  have HW7 := Lib.hid (HW6.out.keep ((Mv.refl ro1 [rm + 1] w6).drew.trans m7) (by simp; omega) (by simp; omega))
  have HP7 := Lib.hid (HP6.out.keep ((Mv.refl ro1 [rm + 1] w6).drew.trans m7) (by simp; omega))
  have HQ7 := Lib.hid q7
  have HN7 := Lib.hid ((Mv.refl ro1 [rm + 1] w6).drew.trans m7)
  clear q7 m7 hp6 hc6 hx6 KW6
  go_end0
  have hs : servedS words = ((words.set 0 y0).set 2 y2).set 1 y0 := by
    unfold servedS
    rw [HY0.out, HY2.out, HZ0.out, HZ2.out]
  have hs2 : servedS words = ((words.set 0 y0).set 1 y0).set 2 y2 := by
    rw [hs]; exact List.set_comm _ _ (by decide)
  refine ⟨rfl, ro1, ?_, ?_, ?_⟩
  · rw [hs2]; exact HQ7.out
  · rw [hs]; exact HW7.out
  · exact ((M1.out.mono (by simp)).trans (((HN2.out.trans HN3.out).trans HN4.out).mono (by simp))).trans (((HN5.out.trans HN6.out).trans HN7.out).mono (by simp))
end Go.Proofs.YtphaeodcomgffaaGreat
