import Derived.Test.YtldhlkkclmifmaaD1
set_option linter.unusedVariables false
set_option linter.unusedSimpArgs false
namespace Go.Proofs.Ytldhlkkclmifmaa
open Go.RowKit

/-- make([]int, 8) -/
theorem make8 (w : World) {ops : Array Oper} {rest : List Oper} {o : Oper} {a : Act} {Q : Exit → Act → World → Prop}
    (hg : o.guard = none) (hop : o.op = Op.makeSlice 26 (.const (.int .i64 8)) (.const (.int .i64 8)))
    (hK : ∀ w', OwnI w' w.heap.size (.slice (some ⟨w.heap.size, 0, none⟩) 8 8) (List.replicate 8 0) → w.grownBy w' none → wpList Try.prog ops Q rest (a.put o.dst (.slice (some ⟨w.heap.size, 0, none⟩) 8 8)) w') :
    wpList Try.prog ops Q (o :: rest) a w := by
  obtain ⟨i0, hi, hz0, hz1, hz2⟩ := info_parts info3
  refine wpList_make_full w hg _ _ 26 hop w.heap.size 3 i0 (.int .i64 0) 1 under26 hi hz0 hz1 .i64 .i64 8 8 8 rfl rfl rfl rfl (by rw [hz2]; decide) (by unfold maxLen; omega) (Nat.le_refl _) ?_
  intro w' h1 h2
  rw [show (madeCells (Value.int IntKind.i64 0).cells (8 * 1)).toList = _ from madeInts 8] at h1
  exact hK w' h1 h2

def FairR (w wr : World) (n : Int) (b g8 g9 : Nat) (s : ST) (F T : List Int) : Prop :=
  RIst wr b n s ∧ OwnI wr g8 (.slice (some ⟨g8, 0, none⟩) 8 8) F ∧ OwnI wr g9 (.slice (some ⟨g9, 0, none⟩) 8 8) T ∧ Chg [] w wr ∧ s.Inv n ∧ Fair n s F T

def FairX (w wX : World) (n : Int) (b g8 g9 : Nat) (o : Int) (s1 : ST) (F1 T1 : List Int) : Prop :=
  RIst wX b n s1 ∧ OwnI wX g8 (.slice (some ⟨g8, 0, none⟩) 8 8) F1 ∧ OwnI wX g9 (.slice (some ⟨g9, 0, none⟩) 8 8) T1 ∧ Chg [] w wX ∧ s1.Inv n ∧
  ((s1.o = o ∧ Fair n s1 F1 T1) ∨ (s1.o = o + 1 ∧ F1.length = 8 ∧ T1.length = 8 ∧ (∀ k : Nat, (k : Int) < n → ¬ (F1.getD k 0 = 0 ∧ T1.getD k 0 = 0)) ∧ ∀ Z : List Int, Z.length = 8 → (∀ k : Nat, (k : Int) < n → Z.getD k 0 = 0) → Fair n s1 F1 Z))
def FairY (w wY : World) (n : Int) (b g8 g9 : Nat) (s1 : ST) (F1 T1 : List Int) : Prop :=
  RIst wY b n s1 ∧ OwnI wY g8 (.slice (some ⟨g8, 0, none⟩) 8 8) F1 ∧ OwnI wY g9 (.slice (some ⟨g9, 0, none⟩) 8 8) T1 ∧ Chg [] w wY ∧ s1.Inv n ∧ Fair n s1 F1 T1

set_option maxRecDepth 100000 in
set_option maxHeartbeats 4000000 in
theorem fair_walk (w : World) (n : Int) (v : Value) (l : List (Int × Int)) (h : Rd w 2 v (l.map opRow)) (hr : l.length * 16 ≤ 140737488351232) (hlb : ∀ p ∈ l, (-9223372036854775808 ≤ p.2 ∧ p.2 ≤ 9223372036854775807)) (h1 : 1 ≤ n) (h8 : n ≤ 8) :
    Calls Try.prog 8 #[.int .i64 n, v] w fun e w' => e = .returned (.bool true) ∧ Below w.heap.size w w' := by
  have H := Lib.hid h; clear h
  have LB := Lib.hid hlb; clear hlb
  obtain ⟨a0, c0, e0⟩ := H.out.slice
  rw [List.length_map] at e0
  go_enter Try.func8, Try.ntmps8
  go_wp2_with fail
  refine (live_any _).mono ?_; rintro e w1 ⟨rfl, c1⟩
  have C1 := Lib.hid c1; clear c1
  go_wp2_with fail
  refine (new_at _ n h1 h8).mono ?_; rintro e w2 ⟨rfl, c2, r2⟩
  have C2 := Lib.hid (C1.out.trans c2)
  have R2 := Lib.hid (show RIst w2 w1.heap.size n ⟨liveN n, none8, 0⟩ from r2)
  have hb := C1.out.size
  have hbl := R2.out.lt
  generalize w1.heap.size = b at *
  clear c2 r2 C1
  subst e0
  have tok1 : True := trivial
  have tok2 : True := trivial
  go_wp2_with (first | (at_make; have _t := tok1; refine make8 _ rfl rfl ?_; intro w3 own3 hgr3; clear _t tok1) | (at_make; have _t := tok2; refine make8 _ rfl rfl ?_; intro w4 own4 hgr4; clear _t tok2))
  have c3 : Chg [] w2 w3 := (Chg.refl _ _).grown hgr3 (by simp)
  have c4 : Chg [] w3 w4 := (Chg.refl _ _).grown hgr4 (by simp)
  have hg8 : w2.heap.size < w3.heap.size := own3.facts.2.1
  have hg9 : w3.heap.size < w4.heap.size := own4.facts.2.1
  have START := Lib.hid (show FairR w w4 n b w2.heap.size w3.heap.size ⟨liveN n, none8, 0⟩ (List.replicate 8 0) (List.replicate 8 0) from
    ⟨(R2.out.keep c3 (by simp)).keep c4 (by simp), own3.keep0 c4, own4, (C2.out.trans c3).trans c4, ST.Inv.start h1, Fair.start⟩)
  have hw8 : w.heap.size ≤ w2.heap.size := C2.out.size
  clear c3 c4 own3 own4 hgr3 hgr4 C2 R2
  generalize w2.heap.size = g8 at *
  generalize w3.heap.size = g9 at *
  clear w2 w3
  go_loopw [53] (fun i wr => ∃ (k : Nat) (s : ST) (F T : List Int), k ≤ l.length ∧ i = .int .i64 k ∧ 0 ≤ s.o ∧ s.o ≤ k ∧ FairR w wr n b g8 g9 s F T) (fun i _ => l.length - (intOf i).toNat)
  case atStart => exact ⟨0, _, _, _, Nat.zero_le _, rfl, Int.le_refl _, Int.le_refl _, START.out⟩
  case round =>
    obtain ⟨k, s, F, T, hk, rfl, o1, o2, hst, hF, hT, hchg, hinv, hfair⟩ := hrel
    by_cases hkn : k < l.length
    · obtain ⟨b', off, c', p, q, e, hb', hp, x0, x1⟩ := opAt (H.out.keep0 hchg) hkn
      simp only [Value.slice.injEq, true_and] at e
      obtain ⟨rfl, rfl⟩ := e
      have hqb := LB.out (p, q) (List.mem_of_getElem? hp)
      obtain ⟨hq1, hq2⟩ := hqb
      have hsz : g9 < wr.heap.size := hT.facts.2.1
      have ca : Chg [] wr (wr.alloc (.cells #[.int .i64 p, .int .i64 q] 44)) := (Chg.refl _ _).alloc _
      have KEEP : Hid (RIst (wr.alloc (.cells #[.int .i64 p, .int .i64 q] 44)) b n s) := hst.keep ca (by simp)
      have KF := Lib.hid (hF.keep0 ca)
      have KT := Lib.hid (hT.keep0 ca)
      have CH1 := Lib.hid (hchg.trans ca)
      have INV := Lib.hid hinv
      have FA := Lib.hid hfair
      have hF8 := hfair.lf
      have hT8 := hfair.lt
      have LF := Lib.hid hF8
      have LT := Lib.hid hT8
      clear hp hst hchg hF hT hinv hfair ca START hF8 hT8
      have hso : s.o < 9223372036854775807 := by omega
      have CASES : (p = 1 ∧ 0 ≤ q ∧ q < n) ∨ (p = 2 ∧ 0 ≤ q ∧ q < n) ∨ (p ≠ 1 ∧ p ≠ 2) ∨ (p = 1 ∧ ¬ (0 ≤ q ∧ q < n)) ∨ (p = 2 ∧ ¬ (0 ≤ q ∧ q < n)) := by omega
      rcases CASES with ⟨rfl, q0, q1⟩ | ⟨rfl, q0, q1⟩ | ⟨p1, p2⟩ | ⟨rfl, hq⟩ | ⟨rfl, hq⟩
      case' pos.inl =>
        have FX0 := Lib.hid (fair_step h8 INV.out FA.out q0 q1)
        have IX := Lib.hid (INV.out.step h8 q).1
        have CODE : Hid (tCode n q = 0) := by unfold tCode; rw [if_pos ⟨q0, q1⟩]; rfl
        obtain ⟨qq, rfl⟩ := Int.eq_ofNat_of_zero_le q0
        go_wp2_with fail
        refine (over_st _ _ _ _ KEEP.out).mono ?_; rintro e w5 ⟨rfl, rfl⟩
        go_wp2_with fail
        refine (step_st _ _ _ _ _ KEEP.out h8 o1 hso).mono ?_; rintro e w6 ⟨rfl, c6, r6⟩
        have f6 := KF.out.keep c6 (by simp [Value.ownBlock]; omega)
        have t6 := KT.out.keep c6 (by simp [Value.ownBlock]; omega)
        have hcell := t6.facts.2.2.1 qq (by rw [LT.out]; omega)
        have hfroz := t6.facts.2.2.2 qq
        have cs : Chg [g9] w6 (w6.setCell ⟨g9, qq, none⟩ (.int .i64 1)) := (Chg.refl _ _).setCell (by simp) _
        have PK : ∃ s1 F1 T1, FairX w (w6.setCell ⟨g9, qq, none⟩ (.int .i64 1)) n b g8 g9 s.o s1 F1 T1 := ⟨_, _, _, r6.keep cs (by simp; omega), f6.keep cs (by simp [Value.ownBlock]; omega), t6.set qq 1, (CH1.out.also c6 (by simp; omega)).also cs (by simp; omega), IX.out, by
          rcases FX0.out with h | ⟨h, h', h''⟩
          · exact .inl h
          · exact .inr ⟨h, LF.out, by simp [LT.out], h', h''⟩⟩
        have PK' := Lib.hid PK
        clear c6 r6 f6 t6 cs PK FX0 IX
        rw [CODE.out]
        go_wp2_with fail
        generalize w6.setCell ⟨g9, qq, none⟩ (.int .i64 1) = wX at *
        clear hcell hfroz CODE
      case' pos.inr.inl =>
        have FX0 := Lib.hid (fair_fin h8 INV.out FA.out q0 q1)
        have IX := Lib.hid (INV.out.fin h8 q).1
        have CODE : Hid (tCode n q = 0) := by unfold tCode; rw [if_pos ⟨q0, q1⟩]; rfl
        obtain ⟨qq, rfl⟩ := Int.eq_ofNat_of_zero_le q0
        go_wp2_with fail
        refine (over_st _ _ _ _ KEEP.out).mono ?_; rintro e w5 ⟨rfl, rfl⟩
        go_wp2_with fail
        refine (fin_st _ _ _ _ _ KEEP.out h8 o1 hso).mono ?_; rintro e w6 ⟨rfl, c6, r6⟩
        have f6 := KF.out.keep c6 (by simp [Value.ownBlock]; omega)
        have t6 := KT.out.keep c6 (by simp [Value.ownBlock]; omega)
        have hcell := f6.facts.2.2.1 qq (by rw [LF.out]; omega)
        have hfroz := f6.facts.2.2.2 qq
        have cs : Chg [g8] w6 (w6.setCell ⟨g8, qq, none⟩ (.int .i64 1)) := (Chg.refl _ _).setCell (by simp) _
        have PK : ∃ s1 F1 T1, FairX w (w6.setCell ⟨g8, qq, none⟩ (.int .i64 1)) n b g8 g9 s.o s1 F1 T1 := ⟨_, _, _, r6.keep cs (by simp; omega), f6.set qq 1, t6.keep cs (by simp [Value.ownBlock]; omega), (CH1.out.also c6 (by simp; omega)).also cs (by simp; omega), IX.out, by
          rcases FX0.out with h | ⟨h, h', h''⟩
          · exact .inl h
          · exact .inr ⟨h, by simp [LF.out], LT.out, h', h''⟩⟩
        have PK' := Lib.hid PK
        clear c6 r6 f6 t6 cs PK FX0 IX
        rw [CODE.out]
        go_wp2_with fail
        generalize w6.setCell ⟨g8, qq, none⟩ (.int .i64 1) = wX at *
        clear hcell hfroz CODE
      case' pos.inr.inr.inl =>
        have PK' := Lib.hid (show ∃ s1 F1 T1, FairX w (wr.alloc (.cells #[.int .i64 p, .int .i64 q] 44)) n b g8 g9 s.o s1 F1 T1 from ⟨s, F, T, KEEP.out, KF.out, KT.out, CH1.out, INV.out, .inl ⟨rfl, FA.out⟩⟩)
        have b1 : (p == 1) = false := by simp [p1]
        have b2 : (p == 2) = false := by simp [p2]
        go_wp2_with fail
        refine (over_st _ _ _ _ KEEP.out).mono ?_; rintro e w5 ⟨rfl, rfl⟩
        clear p1 p2
        go_wp2_with fail
        all_goals
          generalize wr.alloc (.cells #[.int .i64 p, .int .i64 q] 44) = wX at *
          clear b1 b2
      case' pos.inr.inr.inr.inl =>
        have SS : Hid (s.step n q = s) := by unfold ST.step; rw [if_neg hq]; rfl
        have CODE : Hid (tCode n q = 100) := by unfold tCode; rw [if_neg hq]; rfl
        have hdec : (decide (0 ≤ q) && decide (q < n)) = false := by simp; omega
        go_wp2_with fail
        refine (over_st _ _ _ _ KEEP.out).mono ?_; rintro e w5 ⟨rfl, rfl⟩
        go_wp2_with fail
        all_goals
          refine (step_st _ _ _ _ _ KEEP.out h8 o1 hso).mono ?_; rintro e w6 ⟨rfl, c6, r6⟩
          rw [SS.out] at r6
          have PK := (show ∃ s1 F1 T1, FairX w w6 n b g8 g9 s.o s1 F1 T1 from ⟨s, F, T, r6, KF.out.keep c6 (by simp [Value.ownBlock]; omega), KT.out.keep c6 (by simp [Value.ownBlock]; omega), CH1.out.also c6 (by simp; omega), INV.out, .inl ⟨rfl, FA.out⟩⟩)
          have PK' := Lib.hid PK
          clear c6 r6 PK
          rw [CODE.out]
          go_wp2_with fail
          generalize w6 = wX at *
          clear CODE SS hdec
      case' pos.inr.inr.inr.inr =>
        have SS : Hid (s.fin n q = s) := by unfold ST.fin; rw [if_neg hq]; rfl
        have CODE : Hid (tCode n q = 100) := by unfold tCode; rw [if_neg hq]; rfl
        have hdec : (decide (0 ≤ q) && decide (q < n)) = false := by simp; omega
        go_wp2_with fail
        refine (over_st _ _ _ _ KEEP.out).mono ?_; rintro e w5 ⟨rfl, rfl⟩
        go_wp2_with fail
        all_goals
          refine (fin_st _ _ _ _ _ KEEP.out h8 o1 hso).mono ?_; rintro e w6 ⟨rfl, c6, r6⟩
          rw [SS.out] at r6
          have PK := (show ∃ s1 F1 T1, FairX w w6 n b g8 g9 s.o s1 F1 T1 from ⟨s, F, T, r6, KF.out.keep c6 (by simp [Value.ownBlock]; omega), KT.out.keep c6 (by simp [Value.ownBlock]; omega), CH1.out.also c6 (by simp; omega), INV.out, .inl ⟨rfl, FA.out⟩⟩)
          have PK' := Lib.hid PK
          clear c6 r6 PK
          rw [CODE.out]
          go_wp2_with fail
          generalize w6 = wX at *
          clear CODE SS hdec
      all_goals as_aux_lemma =>
        obtain ⟨s1, F1, T1, rx, fx, tx, cx, ix, hx⟩ := PK'.out
        have RX := Lib.hid rx
        have FX := Lib.hid fx
        have TX := Lib.hid tx
        have CX := Lib.hid cx
        have IX := Lib.hid ix
        have hlo : s.o ≤ s1.o := by rcases hx with h | h <;> omega
        have hhi : s1.o ≤ s.o + 1 := by rcases hx with h | h <;> omega
        have HX := Lib.hid hx
        clear rx fx tx cx ix hx PK' KEEP KF KT CH1 INV FA LF LT LB x0 x1
        refine (over_st _ _ _ _ RX.out).mono ?_; rintro e w5 ⟨rfl, rfl⟩
        go_wp2_with fail
        refine (over_st _ _ _ _ RX.out).mono ?_; rintro e w5 ⟨rfl, rfl⟩
        go_wp2_with fail
        refine (over_st _ _ _ _ RX.out).mono ?_; rintro e w5 ⟨rfl, rfl⟩
        rcases HX.out with ⟨hov, hfair⟩ | ⟨hov, lF, lT, hnot, hZ⟩
        case' inl =>
          have hov2 : s1.o ≤ s.o := by omega
          have PY' := Lib.hid (show ∃ wY T2, wY = wX ∧ FairY w wY n b g8 g9 s1 F1 T2 from ⟨wX, T1, rfl, RX.out, FX.out, TX.out, CX.out, IX.out, hfair⟩)
          clear hov hfair HX RX FX TX CX IX
          go_wp2_with fail
        case' inr =>
          have hov2 : s.o < s1.o := by omega
          have HNOT := Lib.hid hnot
          have HZ := Lib.hid hZ
          clear hov hnot hZ HX
          go_wp2_with fail
          have LF1 := Lib.hid lF
          have LT1 := Lib.hid lT
          clear lF lT
          go_loopw [16] (fun i wr => ∃ (j : Nat) (Z : List Int), (j : Int) ≤ n ∧ i = .int .i64 j ∧ Z.length = 8 ∧ (∀ i < j, Z.getD i 0 = 0) ∧ (∀ i, j ≤ i → Z.getD i 0 = T1.getD i 0) ∧ OwnI wr g9 (.slice (some ⟨g9, 0, none⟩) 8 8) Z ∧ Chg [g9] wX wr) (fun i _ => n.toNat - (intOf i).toNat)
          case' atStart => exact ⟨0, T1, by omega, rfl, LT1.out, fun i hi => by omega, fun _ _ => rfl, TX.out, Chg.refl _ _⟩
          case' round =>
            obtain ⟨j, Z, hj, rfl, hZl, hZ0, hZ1, hown, hch⟩ := hrel
            by_cases hjn : (j : Int) < n
            case' pos =>
              have hFo := FX.out.keep hch (by simp [Value.ownBlock]; omega)
              obtain ⟨x, X, y1⟩ : ∃ x, Hid (F1.getD j 0 = x) ∧ wr.cell? ⟨g8, j, none⟩ = some (.int .i64 x) := ⟨_, rfl, hFo.facts.2.2.1 j (by rw [LF1.out]; omega)⟩
              obtain ⟨y, Y, y2⟩ : ∃ x, Hid (Z.getD j 0 = x) ∧ wr.cell? ⟨g9, j, none⟩ = some (.int .i64 x) := ⟨_, rfl, hown.facts.2.2.1 j (by omega)⟩
              have y3 := hown.facts.2.2.2 j
              have hn' : ¬ (x = 0 ∧ y = 0) := by have := HNOT.out j hjn; rw [X.out, ← hZ1 j (Nat.le_refl _), Y.out] at this; exact this
              have NXT := Lib.hid (show ∃ Z' : List Int, Z'.length = 8 ∧ (∀ i < j + 1, Z'.getD i 0 = 0) ∧ (∀ i, j + 1 ≤ i → Z'.getD i 0 = T1.getD i 0) ∧ OwnI (wr.setCell ⟨g9, j, none⟩ (.int .i64 0)) g9 (.slice (some ⟨g9, 0, none⟩) 8 8) Z' from
                ⟨Z.set j 0, by simp [hZl], fun i hi => by
                  by_cases e : i = j
                  · subst e; exact getD_set_same (by omega)
                  · rw [getD_set_other (by omega)]; exact hZ0 i (by omega), fun i hi => by rw [getD_set_other (by omega)]; exact hZ1 i (by omega), hown.set j 0⟩)
              have CN := Lib.hid (show Chg [g9] wX (wr.setCell ⟨g9, j, none⟩ (.int .i64 0)) from hch.setCell (by simp) _)
              clear hZl hZ0 hZ1 hown hch hFo
              by_cases hx0 : x = 0
              · have z1 : (x == 0) = true := by simp [hx0]
                have z2 : (y == 0) = false := by simp; intro h; exact hn' ⟨hx0, h⟩
                clear hn' hx0
                go_wp2
                go_roundw
                case rel => obtain ⟨Z', a1, a2, a3, a4⟩ := NXT.out; exact ⟨j + 1, Z', by omega, by go_num, a1, a2, a3, a4, CN.out⟩
                case measure => simp [intOf]; omega
              · have z1 : (x == 0) = false := by simp [hx0]
                clear hn' hx0
                go_wp2
                go_roundw
                case rel => obtain ⟨Z', a1, a2, a3, a4⟩ := NXT.out; exact ⟨j + 1, Z', by omega, by go_num, a1, a2, a3, a4, CN.out⟩
                case measure => simp [intOf]; omega
            case' neg =>
              have PY' := Lib.hid (show ∃ wY T2, wY = wr ∧ FairY w wY n b g8 g9 s1 F1 T2 from ⟨wr, Z, rfl, RX.out.keep hch (by simp; omega), FX.out.keep hch (by simp [Value.ownBlock]; omega), hown, CX.out.also hch (by simp; omega), IX.out, HZ.out Z hZl fun k hk => hZ0 k (by omega)⟩)
              clear hZl hZ0 hZ1 hown hch RX FX TX CX IX HNOT HZ LF1 LT1
              go_wp2_with fail
              generalize wr = wX at *
        all_goals
          obtain ⟨wY, T2, rfl, rx, fx, tx, cx, ix, fa⟩ := PY'.out
          have RX := Lib.hid rx
          have FX := Lib.hid fx
          have TX := Lib.hid tx
          have CX := Lib.hid cx
          have IX := Lib.hid ix
          have FA := Lib.hid fa
          have hgy : g9 < wY.heap.size := tx.facts.2.1
          clear rx fx tx cx ix fa PY'
          go_loopw [17, 18, 19] (fun v c i wr => ∃ j : Nat, (j : Int) ≤ n ∧ i = .int .i64 j ∧ c = .int .i64 (liveC s1.L j) ∧ OwnI wr wY.heap.size v (dueL s1.L s1.S j) ∧ Chg [] wY wr) (fun _ _ i _ => n.toNat - (intOf i).toNat)
          case atStart => exact ⟨0, by omega, rfl, rfl, OwnI.nil _ _, Chg.refl _ _⟩
          case round =>
            obtain ⟨j, hj, rfl, rfl, hown, hch⟩ := hrel
            by_cases hjn : (j : Int) < n
            · have hFo := FX.out.keep0 hch
              have hTo := TX.out.keep0 hch
              have f1 := FA.out.f j hjn
              have f2 := FA.out.t j hjn
              have y1 := hFo.facts.2.2.1 j (by rw [FA.out.lf]; omega)
              have y2 := hTo.facts.2.2.1 j (by rw [FA.out.lt]; omega)
              rw [f1] at y1
              have hlc := liveC_le s1.L j
              have hdl := dueL_le s1.L s1.S j
              have hblk := hown.blk
              have OW := Lib.hid hown
              have CH := Lib.hid hch
              clear hFo hTo f1 hown hch
              cases hL : s1.L j
              · rw [hL] at y1
                have E1 := Lib.hid (liveC_no hL)
                have E2 := Lib.hid (dueL_miss (L := s1.L) (S := s1.S) (k := j) (by simp [hL]))
                clear hL f2 y2
                go_wp2
                go_roundw
                case rel => exact ⟨j + 1, by omega, by go_num, by rw [E1.out], by rw [E2.out]; exact OW.out, CH.out⟩
                case measure => simp [intOf]; omega
              · rw [hL] at y1
                rw [f2 hL] at y2
                have E1 := Lib.hid (liveC_yes hL)
                cases hS : s1.S j
                · rw [hS] at y2
                  have E2 := Lib.hid (dueL_hit hL hS)
                  clear hL f2 hS
                  go_wp2_with (at_builtin; refine push_int rfl _ _ rfl wY.heap.size (dueL s1.L s1.S j) _ rfl OW.out rfl (by omega) CH.out.size ?_; intro v' w1 hown1 hgrow; have OWN1 := Lib.hid hown1; clear hown1; have GR := Lib.hid hgrow; clear hgrow)
                  go_roundw
                  case rel => exact ⟨j + 1, by omega, by go_num, by rw [E1.out]; go_num, by rw [E2.out]; exact OWN1.out, (CH.out.alloc _).grown GR.out fun j hj => .inr (hblk j hj).1⟩
                  case measure => simp [intOf]; omega
                · rw [hS] at y2
                  have E2 := Lib.hid (dueL_miss (L := s1.L) (S := s1.S) (k := j) (by simp [hS]))
                  clear hL f2 hS
                  go_wp2
                  go_roundw
                  case rel => exact ⟨j + 1, by omega, by go_num, by rw [E1.out]; go_num, by rw [E2.out]; exact OW.out, CH.out⟩
                  case measure => simp [intOf]; omega
            · have e : j = n.toNat := by omega
              subst e
              have hld := Lib.hid (live_due IX.out (show 0 ≤ n by omega))
              have RY := Lib.hid (show RIst wr b n s1 from RX.out.keep hch (by simp))
              have FAR := Lib.hid (show FairR w wr n b g8 g9 s1 F1 T2 from ⟨RX.out.keep hch (by simp), FX.out.keep0 hch, TX.out.keep0 hch, CX.out.trans hch, IX.out, FA.out⟩)
              have OW := Lib.hid hown
              have hdl := dueL_le s1.L s1.S n.toNat
              clear hch hown RX FX TX CX
              go_wp2_with fail
              refine (due_st _ _ _ _ RY.out (by omega) h8).mono ?_; rintro e w6 ⟨v8, rfl, own8, c8⟩
              have O8 := Lib.hid own8
              have OW8 := Lib.hid (OW.out.keep0 c8)
              have C8 := Lib.hid c8
              clear own8 c8
              go_wp2_with fail
              refine (same_any _ _ _ _ _ O8.out.rd OW8.out.rd (by omega) (by omega)).mono ?_; rintro e w9 ⟨rfl, n9, rfl⟩
              rw [show decide (dueL s1.L s1.S n.toNat = dueL s1.L s1.S n.toNat) = true from by simp]
              obtain ⟨a17, c17, e17⟩ := OW8.out.rd.slice
              subst e17
              have R9 := Lib.hid (FAR.out.1.keep ((C8.out).drewN n9) (by simp))
              have FAR9 := Lib.hid (show FairR w (w6.drewN n9) n b g8 g9 s1 F1 T2 from ⟨FAR.out.1.keep ((C8.out).drewN n9) (by simp), FAR.out.2.1.keep0 ((C8.out).drewN n9), FAR.out.2.2.1.keep0 ((C8.out).drewN n9), FAR.out.2.2.2.1.trans ((C8.out).drewN n9), FAR.out.2.2.2.2⟩)
              by_cases hz : 0 < liveC s1.L n.toNat
              · have hz2 := hld.out.1 hz
                have z1 : decide (0 < liveC s1.L n.toNat) = true := decide_eq_true hz
                have z2 : decide (0 < (dueL s1.L s1.S n.toNat).length) = true := decide_eq_true hz2
                clear hz hz2
                go_wp2
                go_roundw
                case rel => exact ⟨k + 1, s1, F1, T2, by omega, by go_num, by omega, by omega, FAR9.out⟩
                case measure => simp [intOf]; omega
              · have hz2 : ¬ 0 < (dueL s1.L s1.S n.toNat).length := fun h => hz (hld.out.2 h)
                have z1 : decide (0 < liveC s1.L n.toNat) = false := decide_eq_false hz
                have z2 : decide (0 < (dueL s1.L s1.S n.toNat).length) = false := decide_eq_false hz2
                clear hz hz2
                go_wp2
                go_roundw
                case rel => exact ⟨k + 1, s1, F1, T2, by omega, by go_num, by omega, by omega, FAR9.out⟩
                case measure => simp [intOf]; omega
    · have CH := Lib.hid hchg
      clear hst hF hT hinv hfair hchg
      go_wp2
      go_ret
      exact ⟨rfl, CH.out.below (Nat.le_refl _) (by simp)⟩

set_option maxRecDepth 100000 in
set_option maxHeartbeats 1000000 in
theorem fair_bad (w : World) (n : Int) (v : Value) (h : n < 1 ∨ 8 < n) :
    Calls Try.prog 8 #[.int .i64 n, v] w fun e w' => e = .returned (.bool true) ∧ Below w.heap.size w w' := by
  by_cases h0 : n < 1
  · go_enter Try.func8, Try.ntmps8
    go_wp2_with fail
    refine (live_any _).mono ?_; rintro e w1 ⟨rfl, c1⟩
    have C1 := Lib.hid c1; clear c1
    go_wp2_with fail
    refine (new_bad n _ h).mono ?_; rintro e w2 ⟨rfl, rfl⟩
    go_wp2
    go_ret
    exact ⟨rfl, C1.out.below (Nat.le_refl _) (by simp)⟩
  · have h1 : 8 < n := by omega
    go_enter Try.func8, Try.ntmps8
    go_wp2_with fail
    refine (live_any _).mono ?_; rintro e w1 ⟨rfl, c1⟩
    have C1 := Lib.hid c1; clear c1
    go_wp2_with fail
    refine (new_bad n _ h).mono ?_; rintro e w2 ⟨rfl, rfl⟩
    clear h
    go_wp2
    go_ret
    exact ⟨rfl, C1.out.below (Nat.le_refl _) (by simp)⟩

theorem fair_all (w : World) (n : Int) (v : Value) (hn : -9223372036854775808 ≤ n ∧ n ≤ 9223372036854775807) (h : InOps w v) :
    Calls Try.prog 8 #[.int .i64 n, v] w fun e w' => e = .returned (.bool true) ∧ Below w.heap.size w w' := by
  by_cases hb : n < 1 ∨ 8 < n
  · exact fair_bad w n v hb
  · obtain ⟨l, h1, h2, h3⟩ := h
    exact fair_walk w n v l h1 h3 (fun p hp => (h2 p hp).2) (by omega) (by omega)

end Go.Proofs.Ytldhlkkclmifmaa
