import Derived.Test.YtldhlkkclmifmaaH2
set_option linter.unusedVariables false
set_option linter.unusedSimpArgs false
namespace Go.Proofs.Ytldhlkkclmifmaa
open Go.RowKit

theorem Dd.get3 (d : Dd) : d.arr[3]? = some (.int .i64 d.tag) := rfl
theorem Dd.get5 (d : Dd) : d.arr[5]? = some (.int .i64 d.mark) := rfl
theorem Dd.get15 (d : Dd) : d.arr[15]? = some (.int .i64 d.steps) := rfl
theorem Dd.get16 (d : Dd) : d.arr[16]? = some (.int .i64 d.ahead) := rfl
theorem Dd.get17 (d : Dd) : d.arr[17]? = some (.int .i64 d.frm) := rfl
theorem Dd.get18 (d : Dd) : d.arr[18]? = some (.int .i64 d.to) := rfl
theorem badD_no {d : Dd} (h : badD d = false) : (0 ≤ d.steps ∧ d.steps ≤ 1099511627776) ∧ (0 ≤ d.ahead ∧ d.ahead ≤ 1099511627776) ∧ (0 ≤ d.frm ∧ d.frm ≤ 1099511627776) ∧ (0 ≤ d.to ∧ d.to ≤ 1099511627776) := by
  simp [badD, badN] at h; omega

set_option maxRecDepth 100000 in
set_option maxHeartbeats 8000000 in
theorem rlate_any (w : World) (c t f r : Int) (v : Value) (l : List Dd) (h : Rd w 19 v (l.map Dd.row)) (hok : ∀ d ∈ l, d.ok) (hlen : l.length ≤ 9223372036854775807) :
    Calls Try.prog 23 #[.agg #[.int .i64 c, .int .i64 t, .int .i64 f, .int .i64 r], v] w (IntErr w (lateI c t f r l) (lateE c t f r l)) := by
  obtain ⟨a0, c0, e0⟩ := h.slice
  rw [List.length_map] at e0
  have H := Lib.hid h; clear h
  have OK := Lib.hid hok; clear hok
  by_cases hc : okC c t f r
  · have E1 := Lib.hid (show lateI c t f r l = if l.any badD then 0 else fstLate (lateD (readB c t f r) (writeB c t f r)) l 0 from if_pos hc)
    have E2 := Lib.hid (show lateE c t f r l = if l.any badD then 170 else 0 from if_pos hc)
    have E3 := Lib.hid (show errB c t f r = 0 from if_pos hc)
    have hR : 0 ≤ readB c t f r ∧ readB c t f r ≤ 10000 := by unfold readB; rw [if_pos hc]; unfold okC at hc; omega
    have hW : 0 ≤ writeB c t f r ∧ writeB c t f r ≤ 10000 := by unfold writeB; rw [if_pos hc]; unfold okC at hc; omega
    clear hc
    go_enter Try.func23, Try.ntmps23
    go_wp2_with fail
    refine (rreader_any _ c t f r).mono ?_; rintro e w1 ⟨rfl, c1⟩
    obtain ⟨e0', hlt⟩ := cfg_keep c1
    have C1 := Lib.hid (((Chg.refl [] w).alloc _).trans c1)
    rw [E3.out]
    clear c1
    go_wp2_with fail
    refine (rwriter_any _ c t f r).mono ?_; rintro e w2 ⟨rfl, c2⟩
    have C2 := Lib.hid (C1.out.trans c2)
    clear c2 e0' hlt C1
    rw [E3.out]
    generalize readB c t f r = own at *
    generalize writeB c t f r = turn at *
    subst e0
    go_wp2_with fail
    go_loopw [31] (fun i wr => ∃ k : Nat, k ≤ l.length ∧ i = .int .i64 k ∧ (∀ j d, j < k → l[j]? = some d → badD d = false) ∧ Chg [] w wr) (fun i _ => l.length - (intOf i).toNat)
    case atStart => exact ⟨0, Nat.zero_le _, rfl, fun j d hj => by omega, C2.out⟩
    case round =>
      obtain ⟨k, hk, rfl, hno, hchg⟩ := hrel
      have NO := Lib.hid hno; clear hno
      by_cases hkn : k < l.length
      · obtain ⟨b', off, c', d, e, hb', hd, hcell⟩ := deedAt (H.out.keep0 hchg) hkn
        simp only [Value.slice.injEq, true_and] at e
        obtain ⟨rfl, rfl⟩ := e
        have DO := OK.out d (List.mem_of_getElem? hd)
        have HD := Lib.hid hd
        have HC := Lib.hid hcell
        have CH := Lib.hid hchg
        clear hd hcell hchg C2
        have tok1 : True := trivial; have tok2 : True := trivial; go_wp2_with (first | (have _t := tok1; refine wpList_load_cells rfl 63 _ rfl b' (off + k * 19) rfl d.arr _ HC.out Try.underlying63 rfl (size63 _ rfl) ?_; clear _t tok1) | (have _t := tok2; refine wpList_box_row rfl 63 _ _ rfl _ d.arr 63 rfl rfl (size63 _ rfl) rfl d.arr_one ?_; intro w3 c3 hlt3 hcl3; clear _t tok2; have y3 := hcl3 3; have y5 := hcl3 5; have y15 := hcl3 15; have y16 := hcl3 16; have y17 := hcl3 17; have y18 := hcl3 18; simp only [Dd.get3, Dd.get5, Dd.get15, Dd.get16, Dd.get17, Dd.get18] at y3 y5 y15 y16 y17 y18; clear hcl3; have C3 := Lib.hid (CH.out.trans c3); clear c3))
        obtain ⟨wI, hwI⟩ : ∃ wI, w3.alloc (.cells #[.int .i64 d.steps, .int .i64 d.ahead, .int .i64 d.frm, .int .i64 d.to] 3) = wI := ⟨_, rfl⟩
        have CI := Lib.hid (show Chg [] w wI from hwI ▸ C3.out.alloc _)
        have FI := Lib.hid (show ∀ j, j < 4 → wI.cell? ⟨w3.heap.size, j, none⟩ = some (.int .i64 ([d.steps, d.ahead, d.frm, d.to].getD j 0)) from fun j hj => by
          rw [← hwI, cell_of_row _ _ _ _ _ _ (heap_alloc_new _ _)]
          match j, hj with
          | 0, _ | 1, _ | 2, _ | 3, _ => rfl)
        have XB := Lib.hid (show ∀ j, j < 4 → i64 ([d.steps, d.ahead, d.frm, d.to].getD j 0) from fun j hj => by
          match j, hj with
          | 0, _ => exact DO.1
          | 1, _ => exact DO.2.1
          | 2, _ => exact DO.2.2.1
          | 3, _ => exact DO.2.2.2.1)
        have BD := Lib.hid (show ∀ j, j < 4 → badN ([d.steps, d.ahead, d.frm, d.to].getD j 0) = true → badD d = true from fun j hj h => by
          match j, hj with
          | 0, _ | 1, _ | 2, _ | 3, _ => simp at h; simp [badD, h])
        have BG := Lib.hid (show (∀ j, j < 4 → badN ([d.steps, d.ahead, d.frm, d.to].getD j 0) = false) → badD d = false from fun h => by
          have h0 := h 0 (by omega); have h1 := h 1 (by omega); have h2 := h 2 (by omega); have h3 := h 3 (by omega)
          simp at h0 h1 h2 h3
          simp [badD, h0, h1, h2, h3])
        rw [hwI]
        clear hwI y3 y5 y15 y16 y17 y18 hlt3 C3 DO
        generalize w3.heap.size = gI at *
        generalize hfl : [d.steps, d.ahead, d.frm, d.to] = fl at *
        clear hfl w3
        go_loop [45] (fun i => ∃ j : Nat, j ≤ 4 ∧ i = .int .i64 j ∧ ∀ m, m < j → badN (fl.getD m 0) = false) (fun i => 4 - (intOf i).toNat)
        case atStart => exact ⟨0, by omega, rfl, fun m hm => by omega⟩
        case round =>
          obtain ⟨j, hj, rfl, hgood⟩ := hrel
          have GOOD := Lib.hid hgood; clear hgood
          by_cases hj4 : j < 4
          · obtain ⟨x, X, gx⟩ : ∃ x, Hid (fl.getD j 0 = x) ∧ wI.cell? ⟨gI, j, none⟩ = some (.int .i64 x) := ⟨_, rfl, FI.out j hj4⟩
            have xb := XB.out j hj4
            rw [X.out] at xb
            obtain ⟨xb1, xb2⟩ := xb
            by_cases hb : badN x = true
            · have hbd := BD.out j hj4 (by rw [X.out]; exact hb)
              have hany : l.any badD = true := List.any_eq_true.2 ⟨d, List.mem_of_getElem? HD.out, hbd⟩
              have F1 := Lib.hid (show lateI c t f r l = 0 from by rw [E1.out, if_pos hany])
              have F2 := Lib.hid (show lateE c t f r l = 170 from by rw [E2.out, if_pos hany])
              clear hany hbd
              by_cases hx : x < 0
              · clear hb
                go_wp2
                go_ret2
                exact ⟨by rw [F1.out, F2.out]; rfl, CI.out⟩
              · have hx2 : 1099511627776 < x := by simp [badN] at hb; omega
                clear hb
                go_wp2
                go_ret2
                exact ⟨by rw [F1.out, F2.out]; rfl, CI.out⟩
            · have hx1 : 0 ≤ x := by simp [badN] at hb; omega
              have hx2 : x ≤ 1099511627776 := by simp [badN] at hb; omega
              have HB := Lib.hid (show badN x = false from by simpa using hb)
              clear hb
              go_wp2
              go_round
              case rel => exact ⟨j + 1, by omega, by go_num, fun m hm => by rcases Nat.lt_succ_iff_lt_or_eq.1 hm with h | rfl; exact GOOD.out m h; rw [X.out]; exact HB.out⟩
              case measure => simp [intOf]; omega
          · have hj' : j = 4 := by omega
            subst hj'
            have NB := Lib.hid (BG.out GOOD.out)
            clear hj hj4
            go_wp2
            go_roundw
            case rel => exact ⟨k + 1, by omega, by go_num, fun m d' hm hd' => by
              rcases Nat.lt_succ_iff_lt_or_eq.1 hm with h | rfl
              · exact NO.out m d' h hd'
              · rw [HD.out] at hd'; cases hd'; exact NB.out, CI.out⟩
            case measure => simp [intOf]; omega
      · have hkk : k = l.length := by omega
        subst hkk
        have hany : l.any badD = false := by
          rw [List.any_eq_false]
          intro d hd
          obtain ⟨j, hj, rfl⟩ := List.mem_iff_getElem.1 hd
          simp [NO.out j _ hj (List.getElem?_eq_getElem hj)]
        have F1 := Lib.hid (show lateI c t f r l = fstLate (lateD own turn) l 0 from by rw [E1.out, if_neg (by simp [hany])])
        have F2 := Lib.hid (show lateE c t f r l = 0 from by rw [E2.out, if_neg (by simp [hany])])
        have CH := Lib.hid hchg
        clear hany hchg C2 hk hkn E1 E2
        obtain ⟨wO, hwO⟩ : ∃ wO, wO = wr := ⟨_, rfl⟩
        rw [← hwO] at CH ⊢
        clear hwO wr
        go_wp2_with fail
        go_loopw [59] (fun i wr => ∃ k : Nat, k ≤ l.length ∧ i = .int .i64 k ∧ (∀ j d, j < k → l[j]? = some d → lateD own turn d = false) ∧ Chg [] w wr) (fun i _ => l.length - (intOf i).toNat)
        case atStart => exact ⟨0, Nat.zero_le _, rfl, fun j d hj => by omega, CH.out⟩
        case round =>
          obtain ⟨k, hk, rfl, hnl, hchg⟩ := hrel
          have NL := Lib.hid hnl; clear hnl
          by_cases hkn : k < l.length
          · obtain ⟨b', off, c', d, e, hb', hd, hcell⟩ := deedAt (H.out.keep0 hchg) hkn
            simp only [Value.slice.injEq, true_and] at e
            obtain ⟨rfl, rfl⟩ := e
            have DO := OK.out d (List.mem_of_getElem? hd)
            have BG := badD_no (NO.out k d hkn hd)
            have HD := Lib.hid hd
            have HC := Lib.hid hcell
            have CH2 := Lib.hid hchg
            obtain ⟨⟨s1, s2⟩, ⟨s3, s4⟩, ⟨s5, s6⟩, s7, s8⟩ := BG
            obtain ⟨_, _, _, _, ⟨m1, m2⟩, ⟨m3, m4⟩⟩ := DO
            have hmul : 0 ≤ (d.ahead + 1) * turn ∧ (d.ahead + 1) * turn ≤ 1099511627777 * 10000 := ⟨Int.mul_nonneg (by omega) hW.1, Int.mul_le_mul (by omega) hW.2 hW.1 (by omega)⟩
            have mu1 := hmul.1
            have mu2 := hmul.2
            clear hd hcell hchg CH hmul
            by_cases htag : d.tag = 2
            · by_cases hmk : 0 ≤ d.mark
              · by_cases hlt : (d.ahead + 1) * turn < d.to - d.frm
                · as_aux_lemma =>
                    have t1 : (d.tag != 2) = false := by simp [htag]
                    have t2 : (d.tag == 2) = true := by simp [htag]
                    have LD := Lib.hid (show lateD own turn d = true from by simp [lateD, htag, hmk, hlt])
                    clear htag
                    have tok1 : True := trivial; have tok2 : True := trivial; go_wp2_with (first | (have _t := tok1; refine wpList_load_cells rfl 63 _ rfl b' (off + k * 19) rfl d.arr _ HC.out Try.underlying63 rfl (size63 _ rfl) ?_; clear _t tok1) | (have _t := tok2; refine wpList_box_row rfl 63 _ _ rfl _ d.arr 63 rfl rfl (size63 _ rfl) rfl d.arr_one ?_; intro w3 c3 hlt3 hcl3; clear _t tok2; have y3 := hcl3 3; have y5 := hcl3 5; have y15 := hcl3 15; have y16 := hcl3 16; have y17 := hcl3 17; have y18 := hcl3 18; simp only [Dd.get3, Dd.get5, Dd.get15, Dd.get16, Dd.get17, Dd.get18] at y3 y5 y15 y16 y17 y18; clear hcl3; have C3 := Lib.hid (CH2.out.trans c3); clear c3))
                    go_ret2
                    refine ⟨?_, C3.out⟩
                    rw [F1.out, F2.out, fst_hit (lateD own turn) l 0 k d HD.out LD.out NL.out, Nat.zero_add]
                    rfl
                · as_aux_lemma =>
                    have t1 : (d.tag != 2) = false := by simp [htag]
                    have t2 : (d.tag == 2) = true := by simp [htag]
                    have LD := Lib.hid (show lateD own turn d = false from by simp [lateD, htag, hmk, hlt])
                    clear htag
                    have hge : d.to - d.frm ≤ (d.ahead + 1) * turn := by omega
                    clear hlt
                    have tok1 : True := trivial; have tok2 : True := trivial; go_wp2_with (first | (have _t := tok1; refine wpList_load_cells rfl 63 _ rfl b' (off + k * 19) rfl d.arr _ HC.out Try.underlying63 rfl (size63 _ rfl) ?_; clear _t tok1) | (have _t := tok2; refine wpList_box_row rfl 63 _ _ rfl _ d.arr 63 rfl rfl (size63 _ rfl) rfl d.arr_one ?_; intro w3 c3 hlt3 hcl3; clear _t tok2; have y3 := hcl3 3; have y5 := hcl3 5; have y15 := hcl3 15; have y16 := hcl3 16; have y17 := hcl3 17; have y18 := hcl3 18; simp only [Dd.get3, Dd.get5, Dd.get15, Dd.get16, Dd.get17, Dd.get18] at y3 y5 y15 y16 y17 y18; clear hcl3; have C3 := Lib.hid (CH2.out.trans c3); clear c3))
                    go_roundw
                    case rel => exact ⟨k + 1, by omega, by go_num, fun m d' hm hd' => by
                      rcases Nat.lt_succ_iff_lt_or_eq.1 hm with h | rfl
                      · exact NL.out m d' h hd'
                      · rw [HD.out] at hd'; cases hd'; exact LD.out, C3.out⟩
                    case measure => simp [intOf]; omega
              · as_aux_lemma =>
                  have t1 : (d.tag != 2) = false := by simp [htag]
                  have t2 : (d.tag == 2) = true := by simp [htag]
                  have LD := Lib.hid (show lateD own turn d = false from by simp [lateD, htag, hmk])
                  clear htag
                  have hge : d.mark < 0 := by omega
                  clear hmk
                  have tok1 : True := trivial; have tok2 : True := trivial; go_wp2_with (first | (have _t := tok1; refine wpList_load_cells rfl 63 _ rfl b' (off + k * 19) rfl d.arr _ HC.out Try.underlying63 rfl (size63 _ rfl) ?_; clear _t tok1) | (have _t := tok2; refine wpList_box_row rfl 63 _ _ rfl _ d.arr 63 rfl rfl (size63 _ rfl) rfl d.arr_one ?_; intro w3 c3 hlt3 hcl3; clear _t tok2; have y3 := hcl3 3; have y5 := hcl3 5; have y15 := hcl3 15; have y16 := hcl3 16; have y17 := hcl3 17; have y18 := hcl3 18; simp only [Dd.get3, Dd.get5, Dd.get15, Dd.get16, Dd.get17, Dd.get18] at y3 y5 y15 y16 y17 y18; clear hcl3; have C3 := Lib.hid (CH2.out.trans c3); clear c3))
                  go_roundw
                  case rel => exact ⟨k + 1, by omega, by go_num, fun m d' hm hd' => by
                    rcases Nat.lt_succ_iff_lt_or_eq.1 hm with h | rfl
                    · exact NL.out m d' h hd'
                    · rw [HD.out] at hd'; cases hd'; exact LD.out, C3.out⟩
                  case measure => simp [intOf]; omega
            · by_cases hst : own < d.steps
              · as_aux_lemma =>
                  have t1 : (d.tag != 2) = true := by simp [htag]
                  have t2 : (d.tag == 2) = false := by simp [htag]
                  have LD := Lib.hid (show lateD own turn d = true from by simp [lateD, htag, hst])
                  clear htag
                  have tok1 : True := trivial; have tok2 : True := trivial; go_wp2_with (first | (have _t := tok1; refine wpList_load_cells rfl 63 _ rfl b' (off + k * 19) rfl d.arr _ HC.out Try.underlying63 rfl (size63 _ rfl) ?_; clear _t tok1) | (have _t := tok2; refine wpList_box_row rfl 63 _ _ rfl _ d.arr 63 rfl rfl (size63 _ rfl) rfl d.arr_one ?_; intro w3 c3 hlt3 hcl3; clear _t tok2; have y3 := hcl3 3; have y5 := hcl3 5; have y15 := hcl3 15; have y16 := hcl3 16; have y17 := hcl3 17; have y18 := hcl3 18; simp only [Dd.get3, Dd.get5, Dd.get15, Dd.get16, Dd.get17, Dd.get18] at y3 y5 y15 y16 y17 y18; clear hcl3; have C3 := Lib.hid (CH2.out.trans c3); clear c3))
                  go_ret2
                  refine ⟨?_, C3.out⟩
                  rw [F1.out, F2.out, fst_hit (lateD own turn) l 0 k d HD.out LD.out NL.out, Nat.zero_add]
                  rfl
              · as_aux_lemma =>
                  have t1 : (d.tag != 2) = true := by simp [htag]
                  have t2 : (d.tag == 2) = false := by simp [htag]
                  have LD := Lib.hid (show lateD own turn d = false from by simp [lateD, htag, hst])
                  clear htag
                  have hge : d.steps ≤ own := by omega
                  clear hst
                  have tok1 : True := trivial; have tok2 : True := trivial; go_wp2_with (first | (have _t := tok1; refine wpList_load_cells rfl 63 _ rfl b' (off + k * 19) rfl d.arr _ HC.out Try.underlying63 rfl (size63 _ rfl) ?_; clear _t tok1) | (have _t := tok2; refine wpList_box_row rfl 63 _ _ rfl _ d.arr 63 rfl rfl (size63 _ rfl) rfl d.arr_one ?_; intro w3 c3 hlt3 hcl3; clear _t tok2; have y3 := hcl3 3; have y5 := hcl3 5; have y15 := hcl3 15; have y16 := hcl3 16; have y17 := hcl3 17; have y18 := hcl3 18; simp only [Dd.get3, Dd.get5, Dd.get15, Dd.get16, Dd.get17, Dd.get18] at y3 y5 y15 y16 y17 y18; clear hcl3; have C3 := Lib.hid (CH2.out.trans c3); clear c3))
                  go_roundw
                  case rel => exact ⟨k + 1, by omega, by go_num, fun m d' hm hd' => by
                    rcases Nat.lt_succ_iff_lt_or_eq.1 hm with h | rfl
                    · exact NL.out m d' h hd'
                    · rw [HD.out] at hd'; cases hd'; exact LD.out, C3.out⟩
                  case measure => simp [intOf]; omega
          · have hkk : k = l.length := by omega
            subst hkk
            have FN := Lib.hid (fst_none (lateD own turn) l 0 fun d hd => by
              obtain ⟨j, hj, rfl⟩ := List.mem_iff_getElem.1 hd
              exact NL.out j _ hj (List.getElem?_eq_getElem hj))
            have CH2 := Lib.hid hchg
            clear hchg CH
            go_wp2
            go_ret2
            exact ⟨by rw [F1.out, F2.out, FN.out]; rfl, CH2.out⟩
  · have E1 := Lib.hid (show lateI c t f r l = 0 from if_neg hc)
    have E2 := Lib.hid (show lateE c t f r l = 1 from if_neg hc)
    have E3 := Lib.hid (show errB c t f r = 1 from if_neg hc)
    have E4 := Lib.hid (show readB c t f r = 0 from if_neg hc)
    clear hc
    go_enter Try.func23, Try.ntmps23
    go_wp2_with fail
    refine (rreader_any _ c t f r).mono ?_; rintro e w1 ⟨rfl, c1⟩
    have C1 := Lib.hid (((Chg.refl [] w).alloc _).trans c1)
    rw [E3.out, E4.out]
    clear c1
    go_wp2
    go_ret2
    exact ⟨by rw [E1.out, E2.out]; rfl, C1.out⟩

end Go.Proofs.Ytldhlkkclmifmaa
