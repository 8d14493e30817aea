import Derived.Test.YtphaeodcomgffaaGreatVV
import Derived.Test.YtphaeodcomgffaaGreatLG
import Derived.Test.YtphaeodcomgffaaGreatWE
import Derived.BigQuiet
set_option linter.unusedVariables false
set_option linter.unusedSimpArgs false
namespace Go.Proofs.YtphaeodcomgffaaGreat
open Go.RowKit

/-! WriterHides: the walk. -/
def cntS (n : Int) : Int := if n < 0 then 0 else if 3000 < n then 3000 else n
theorem cntS_b (n : Int) : 0 ≤ cntS n ∧ cntS n ≤ 3000 := by unfold cntS; split <;> (try split) <;> omega
set_option maxRecDepth 100000 in
theorem count5_walk (n : Int) (w : World) : Calls Tryz.prog 42 #[.int .i64 n] w fun e w' => e = .returned (.int .i64 (cntS n)) ∧ w' = w := by
  unfold cntS
  by_cases h1 : n < 0
  · rw [if_pos h1]
    go_enter Tryz.func42, Tryz.ntmps42
    go_wp2
    go_ret
    exact ⟨rfl, rfl⟩
  · rw [if_neg h1]
    by_cases h2 : 3000 < n
    · rw [if_pos h2]
      go_enter Tryz.func42, Tryz.ntmps42
      go_wp2
      go_ret
      exact ⟨rfl, rfl⟩
    · rw [if_neg h2]
      go_enter Tryz.func42, Tryz.ntmps42
      go_wp2
      go_ret
      exact ⟨rfl, rfl⟩
theorem deed_end (u0 u1 u2 u3 u4 u5 u6 u7 u8 u9 u10 u11 u12 u13 u14 u15 u16 u17 u18 : Value) (W : World) : (Instr.field 63 (.agg #[u0, u1, u2, u3, u4, u5, u6, u7, u8, u9, u10, u11, u12, u13, u14, u15, u16, u17, u18]) 10).run Tryz.prog W = .ok (.agg #[u10, u11, u12]) W := by kernel_rfl
theorem deed_number (u0 u1 u2 u3 u4 u5 u6 u7 u8 u9 u10 u11 u12 u13 u14 u15 u16 u17 u18 : Value) (W : World) : (Instr.field 63 (.agg #[u0, u1, u2, u3, u4, u5, u6, u7, u8, u9, u10, u11, u12, u13, u14, u15, u16, u17, u18]) 6).run Tryz.prog W = .ok u6 W := by kernel_rfl
theorem wrunP_val {f : Nat} {av : Array Value} {W : World} {ro : Nat → Nat} {r rm : Nat} {w : World} {X : Nat} {C : Cfg} {tag : Int} {code : List Ins} {args : List Nat} {s : Wr} {MB : Nat} {v : Value} {words : List Nat} {op : Bool} {cnt : Int} {val val' : Value}
    (h : Calls Tryz.prog f av W (WrP ro r rm w X C tag code args s MB v words op cnt val)) (e : val' = val) : Calls Tryz.prog f av W (WrP ro r rm w X C tag code args s MB v words op cnt val') := by subst e; exact h
set_option maxRecDepth 100000 in
set_option maxHeartbeats 16000000 in
theorem whides_all (W : World) (x : Ride) (vc va vw vp : Value) (ns : Int) (hin : RideIn W x vc va vw vp) : Calls Tryz.prog 8 #[x.v5 vc va vw vp ns] W fun e W' => e = .returned (.bool true) ∧ Below W.heap.size W W' := by
  obtain ⟨a1, n1, c1, rfl⟩ : ∃ a n c, va = .slice a n c := by obtain ⟨a, c, e⟩ := hin.args.slice; exact ⟨_, _, _, e⟩
  obtain ⟨a2, n2, c2, rfl⟩ : ∃ a n c, vc = .slice a n c := by obtain ⟨a, c, e⟩ := hin.code.slice; exact ⟨_, _, _, e⟩
  obtain ⟨a3, n3, c3, rfl⟩ : ∃ a n c, vw = .slice a n c := by obtain ⟨a, c, e⟩ := hin.words.slice; exact ⟨_, _, _, e⟩
  obtain ⟨a4, n4, c4, rfl⟩ : ∃ a n c, vp = .slice a n c := by obtain ⟨a, c, e⟩ := hin.pokes.slice; exact ⟨_, _, _, e⟩
  have LW := fun w => wlive_walk w
  have HIN := Lib.hid hin
  by_cases hok : rOk x.C x.args.length x.th
  · have BW := fun w (c : Chg [] W w) => begun5_ok w x _ _ _ _ ns (⟨hin.cells, hin.threads, hin.fuel, hin.writes, hin.th, hin.tag, hin.code.keep0 c, hin.codeX, hin.codeL, hin.args.keep0 c, hin.argsX, hin.argsL, hin.words.keep0 c, hin.wordsX, hin.wordsL, hin.pokes.keep0 c, hin.pokesX, hin.pokesL⟩ : RideIn w x _ _ _ _) hok
    unfold Begun5P at BW
    unfold Ride.v5 at BW ⊢
    simp only [ptr] at BW
    have HBW := Lib.hid BW
    have hlw : x.words.length ≤ 9223372036854775807 := by have := hin.wordsL; omega
    have LA := fun ro w (c : Chg [] W w) => laid5_any ro 45 60 (by decide) (by decide) x.C _ x.words w hok.1 (by decide) (hin.words.keep0 c) hin.wordsX hlw
    unfold LaidP cfgV at LA
    simp only [ptr] at LA
    have HLA := Lib.hid LA
    have HOK := Lib.hid hok
    obtain ⟨hC, h8, t0, t1⟩ := hok
    obtain ⟨C1', C2', C3', C4', C5', C6', C7', C8'⟩ := id hC
    have HC := Lib.hid hC
    have NWF : Wwf x.C x.code (newWr (badS x.tag x.code) x.args) := new_wwf HC.out (fun hb => by
      have hb' : ¬ (checkS x.tag x.code != 0) = true := by have : (checkS x.tag x.code != 0) = false := hb; rw [this]; decide
      unfold checkS at hb'
      split at hb'
      · rename_i ho; exact ⟨ho.2.2.2, ho.2.2.1, HIN.out.codeX⟩
      · exact absurd (by decide) hb') HIN.out.argsX
    have HNW := Lib.hid NWF
    have HCV := Lib.hid (rfl : cfgV x.C = cfgV x.C)
    clear BW hin LA hC NWF
    go_enter Tryz.func8, Tryz.ntmps8
    go_wp2_with (first
      | (go_at_call 34; refine (LW _).mono ?_; rintro e w2 ⟨rfl, ro2, m2⟩; have q2 : Chg [] W w2 := ((Chg.refl [] W).alloc _).trans m2.chg; have hr := (m2.block _ (by simp) (by simp)).trans (heap_alloc_new _ _); have hc2 := fun o => cell_of_row w2 _ o _ _ _ hr; have X2 := Lib.hid (show Blk (fun _ => 0) 0 w2 W.heap.size (rideC5 x _ _ _ _ ns) 85 from ⟨hr, rfl⟩); have Q2 := Lib.hid q2; clear m2 q2 hr)
      | (go_at_call 35; refine (HBW.out _ Q2.out).mono ?_; rintro e w3 ⟨X, B, ro3, q, M, vd, p, rfl, r3, d3, m3⟩; have R3 := Lib.hid r3; have D3 := Lib.hid d3; have M3 := Lib.hid m3; have x3 := X2.out.keep m3 (by simp); have hc3 := x3.cell; unfold rideC5 at hc3; have X3 := Lib.hid x3; clear r3 d3 m3 x3 hc2)
      | (go_at_call 39; (refine (HLA.out ro3 _ (Q2.out.trans M3.out.chg)).mono ?_; rintro e w4 ⟨MB, WB, v, v2, ro4, words, rfl, hwl, hwf, q4, d4, m4⟩; have R4 := Lib.hid (R3.out.keep m4 (by simp)); have db4 := D3.out.blk.keep m4 (by simp); have hd4 := db4.cell; unfold dwcells at hd4; have D4 := Lib.hid db4; have X4 := Lib.hid (X3.out.keep m4 (by simp)); have Q4 := Lib.hid q4; have W4 := Lib.hid d4; have M4 := Lib.hid (M3.out.trans m4); have HWF := Lib.hid hwf; have hws3 : 3 ≤ words.length := (by omega); have hws4 : words.length ≤ 4096 := (by omega); clear q4 d4 m4 hc3 db4 hwf))
      | (go_at_call 40; refine (served_walk (3 + x.C.threads) (3 + x.C.threads + 3 * x.C.cells) Q4.out W4.out (by decide) hws3 hws4).mono ?_; rintro e w5 ⟨rfl, ro5, q5, d5, m5⟩; have R5 := Lib.hid (R4.out.keep m5 (by simp)); have D5 := Lib.hid (D4.out.keep m5 (by simp)); have x5 := X4.out.keep m5 (by simp); have hc5 := x5.cell; unfold rideC5 at hc5; have X5 := Lib.hid x5; have Q5 := Lib.hid q5; have M5 := Lib.hid (((M4.out.mono (R' := [46, 61]) (by simp)).trans m5).fresh (by intro y hy j hj; simp at hy; show (0 : Nat) ≠ y; omega)); clear q5 d5 m5 hd4 x5)
      | (go_at_call 41; refine (mall_walk 80 Q5.out (by rw [served_len]; omega) (by rw [served_len]; exact hws4)).mono ?_; rintro e w6 ⟨vl, ro6, rfl, oa, m6⟩; have R6 := Lib.hid (R5.out.keep m6 (by simp)); have D6 := Lib.hid (D5.out.keep m6 (by simp)); have X6 := Lib.hid (X5.out.keep m6 (by simp)); have Q6 := Lib.hid (Q5.out.keep m6 (by simp) (by simp)); have OA := Lib.hid oa; have M6 := Lib.hid (M5.out.trans m6); clear oa m6 hc5))
    have SV := Lib.hid (served_sv hws3)
    have hw0f := served_fit HWF.out
    have hw0l := served_len words
    generalize servedS words = w0 at *
    have G0 := Lib.hid (new_gh x.C (badS x.tag x.code) x.args w0)
    obtain ⟨N, hN⟩ : ∃ N, N = cntS ns := ⟨_, rfl⟩
    have CW := fun w => count5_walk ns w
    rw [← hN] at CW
    have hN0 : 0 ≤ N ∧ N ≤ 3000 := by rw [hN]; exact cntS_b ns
    obtain ⟨hN1, hN2⟩ := hN0
    clear hN
    rw [← hw0l] at hwl hws3 hws4
    have HWL := Lib.hid hwl
    have hwc : x.C.threads + 3 < w0.length := by omega
    clear hwl
    clear Q5 R5 D5 X5 R4 D4 X4 Q4 W4 M4 M5 R3 D3 M3 X3 X2 HWF hw0l HBW HLA LW
    obtain ⟨gw, cw, rfl, -, -, -⟩ := OA.out.pos (by omega)
    go_loopw [9] (fun i wr => ∃ (k : Nat) (s : Wr) (ro' : Nat → Nat) (q' : Wp) (ws : List Nat) (op : Bool) (cnt : Int), i = .int .i64 k ∧ WIs ro' 10 wr X x.C x.tag x.code x.args s q' ∧ Wwf x.C x.code s ∧ s.part ≤ 8 ∧ s.steps = k ∧ MemIs ro' 45 wr MB v ws op cnt ∧ ws.length = w0.length ∧ (∀ y ∈ ws, y < 18446744073709551616) ∧ 0 ≤ cnt ∧ cnt ≤ k ∧ Gh x.C w0 s ws ∧ Wfit s ∧ OwnL cU ro' 80 wr 40 1 (.slice (some ⟨gw, 0, none⟩) w0.length cw) w0 ∧ Blk ro' 58 wr B (dwcells x.C x.tag M vd) 91 ∧ Blk ro' 0 wr W.heap.size (rideC5 x (.slice a2 n2 c2) (.slice a1 n1 c1) (.slice a3 n3 c3) (.slice a4 n4 c4) ns) 85 ∧ Mv (fun _ => 0) [] w2 ro' wr ∧ k ≤ 3000) (fun i _ => 3001 - (intOf i).toNat)
    case atStart => exact ⟨0, _, ro6, q, w0, false, 0, rfl, R6.out, HNW.out, by show (1 : Int) ≤ 8; decide, rfl, Q6.out, rfl, hw0f, by decide, by decide, G0.out, new_wfit _ _, OA.out, D6.out, X6.out, M6.out, by omega⟩
    case round =>
      clear R6 D6 X6 Q6 M6 OA HNW G0
      obtain ⟨k, s, ro', q', ws, op, cnt, rfl, r, wf, hp, hst, qm, hln, hfit, c0, c1, gh, wff, owas, db, xb, hmv, hk3⟩ := hrel
      have hc := xb.cell
      unfold rideC5 at hc
      by_cases hkN : (k : Int) < N
      · have hWF := step_wwf (tag := x.tag) HC.out wf hp hfit
        have hGH := step_gh (tag := x.tag) HC.out wf hp SV.out hln.symm (by omega) gh
        have hSL := wstep_len (C := x.C) (tag := x.tag) (code := x.code) (words := ws) (s := s)
        have hSF := step_wfit (C := x.C) (tag := x.tag) (code := x.code) wf wff hfit
        have hSS := wstep_steps (C := x.C) (tag := x.tag) (code := x.code) (words := ws) wf
        have c2 := step_cnt (cnt := cnt) (b := (s.step x.C x.tag x.code ws).2.2)
        have STW := fun bb (hbb : ((s.step x.C x.tag x.code ws).1.part == 9) = bb) W6 (hr : WIs ro' 10 W6 X x.C x.tag x.code x.args s q') (hq : MemIs ro' 45 W6 MB v ws op cnt) => wrunP_val (writerstep_walk HC.out hr hq (by decide) (by rw [hln]; exact HWL.out) c0 (by omega) (by omega) wf hp) (show Value.tuple #[.bool bb, .int .i64 0] = _ by rw [hbb])
        unfold WrP at STW
        simp only [ptr] at STW
        have RDW := fun ro7 q7 w7 (h : WIs ro7 10 w7 X x.C x.tag x.code x.args (s.step x.C x.tag x.code ws).1 q7) => wdeed_walk 70 h hWF.part1 hWF.part9 h8 (by have := hWF.wf.reads; have := hWF.wf.used1; omega) (by have := hWF.wf.writesL; omega) (by have := hWF.wf.out; have := hWF.wf.used1; omega)
        unfold WDeedP deedW at RDW
        simp only [ptr] at RDW
        generalize hST : s.step x.C x.tag x.code ws = st at *
        generalize hcn : (if st.2.2 then cnt + 1 else cnt) = cnt7 at *
        obtain ⟨c2a, c2b⟩ := c2
        have hk1 : st.1.steps = (k : Int) + 1 := by rw [hSS, hst]
        have hl7 : st.2.1.length = w0.length := hSL.trans hln
        have p1 := hWF.part1
        have p9 := hWF.part9
        have HR := Lib.hid r
        have HQ := Lib.hid qm
        have HDB := Lib.hid db
        have HXB := Lib.hid xb
        have HMV := Lib.hid hmv
        have HOW := Lib.hid owas
        have HRD := Lib.hid RDW
        have HWF := Lib.hid hWF
        have HGH := Lib.hid hGH
        have HSF := Lib.hid hSF
        have HK1 := Lib.hid hk1
        have HL7 := Lib.hid hl7
        clear hl7 RDW hWF hGH hSF hSS hSL hST hcn hst r wf hp qm db xb hmv owas gh wff hfit hk1
        by_cases hov : st.1.part = 9
        · have HST := Lib.hid (STW true (by simpa using hov))
          clear STW
          by_cases hh : st.1.m.how = 1
          · as_aux_lemma =>
              have h5' : 5 < st.1.part := by omega
              have fl10 := deed_end
              have flh := end_how
              have RD9 := HRD.out
              simp only [if_pos hov] at RD9
              rw [hh] at RD9
              have HRD9 := Lib.hid RD9
              clear RD9
              go_wp2_with (first
                        | (go_at_call 42; refine (CW _).mono ?_; rintro e w5 ⟨rfl, rfl⟩)
                        | (go_at_call 36; refine (HST.out _ HR.out HQ.out).mono ?_; rintro e w8 ⟨rfl, ro8, q8, r8, n8, m8⟩; have R8 := Lib.hid r8; have N8 := Lib.hid n8; have M8 := Lib.hid m8; clear r8 n8 m8)
                        | (go_at_call 41; refine (mall_walk 81 N8.out (by rw [HL7.out]; omega) (by rw [HL7.out]; omega)).mono ?_; rintro e w9 ⟨vn, ro9, rfl, on, m9⟩; obtain ⟨gn, cn, rfl, -, -, -⟩ := on.pos (by rw [HL7.out]; omega); have M9 := Lib.hid (M8.out.trans (m9.mono (by simp))); have N9 := Lib.hid (N8.out.keep m9 (by simp) (by simp)); have ON := Lib.hid on; have OW9 := Lib.hid ((HOW.out.keep M8.out (by simp [wR])).keep m9 (by simp)); have FW9 := Lib.hid (wphase_walk (R8.out.keep m9 (by simp))); have R9 := Lib.hid (R8.out.keep m9 (by simp)); have DB9 := Lib.hid ((HDB.out.keep M8.out (by simp [wR])).keep m9 (by simp)); have XB9 := Lib.hid ((HXB.out.keep M8.out (by simp [wR])).keep m9 (by simp)); clear on m9)
                        | (go_at_call 37; refine FW9.out.mono ?_; rintro e w10 ⟨rfl, e10⟩; obtain rfl := e10.symm)
                        | (go_at_call 38; refine (HRD9.out _ _ _ R9.out).mono ?_; rintro e w10 ⟨ro10, va10, vr10, vw10, vo10, rfl, o1, o2, o3, o4, m10⟩; clear o1 o2 o3 o4; replace ON := Lib.hid (ON.out.keep m10 (by simp)); replace OW9 := Lib.hid (OW9.out.keep m10 (by simp)); replace DB9 := Lib.hid (DB9.out.keep m10 (by simp)); replace R9 := Lib.hid (R9.out.keep m10 (by simp)); replace N9 := Lib.hid (N9.out.keep m10 (by simp) (by simp)); replace XB9 := Lib.hid (XB9.out.keep m10 (by simp)); replace M9 := Lib.hid (M9.out.trans (m10.mono (by simp))); clear m10))
              have hcmp := Lib.hid (show ∀ k : Nat, k < w0.length → True from fun _ _ => trivial)
              rw [HL7.out]
              go_loopw [89] (fun j wr => ∃ k2 : Nat, j = .int .i64 k2 ∧ k2 ≤ w0.length ∧ ∃ nq, wr = w10.drewN nq) (fun j _ => w0.length - (intOf j).toNat)
              case atStart => exact ⟨0, rfl, Nat.zero_le _, 0, rfl⟩
              case round =>
                obtain ⟨k2, rfl, hk2, nq, rfl⟩ := hrel
                by_cases hlt2 : k2 < w0.length
                · have hlt2' : (k2 : Int) < w0.length := by omega
                  have hx := ON.out.at1 cU_len (i := k2) (by rw [HL7.out]; omega)
                  have hy := OW9.out.at1 cU_len (i := k2) hlt2
                  have hd := DB9.out.cell
                  unfold dwcells at hd
                  simp only [cU, List.getElem?_cons_zero] at hx hy
                  rw [show st.2.1[k2]'(by rw [HL7.out]; omega) = st.2.1.getD k2 0 by rw [List.getD_eq_getElem?_getD, List.getElem?_eq_getElem (by rw [HL7.out]; omega)]; rfl] at hx
                  rw [show w0[k2] = w0.getD k2 0 by rw [List.getD_eq_getElem?_getD, List.getElem?_eq_getElem hlt2]; rfl] at hy
                  have HA := Lib.hid (hcmp.out k2 hlt2)
                  generalize st.2.1.getD k2 0 = xa at *
                  generalize w0.getD k2 0 = xb at *

                  by_cases hz : k2 = 0
                  · subst hz
                    go_wp2
                    go_quiet (fail)
                    go_wp2
                    go_roundw
                    case rel => exact ⟨0 + 1, by go_num, hlt2, _, by first | rfl | simp only [World.drewN_drewN]⟩
                    case measure => simp [intOf]; omega

                  · have hz' : ((k2 : Int) != 0) = true := by simp; omega
                    by_cases hab : xb = xa
                    · subst hab
                      go_wp2
                      go_quiet (fail)
                      go_wp2
                      go_roundw
                      case rel => exact ⟨k2 + 1, by go_num, hlt2, _, by first | rfl | simp only [World.drewN_drewN]⟩
                      case measure => simp [intOf]; omega

                    · have hab' : ((xa : Int) != xb) = true := by simp; omega
                      go_wp2
                      go_quiet (fail)
                      go_wp2
                      go_roundw
                      case rel => exact ⟨k2 + 1, by go_num, hlt2, _, by first | rfl | simp only [World.drewN_drewN]⟩
                      case measure => simp [intOf]; omega

                · obtain rfl : k2 = w0.length := by omega
                  have hl0 : 0 < w0.length := by omega
                  have hl1 : 1 < w0.length := by omega
                  have hi1 : (1 : Int) < w0.length := by omega
                  have hx0 := ON.out.at1 cU_len (i := 0) (by rw [HL7.out]; omega)
                  have hy0 := OW9.out.at1 cU_len (i := 0) (by omega)
                  have hx1 := ON.out.at1 cU_len (i := 1) (by rw [HL7.out]; omega)
                  have hy1 := OW9.out.at1 cU_len (i := 1) (by omega)
                  have hd := DB9.out.cell
                  unfold dwcells at hd
                  simp only [cU, List.getElem?_cons_zero] at hx0 hy0 hx1 hy1
                  have g7 : ∀ j (hj : j < st.2.1.length), st.2.1[j] = st.2.1.getD j 0 := fun j hj => by rw [List.getD_eq_getElem?_getD, List.getElem?_eq_getElem hj]; rfl
                  have g0 : ∀ j (hj : j < w0.length), w0[j] = w0.getD j 0 := fun j hj => by rw [List.getD_eq_getElem?_getD, List.getElem?_eq_getElem hj]; rfl
                  obtain ⟨en0, en1⟩ := HGH.out.ends9 HC.out HWF.out (by omega) hov
                  have sv := SV.out.serving
                  have sn := SV.out.next
                  rw [g7, en0] at hx0
                  rw [g7, en1] at hx1
                  rw [g0] at hy0
                  rw [g0, sv] at hy1
                  generalize w0.getD 0 0 = b0 at *
                  have hwb : IntKind.u64.wrap ((b0 : Int) + 1) = (b0 : Int) + 1 := IntWalk.u64_in _ (by omega)
                  simp only [Int.natCast_add, Int.cast_ofNat_Int] at hx0 hx1
                  clear g7 g0 en0 en1 sv sn
                  go_wp2
                  go_quiet (fail)
                  go_wp2
                  go_ret
                  have mm := ((HMV.out.mono (R' := 45 :: (45 + 1) :: wR 10) (by simp)).trans M9.out).fresh (by intro y hy j hj; simp [wR] at hy; show (0 : Nat) ≠ y; omega)
                  exact ⟨rfl, below_of_chg (Q2.out.trans ((mm.drewN _).drewN _).chg)⟩


          · as_aux_lemma =>
              have h5' : 5 < st.1.part := by omega
              have fl10 := deed_end
              have flh := end_how
              have hh' : (st.1.m.how == 1) = false := by simpa using hh
              have HH := Lib.hid (fun k (hk : k ≠ 0) (hk1 : k ≠ 1) => HGH.out.hides9 hov hh hk hk1)
              have RD9 := HRD.out
              simp only [if_pos hov] at RD9
              have HRD9 := Lib.hid RD9
              clear RD9
              go_wp2_with (first
                        | (go_at_call 42; refine (CW _).mono ?_; rintro e w5 ⟨rfl, rfl⟩)
                        | (go_at_call 36; refine (HST.out _ HR.out HQ.out).mono ?_; rintro e w8 ⟨rfl, ro8, q8, r8, n8, m8⟩; have R8 := Lib.hid r8; have N8 := Lib.hid n8; have M8 := Lib.hid m8; clear r8 n8 m8)
                        | (go_at_call 41; refine (mall_walk 81 N8.out (by rw [HL7.out]; omega) (by rw [HL7.out]; omega)).mono ?_; rintro e w9 ⟨vn, ro9, rfl, on, m9⟩; obtain ⟨gn, cn, rfl, -, -, -⟩ := on.pos (by rw [HL7.out]; omega); have M9 := Lib.hid (M8.out.trans (m9.mono (by simp))); have N9 := Lib.hid (N8.out.keep m9 (by simp) (by simp)); have ON := Lib.hid on; have OW9 := Lib.hid ((HOW.out.keep M8.out (by simp [wR])).keep m9 (by simp)); have FW9 := Lib.hid (wphase_walk (R8.out.keep m9 (by simp))); have R9 := Lib.hid (R8.out.keep m9 (by simp)); have DB9 := Lib.hid ((HDB.out.keep M8.out (by simp [wR])).keep m9 (by simp)); have XB9 := Lib.hid ((HXB.out.keep M8.out (by simp [wR])).keep m9 (by simp)); clear on m9)
                        | (go_at_call 37; refine FW9.out.mono ?_; rintro e w10 ⟨rfl, e10⟩; obtain rfl := e10.symm)
                        | (go_at_call 38; refine (HRD9.out _ _ _ R9.out).mono ?_; rintro e w10 ⟨ro10, va10, vr10, vw10, vo10, rfl, o1, o2, o3, o4, m10⟩; clear o1 o2 o3 o4; replace ON := Lib.hid (ON.out.keep m10 (by simp)); replace OW9 := Lib.hid (OW9.out.keep m10 (by simp)); replace DB9 := Lib.hid (DB9.out.keep m10 (by simp)); replace R9 := Lib.hid (R9.out.keep m10 (by simp)); replace N9 := Lib.hid (N9.out.keep m10 (by simp) (by simp)); replace XB9 := Lib.hid (XB9.out.keep m10 (by simp)); replace M9 := Lib.hid (M9.out.trans (m10.mono (by simp))); clear m10))
              have hcmp := Lib.hid (show ∀ k : Nat, k < w0.length → k = 0 ∨ k = 1 ∨ w0.getD k 0 = st.2.1.getD k 0 from fun k _ => by
                by_cases e : k = 0
                · exact .inl e
                · by_cases e1 : k = 1
                  · exact .inr (.inl e1)
                  · exact .inr (.inr (HH.out k e e1).symm))
              rw [HL7.out]
              go_loopw [89] (fun j wr => ∃ k2 : Nat, j = .int .i64 k2 ∧ k2 ≤ w0.length ∧ ∃ nq, wr = w10.drewN nq) (fun j _ => w0.length - (intOf j).toNat)
              case atStart => exact ⟨0, rfl, Nat.zero_le _, 0, rfl⟩
              case round =>
                obtain ⟨k2, rfl, hk2, nq, rfl⟩ := hrel
                by_cases hlt2 : k2 < w0.length
                · have hlt2' : (k2 : Int) < w0.length := by omega
                  have hx := ON.out.at1 cU_len (i := k2) (by rw [HL7.out]; omega)
                  have hy := OW9.out.at1 cU_len (i := k2) hlt2
                  have hd := DB9.out.cell
                  unfold dwcells at hd
                  simp only [cU, List.getElem?_cons_zero] at hx hy
                  rw [show st.2.1[k2]'(by rw [HL7.out]; omega) = st.2.1.getD k2 0 by rw [List.getD_eq_getElem?_getD, List.getElem?_eq_getElem (by rw [HL7.out]; omega)]; rfl] at hx
                  rw [show w0[k2] = w0.getD k2 0 by rw [List.getD_eq_getElem?_getD, List.getElem?_eq_getElem hlt2]; rfl] at hy
                  have HA := Lib.hid (hcmp.out k2 hlt2)
                  generalize st.2.1.getD k2 0 = xa at *
                  generalize w0.getD k2 0 = xb at *

                  by_cases hz : k2 = 0
                  · subst hz
                    go_wp2
                    go_quiet (fail)
                    go_wp2
                    go_roundw
                    case rel => exact ⟨0 + 1, by go_num, hlt2, _, by first | rfl | simp only [World.drewN_drewN]⟩
                    case measure => simp [intOf]; omega

                  · have hz' : ((k2 : Int) != 0) = true := by simp; omega
                    by_cases hab : xb = xa
                    · subst hab
                      go_wp2
                      go_quiet (fail)
                      go_wp2
                      go_roundw
                      case rel => exact ⟨k2 + 1, by go_num, hlt2, _, by first | rfl | simp only [World.drewN_drewN]⟩
                      case measure => simp [intOf]; omega

                    · have hab' : ((xa : Int) != xb) = true := by simp; omega
                      obtain rfl : k2 = 1 := by rcases HA.out with h | h | h; exact absurd h hz; exact h; exact absurd h hab
                      go_wp2
                      go_quiet (fail)
                      go_wp2
                      go_roundw
                      case rel => exact ⟨1 + 1, by go_num, hlt2, _, by first | rfl | simp only [World.drewN_drewN]⟩
                      case measure => simp [intOf]; omega

                · obtain rfl : k2 = w0.length := by omega
                  have hl0 : 0 < w0.length := by omega
                  have hl1 : 1 < w0.length := by omega
                  have hi1 : (1 : Int) < w0.length := by omega
                  have hx0 := ON.out.at1 cU_len (i := 0) (by rw [HL7.out]; omega)
                  have hy0 := OW9.out.at1 cU_len (i := 0) (by omega)
                  have hx1 := ON.out.at1 cU_len (i := 1) (by rw [HL7.out]; omega)
                  have hy1 := OW9.out.at1 cU_len (i := 1) (by omega)
                  have hd := DB9.out.cell
                  unfold dwcells at hd
                  simp only [cU, List.getElem?_cons_zero] at hx0 hy0 hx1 hy1
                  have g7 : ∀ j (hj : j < st.2.1.length), st.2.1[j] = st.2.1.getD j 0 := fun j hj => by rw [List.getD_eq_getElem?_getD, List.getElem?_eq_getElem hj]; rfl
                  have g0 : ∀ j (hj : j < w0.length), w0[j] = w0.getD j 0 := fun j hj => by rw [List.getD_eq_getElem?_getD, List.getElem?_eq_getElem hj]; rfl
                  obtain ⟨en0, en1⟩ := HGH.out.ends9 HC.out HWF.out (by omega) hov
                  have sv := SV.out.serving
                  have sn := SV.out.next
                  rw [g7, en0] at hx0
                  rw [g7, en1] at hx1
                  rw [g0] at hy0
                  rw [g0, sv] at hy1
                  generalize w0.getD 0 0 = b0 at *
                  have hwb : IntKind.u64.wrap ((b0 : Int) + 1) = (b0 : Int) + 1 := IntWalk.u64_in _ (by omega)
                  simp only [Int.natCast_add, Int.cast_ofNat_Int] at hx0 hx1
                  clear g7 g0 en0 en1 sv sn
                  go_wp2
                  go_quiet (fail)
                  go_wp2
                  go_ret
                  have mm := ((HMV.out.mono (R' := 45 :: (45 + 1) :: wR 10) (by simp)).trans M9.out).fresh (by intro y hy j hj; simp [wR] at hy; show (0 : Nat) ≠ y; omega)
                  exact ⟨rfl, below_of_chg (Q2.out.trans ((mm.drewN _).drewN _).chg)⟩


        · have HST := Lib.hid (STW false (by simpa using hov))
          clear STW
          by_cases h5 : st.1.part ≤ 5
          · as_aux_lemma =>
              have h5' : ¬ 5 < st.1.part := by omega
              have h8' : ¬ st.1.part = 8 := by omega
              have HH := Lib.hid (fun k (hk : k ≠ 0) => HGH.out.hides p1 h5 hk)
              go_wp2_with (first
                        | (go_at_call 42; refine (CW _).mono ?_; rintro e w5 ⟨rfl, rfl⟩)
                        | (go_at_call 36; refine (HST.out _ HR.out HQ.out).mono ?_; rintro e w8 ⟨rfl, ro8, q8, r8, n8, m8⟩; have R8 := Lib.hid r8; have N8 := Lib.hid n8; have M8 := Lib.hid m8; clear r8 n8 m8)
                        | (go_at_call 41; refine (mall_walk 81 N8.out (by rw [HL7.out]; omega) (by rw [HL7.out]; omega)).mono ?_; rintro e w9 ⟨vn, ro9, rfl, on, m9⟩; obtain ⟨gn, cn, rfl, -, -, -⟩ := on.pos (by rw [HL7.out]; omega); have M9 := Lib.hid (M8.out.trans (m9.mono (by simp))); have N9 := Lib.hid (N8.out.keep m9 (by simp) (by simp)); have ON := Lib.hid on; have OW9 := Lib.hid ((HOW.out.keep M8.out (by simp [wR])).keep m9 (by simp)); have FW9 := Lib.hid (wphase_walk (R8.out.keep m9 (by simp))); have R9 := Lib.hid (R8.out.keep m9 (by simp)); have DB9 := Lib.hid ((HDB.out.keep M8.out (by simp [wR])).keep m9 (by simp)); have XB9 := Lib.hid ((HXB.out.keep M8.out (by simp [wR])).keep m9 (by simp)); clear on m9)
                        | (go_at_call 37; refine FW9.out.mono ?_; rintro e w10 ⟨rfl, e10⟩; obtain rfl := e10.symm))
              have hcmp := Lib.hid (show ∀ k : Nat, k < w0.length → k = 0 ∨ w0.getD k 0 = st.2.1.getD k 0 from fun k _ => by
                by_cases e : k = 0
                · exact .inl e
                · exact .inr (HH.out k e).symm)
              rw [HL7.out]
              go_loopw [89] (fun j wr => ∃ k2 : Nat, j = .int .i64 k2 ∧ k2 ≤ w0.length ∧ ∃ nq, wr = w9.drewN nq) (fun j _ => w0.length - (intOf j).toNat)
              case atStart => exact ⟨0, rfl, Nat.zero_le _, 0, rfl⟩
              case round =>
                obtain ⟨k2, rfl, hk2, nq, rfl⟩ := hrel
                by_cases hlt2 : k2 < w0.length
                · have hlt2' : (k2 : Int) < w0.length := by omega
                  have hx := ON.out.at1 cU_len (i := k2) (by rw [HL7.out]; omega)
                  have hy := OW9.out.at1 cU_len (i := k2) hlt2
                  have hd := DB9.out.cell
                  unfold dwcells at hd
                  simp only [cU, List.getElem?_cons_zero] at hx hy
                  rw [show st.2.1[k2]'(by rw [HL7.out]; omega) = st.2.1.getD k2 0 by rw [List.getD_eq_getElem?_getD, List.getElem?_eq_getElem (by rw [HL7.out]; omega)]; rfl] at hx
                  rw [show w0[k2] = w0.getD k2 0 by rw [List.getD_eq_getElem?_getD, List.getElem?_eq_getElem hlt2]; rfl] at hy
                  have HA := Lib.hid (hcmp.out k2 hlt2)
                  generalize st.2.1.getD k2 0 = xa at *
                  generalize w0.getD k2 0 = xb at *

                  by_cases hz : k2 = 0
                  · subst hz
                    go_wp2
                    go_quiet (fail)
                    go_wp2
                    go_roundw
                    case rel => exact ⟨0 + 1, by go_num, hlt2, _, by first | rfl | simp only [World.drewN_drewN]⟩
                    case measure => simp [intOf]; omega

                  · have hz' : ((k2 : Int) != 0) = true := by simp; omega
                    have hab : xb = xa := by rcases HA.out with h | h; exact absurd h hz; exact h
                    subst hab
                    go_wp2
                    go_quiet (fail)
                    go_wp2
                    go_roundw
                    case rel => exact ⟨k2 + 1, by go_num, hlt2, _, by first | rfl | simp only [World.drewN_drewN]⟩
                    case measure => simp [intOf]; omega

                · obtain rfl : k2 = w0.length := by omega
                  have FW10 := wphase_walk (R9.out.keep ((Mv.refl _ [] _).drewN nq) (by simp))
                  go_wp2_with ((go_at_call 37; refine FW10.mono ?_; rintro e w11 ⟨rfl, e11⟩; obtain rfl := e11.symm))
                  go_roundw
                  case rel =>
                    have mm := (((HMV.out.mono (R' := 45 :: (45 + 1) :: wR 10) (by simp)).trans M9.out).fresh (by intro y hy j hj; simp [wR] at hy; show (0 : Nat) ≠ y; omega)).drewN nq
                    have kp : Mv ro9 [] w9 ro9 (w9.drewN nq) := (Mv.refl _ _ _).drewN _
                    exact ⟨k + 1, st.1, ro9, q8, st.2.1, _, cnt7, by go_num, R9.out.keep kp (by simp), HWF.out, by have := HWF.out.part9; omega, by rw [HK1.out]; simp, N9.out.keep kp (by simp) (by simp), HL7.out, HSF.out.2, by omega, by omega, HGH.out, HSF.out.1, OW9.out.keep kp (by simp), DB9.out.keep kp (by simp), XB9.out.keep kp (by simp), mm, by omega⟩
                  case measure => simp [intOf]; omega


          · by_cases h8 : st.1.part = 8
            · as_aux_lemma =>
                have h5' : 5 < st.1.part := by omega
                have RD9 := HRD.out
                simp only [if_neg hov] at RD9
                have HRD9 := Lib.hid RD9
                clear RD9
                go_wp2_with (first
                          | (go_at_call 42; refine (CW _).mono ?_; rintro e w5 ⟨rfl, rfl⟩)
                          | (go_at_call 36; refine (HST.out _ HR.out HQ.out).mono ?_; rintro e w8 ⟨rfl, ro8, q8, r8, n8, m8⟩; have R8 := Lib.hid r8; have N8 := Lib.hid n8; have M8 := Lib.hid m8; clear r8 n8 m8)
                          | (go_at_call 41; refine (mall_walk 81 N8.out (by rw [HL7.out]; omega) (by rw [HL7.out]; omega)).mono ?_; rintro e w9 ⟨vn, ro9, rfl, on, m9⟩; obtain ⟨gn, cn, rfl, -, -, -⟩ := on.pos (by rw [HL7.out]; omega); have M9 := Lib.hid (M8.out.trans (m9.mono (by simp))); have N9 := Lib.hid (N8.out.keep m9 (by simp) (by simp)); have ON := Lib.hid on; have OW9 := Lib.hid ((HOW.out.keep M8.out (by simp [wR])).keep m9 (by simp)); have FW9 := Lib.hid (wphase_walk (R8.out.keep m9 (by simp))); have R9 := Lib.hid (R8.out.keep m9 (by simp)); have DB9 := Lib.hid ((HDB.out.keep M8.out (by simp [wR])).keep m9 (by simp)); have XB9 := Lib.hid ((HXB.out.keep M8.out (by simp [wR])).keep m9 (by simp)); clear on m9)
                          | (go_at_call 37; refine FW9.out.mono ?_; rintro e w10 ⟨rfl, e10⟩; obtain rfl := e10.symm))
                have hcmp := Lib.hid (show ∀ k : Nat, k < w0.length → True from fun _ _ => trivial)
                rw [HL7.out]
                go_loopw [89] (fun j wr => ∃ k2 : Nat, j = .int .i64 k2 ∧ k2 ≤ w0.length ∧ ∃ nq, wr = w9.drewN nq) (fun j _ => w0.length - (intOf j).toNat)
                case atStart => exact ⟨0, rfl, Nat.zero_le _, 0, rfl⟩
                case round =>
                  obtain ⟨k2, rfl, hk2, nq, rfl⟩ := hrel
                  by_cases hlt2 : k2 < w0.length
                  · have hlt2' : (k2 : Int) < w0.length := by omega
                    have hx := ON.out.at1 cU_len (i := k2) (by rw [HL7.out]; omega)
                    have hy := OW9.out.at1 cU_len (i := k2) hlt2
                    have hd := DB9.out.cell
                    unfold dwcells at hd
                    simp only [cU, List.getElem?_cons_zero] at hx hy
                    rw [show st.2.1[k2]'(by rw [HL7.out]; omega) = st.2.1.getD k2 0 by rw [List.getD_eq_getElem?_getD, List.getElem?_eq_getElem (by rw [HL7.out]; omega)]; rfl] at hx
                    rw [show w0[k2] = w0.getD k2 0 by rw [List.getD_eq_getElem?_getD, List.getElem?_eq_getElem hlt2]; rfl] at hy
                    have HA := Lib.hid (hcmp.out k2 hlt2)
                    generalize st.2.1.getD k2 0 = xa at *
                    generalize w0.getD k2 0 = xb at *

                    by_cases hz : k2 = 0
                    · subst hz
                      go_wp2
                      go_quiet (fail)
                      go_wp2
                      go_roundw
                      case rel => exact ⟨0 + 1, by go_num, hlt2, _, by first | rfl | simp only [World.drewN_drewN]⟩
                      case measure => simp [intOf]; omega

                    · have hz' : ((k2 : Int) != 0) = true := by simp; omega
                      by_cases hab : xb = xa
                      · subst hab
                        go_wp2
                        go_quiet (fail)
                        go_wp2
                        go_roundw
                        case rel => exact ⟨k2 + 1, by go_num, hlt2, _, by first | rfl | simp only [World.drewN_drewN]⟩
                        case measure => simp [intOf]; omega

                      · have hab' : ((xa : Int) != xb) = true := by simp; omega
                        go_wp2
                        go_quiet (fail)
                        go_wp2
                        go_roundw
                        case rel => exact ⟨k2 + 1, by go_num, hlt2, _, by first | rfl | simp only [World.drewN_drewN]⟩
                        case measure => simp [intOf]; omega

                  · obtain rfl : k2 = w0.length := by omega
                    have FW10 := wphase_walk (R9.out.keep ((Mv.refl _ [] _).drewN nq) (by simp))
                    have fl6 := deed_number
                    by_cases hn : st.1.number = 0
                    · rw [hn] at HRD9
                      have HH := Lib.hid (fun k (hk : k ≠ 0) => HGH.out.hides8 h8 hn hk)
                      go_wp2_with (first
                        | (go_at_call 37; refine FW10.mono ?_; rintro e w11 ⟨rfl, e11⟩; obtain rfl := e11.symm)
                        | (go_at_call 38; refine (HRD9.out _ _ _ (R9.out.keep ((Mv.refl _ [] _).drewN nq) (by simp))).mono ?_; rintro e w10 ⟨ro10, va10, vr10, vw10, vo10, rfl, o1, o2, o3, o4, m10⟩; clear o1 o2 o3 o4; replace m10 := ((Mv.refl ro9 [] w9).drewN nq).trans m10; replace ON := Lib.hid (ON.out.keep m10 (by simp)); replace OW9 := Lib.hid (OW9.out.keep m10 (by simp)); replace DB9 := Lib.hid (DB9.out.keep m10 (by simp)); replace R9 := Lib.hid (R9.out.keep m10 (by simp)); replace N9 := Lib.hid (N9.out.keep m10 (by simp) (by simp)); replace XB9 := Lib.hid (XB9.out.keep m10 (by simp)); replace M9 := Lib.hid (M9.out.trans (m10.mono (by simp))); clear m10))
                      have hcmp3 := Lib.hid (show ∀ k : Nat, k < w0.length → k = 0 ∨ w0.getD k 0 = st.2.1.getD k 0 from fun k _ => by
                        by_cases e : k = 0
                        · exact .inl e
                        · exact .inr (HH.out k e).symm)
                      go_loopw [181] (fun j wr => ∃ k2 : Nat, j = .int .i64 k2 ∧ k2 ≤ w0.length ∧ ∃ nq, wr = w10.drewN nq) (fun j _ => w0.length - (intOf j).toNat)
                      case atStart => exact ⟨0, rfl, Nat.zero_le _, 0, rfl⟩
                      case round =>
                        obtain ⟨k2, rfl, hk2, nq, rfl⟩ := hrel
                        by_cases hlt2 : k2 < w0.length
                        · have hlt2' : (k2 : Int) < w0.length := by omega
                          have hx := ON.out.at1 cU_len (i := k2) (by rw [HL7.out]; omega)
                          have hy := OW9.out.at1 cU_len (i := k2) hlt2
                          have hd := DB9.out.cell
                          unfold dwcells at hd
                          simp only [cU, List.getElem?_cons_zero] at hx hy
                          rw [show st.2.1[k2]'(by rw [HL7.out]; omega) = st.2.1.getD k2 0 by rw [List.getD_eq_getElem?_getD, List.getElem?_eq_getElem (by rw [HL7.out]; omega)]; rfl] at hx
                          rw [show w0[k2] = w0.getD k2 0 by rw [List.getD_eq_getElem?_getD, List.getElem?_eq_getElem hlt2]; rfl] at hy
                          have HA := Lib.hid (hcmp3.out k2 hlt2)
                          generalize st.2.1.getD k2 0 = xa at *
                          generalize w0.getD k2 0 = xb at *

                          by_cases hz : k2 = 0
                          · subst hz
                            go_wp2
                            go_quiet (fail)
                            go_wp2
                            go_roundw
                            case rel => exact ⟨0 + 1, by go_num, hlt2, _, by first | rfl | simp only [World.drewN_drewN]⟩
                            case measure => simp [intOf]; omega
                          · have hz' : ((k2 : Int) != 0) = true := by simp; omega
                            have hab : xb = xa := by rcases HA.out with h | h; exact absurd h hz; exact h
                            subst hab
                            go_wp2
                            go_quiet (fail)
                            go_wp2
                            go_roundw
                            case rel => exact ⟨k2 + 1, by go_num, hlt2, _, by first | rfl | simp only [World.drewN_drewN]⟩
                            case measure => simp [intOf]; omega
                        · obtain rfl : k2 = w0.length := by omega
                          go_wp2
                          go_roundw
                          case rel =>
                            have mm := (((HMV.out.mono (R' := 45 :: (45 + 1) :: wR 10) (by simp)).trans M9.out).fresh (by intro y hy j hj; simp [wR] at hy; show (0 : Nat) ≠ y; omega)).drewN nq
                            have kp : Mv ro10 [] w10 ro10 (w10.drewN nq) := (Mv.refl _ _ _).drewN _
                            exact ⟨k + 1, st.1, ro10, q8, st.2.1, _, cnt7, by go_num, R9.out.keep kp (by simp), HWF.out, by have := HWF.out.part9; omega, by rw [HK1.out]; simp, N9.out.keep kp (by simp) (by simp), HL7.out, HSF.out.2, by omega, by omega, HGH.out, HSF.out.1, OW9.out.keep kp (by simp), DB9.out.keep kp (by simp), XB9.out.keep kp (by simp), mm, by omega⟩
                          case measure => simp [intOf]; omega

                    · have hn8 : (st.1.number == 0) = false := by simpa using hn
                      go_wp2_with (first
                        | (go_at_call 37; refine FW10.mono ?_; rintro e w11 ⟨rfl, e11⟩; obtain rfl := e11.symm)
                        | (go_at_call 38; refine (HRD9.out _ _ _ (R9.out.keep ((Mv.refl _ [] _).drewN nq) (by simp))).mono ?_; rintro e w10 ⟨ro10, va10, vr10, vw10, vo10, rfl, o1, o2, o3, o4, m10⟩; clear o1 o2 o3 o4; replace m10 := ((Mv.refl ro9 [] w9).drewN nq).trans m10; replace ON := Lib.hid (ON.out.keep m10 (by simp)); replace OW9 := Lib.hid (OW9.out.keep m10 (by simp)); replace DB9 := Lib.hid (DB9.out.keep m10 (by simp)); replace R9 := Lib.hid (R9.out.keep m10 (by simp)); replace N9 := Lib.hid (N9.out.keep m10 (by simp) (by simp)); replace XB9 := Lib.hid (XB9.out.keep m10 (by simp)); replace M9 := Lib.hid (M9.out.trans (m10.mono (by simp))); clear m10))
                      go_roundw
                      case rel =>
                        have mm := (((HMV.out.mono (R' := 45 :: (45 + 1) :: wR 10) (by simp)).trans M9.out).fresh (by intro y hy j hj; simp [wR] at hy; show (0 : Nat) ≠ y; omega)).drewN 0
                        have kp : Mv ro10 [] w10 ro10 (w10.drewN 0) := (Mv.refl _ _ _).drewN _
                        exact ⟨k + 1, st.1, ro10, q8, st.2.1, _, cnt7, by go_num, R9.out.keep kp (by simp), HWF.out, by have := HWF.out.part9; omega, by rw [HK1.out]; simp, N9.out.keep kp (by simp) (by simp), HL7.out, HSF.out.2, by omega, by omega, HGH.out, HSF.out.1, OW9.out.keep kp (by simp), DB9.out.keep kp (by simp), XB9.out.keep kp (by simp), mm, by omega⟩
                      case measure => simp [intOf]; omega


            · as_aux_lemma =>
                have h5' : 5 < st.1.part := by omega
                have h8' : ¬ st.1.part = 8 := by omega
                go_wp2_with (first
                          | (go_at_call 42; refine (CW _).mono ?_; rintro e w5 ⟨rfl, rfl⟩)
                          | (go_at_call 36; refine (HST.out _ HR.out HQ.out).mono ?_; rintro e w8 ⟨rfl, ro8, q8, r8, n8, m8⟩; have R8 := Lib.hid r8; have N8 := Lib.hid n8; have M8 := Lib.hid m8; clear r8 n8 m8)
                          | (go_at_call 41; refine (mall_walk 81 N8.out (by rw [HL7.out]; omega) (by rw [HL7.out]; omega)).mono ?_; rintro e w9 ⟨vn, ro9, rfl, on, m9⟩; obtain ⟨gn, cn, rfl, -, -, -⟩ := on.pos (by rw [HL7.out]; omega); have M9 := Lib.hid (M8.out.trans (m9.mono (by simp))); have N9 := Lib.hid (N8.out.keep m9 (by simp) (by simp)); have ON := Lib.hid on; have OW9 := Lib.hid ((HOW.out.keep M8.out (by simp [wR])).keep m9 (by simp)); have FW9 := Lib.hid (wphase_walk (R8.out.keep m9 (by simp))); have R9 := Lib.hid (R8.out.keep m9 (by simp)); have DB9 := Lib.hid ((HDB.out.keep M8.out (by simp [wR])).keep m9 (by simp)); have XB9 := Lib.hid ((HXB.out.keep M8.out (by simp [wR])).keep m9 (by simp)); clear on m9)
                          | (go_at_call 37; refine FW9.out.mono ?_; rintro e w10 ⟨rfl, e10⟩; obtain rfl := e10.symm))
                have hcmp := Lib.hid (show ∀ k : Nat, k < w0.length → True from fun _ _ => trivial)
                rw [HL7.out]
                go_loopw [89] (fun j wr => ∃ k2 : Nat, j = .int .i64 k2 ∧ k2 ≤ w0.length ∧ ∃ nq, wr = w9.drewN nq) (fun j _ => w0.length - (intOf j).toNat)
                case atStart => exact ⟨0, rfl, Nat.zero_le _, 0, rfl⟩
                case round =>
                  obtain ⟨k2, rfl, hk2, nq, rfl⟩ := hrel
                  by_cases hlt2 : k2 < w0.length
                  · have hlt2' : (k2 : Int) < w0.length := by omega
                    have hx := ON.out.at1 cU_len (i := k2) (by rw [HL7.out]; omega)
                    have hy := OW9.out.at1 cU_len (i := k2) hlt2
                    have hd := DB9.out.cell
                    unfold dwcells at hd
                    simp only [cU, List.getElem?_cons_zero] at hx hy
                    rw [show st.2.1[k2]'(by rw [HL7.out]; omega) = st.2.1.getD k2 0 by rw [List.getD_eq_getElem?_getD, List.getElem?_eq_getElem (by rw [HL7.out]; omega)]; rfl] at hx
                    rw [show w0[k2] = w0.getD k2 0 by rw [List.getD_eq_getElem?_getD, List.getElem?_eq_getElem hlt2]; rfl] at hy
                    have HA := Lib.hid (hcmp.out k2 hlt2)
                    generalize st.2.1.getD k2 0 = xa at *
                    generalize w0.getD k2 0 = xb at *

                    by_cases hz : k2 = 0
                    · subst hz
                      go_wp2
                      go_quiet (fail)
                      go_wp2
                      go_roundw
                      case rel => exact ⟨0 + 1, by go_num, hlt2, _, by first | rfl | simp only [World.drewN_drewN]⟩
                      case measure => simp [intOf]; omega

                    · have hz' : ((k2 : Int) != 0) = true := by simp; omega
                      by_cases hab : xb = xa
                      · subst hab
                        go_wp2
                        go_quiet (fail)
                        go_wp2
                        go_roundw
                        case rel => exact ⟨k2 + 1, by go_num, hlt2, _, by first | rfl | simp only [World.drewN_drewN]⟩
                        case measure => simp [intOf]; omega

                      · have hab' : ((xa : Int) != xb) = true := by simp; omega
                        go_wp2
                        go_quiet (fail)
                        go_wp2
                        go_roundw
                        case rel => exact ⟨k2 + 1, by go_num, hlt2, _, by first | rfl | simp only [World.drewN_drewN]⟩
                        case measure => simp [intOf]; omega

                  · obtain rfl : k2 = w0.length := by omega
                    have FW10 := wphase_walk (R9.out.keep ((Mv.refl _ [] _).drewN nq) (by simp))
                    go_wp2_with ((go_at_call 37; refine FW10.mono ?_; rintro e w11 ⟨rfl, e11⟩; obtain rfl := e11.symm))
                    go_roundw
                    case rel =>
                      have mm := (((HMV.out.mono (R' := 45 :: (45 + 1) :: wR 10) (by simp)).trans M9.out).fresh (by intro y hy j hj; simp [wR] at hy; show (0 : Nat) ≠ y; omega)).drewN nq
                      have kp : Mv ro9 [] w9 ro9 (w9.drewN nq) := (Mv.refl _ _ _).drewN _
                      exact ⟨k + 1, st.1, ro9, q8, st.2.1, _, cnt7, by go_num, R9.out.keep kp (by simp), HWF.out, by have := HWF.out.part9; omega, by rw [HK1.out]; simp, N9.out.keep kp (by simp) (by simp), HL7.out, HSF.out.2, by omega, by omega, HGH.out, HSF.out.1, OW9.out.keep kp (by simp), DB9.out.keep kp (by simp), XB9.out.keep kp (by simp), mm, by omega⟩
                    case measure => simp [intOf]; omega


      · have hkN' : ¬ (k : Int) < N := hkN
        have HMV := Lib.hid hmv
        clear r wf hp qm db xb hmv owas gh
        go_wp2_with ((go_at_call 42; refine (CW _).mono ?_; rintro e w5 ⟨rfl, rfl⟩))
        go_ret
        exact ⟨rfl, below_of_chg (Q2.out.trans HMV.out.chg)⟩

  · have BN := fun w (c : Chg [] W w) => begun5_none w x _ _ _ _ ns (⟨hin.cells, hin.threads, hin.fuel, hin.writes, hin.th, hin.tag, hin.code.keep0 c, hin.codeX, hin.codeL, hin.args.keep0 c, hin.argsX, hin.argsL, hin.words.keep0 c, hin.wordsX, hin.wordsL, hin.pokes.keep0 c, hin.pokesX, hin.pokesL⟩ : RideIn w x _ _ _ _) hok
    unfold Ride.v5 at BN ⊢
    have HBN := Lib.hid BN
    clear BN hin
    go_enter Tryz.func8, Tryz.ntmps8
    go_wp2_with (first
      | (go_at_call 34; refine (LW _).mono ?_; rintro e w2 ⟨rfl, ro2, m2⟩; have q2 : Chg [] W w2 := ((Chg.refl [] W).alloc _).trans m2.chg; have hr := (m2.block _ (by simp) (by simp)).trans (heap_alloc_new _ _); have hc2 := fun o => cell_of_row w2 _ o _ _ _ hr; have Q2 := Lib.hid q2; clear m2 q2 hr)
      | (go_at_call 35; refine (HBN.out _ Q2.out).mono ?_; rintro e w3 ⟨rfl, ro3, m3⟩; have Q3 := Lib.hid (Q2.out.trans m3.chg); clear m3 hc2))
    go_ret
    exact ⟨rfl, below_of_chg Q3.out⟩
end Go.Proofs.YtphaeodcomgffaaGreat
