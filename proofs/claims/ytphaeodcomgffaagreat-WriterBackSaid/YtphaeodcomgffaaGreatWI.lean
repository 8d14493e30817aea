import Derived.Test.YtphaeodcomgffaaGreatWH
import Derived.BigQuiet
import Derived.StillTailTactics
set_option linter.unusedVariables false
set_option linter.unusedSimpArgs false
namespace Go.Proofs.YtphaeodcomgffaaGreat
open Go.RowKit

/-! WriterBack: the walk. -/
set_option maxRecDepth 100000 in
set_option maxHeartbeats 16000000 in
theorem wback_all (W : World) (x : Ride) (vc va vw vp : Value) (ns : Int) (hin : RideIn W x vc va vw vp) : Calls Tryz.prog 9 #[x.v5 vc va vw vp ns] W fun e W' => e = .returned (.bool true) ∧ Below W.heap.size W W' := by
  obtain ⟨a1, n1, c1, rfl⟩ : ∃ a n c, va = .slice a n c := by obtain ⟨a, c, e⟩ := hin.args.slice; exact ⟨_, _, _, e⟩
  obtain ⟨a2, n2, c2, rfl⟩ : ∃ a n c, vc = .slice a n c := by obtain ⟨a, c, e⟩ := hin.code.slice; exact ⟨_, _, _, e⟩
  obtain ⟨a3, n3, c3, rfl⟩ : ∃ a n c, vw = .slice a n c := by obtain ⟨a, c, e⟩ := hin.words.slice; exact ⟨_, _, _, e⟩
  obtain ⟨a4, n4, c4, rfl⟩ : ∃ a n c, vp = .slice a n c := by obtain ⟨a, c, e⟩ := hin.pokes.slice; exact ⟨_, _, _, e⟩
  have LW := fun w => wlive_walk w
  have HIN := Lib.hid hin
  by_cases hok : rOk x.C x.args.length x.th
  · have BW := fun w (c : Chg [] W w) => begun5_ok w x _ _ _ _ ns (⟨hin.cells, hin.threads, hin.fuel, hin.writes, hin.th, hin.tag, hin.code.keep0 c, hin.codeX, hin.codeL, hin.args.keep0 c, hin.argsX, hin.argsL, hin.words.keep0 c, hin.wordsX, hin.wordsL, hin.pokes.keep0 c, hin.pokesX, hin.pokesL⟩ : RideIn w x _ _ _ _) hok
    unfold Begun5P at BW
    unfold Ride.v5 at BW ⊢
    simp only [ptr] at BW
    have HBW := Lib.hid BW
    have hlw : x.words.length ≤ 9223372036854775807 := by have := hin.wordsL; omega
    have LA := fun ro w (c : Chg [] W w) => laid5_any ro 45 60 (by decide) (by decide) x.C _ x.words w hok.1 (by decide) (hin.words.keep0 c) hin.wordsX hlw
    unfold LaidP cfgV at LA
    simp only [ptr] at LA
    have HLA := Lib.hid LA
    have HOK := Lib.hid hok
    obtain ⟨hC, h8, t0, t1⟩ := hok
    obtain ⟨C1', C2', C3', C4', C5', C6', C7', C8'⟩ := id hC
    have HC := Lib.hid hC
    have NWF : Wwf x.C x.code (newWr (badS x.tag x.code) x.args) := new_wwf HC.out (fun hb => by
      have hb' : ¬ (checkS x.tag x.code != 0) = true := by have : (checkS x.tag x.code != 0) = false := hb; rw [this]; decide
      unfold checkS at hb'
      split at hb'
      · rename_i ho; exact ⟨ho.2.2.2, ho.2.2.1, HIN.out.codeX⟩
      · exact absurd (by decide) hb') HIN.out.argsX
    have HNW := Lib.hid NWF
    have HCV := Lib.hid (rfl : cfgV x.C = cfgV x.C)
    clear BW hin LA hC NWF
    go_enter Tryz.func9, Tryz.ntmps9
    go_wp2_with (first
      | (go_at_call 34; refine (LW _).mono ?_; rintro e w2 ⟨rfl, ro2, m2⟩; have q2 : Chg [] W w2 := ((Chg.refl [] W).alloc _).trans m2.chg; have hr := (m2.block _ (by simp) (by simp)).trans (heap_alloc_new _ _); have hc2 := fun o => cell_of_row w2 _ o _ _ _ hr; have X2 := Lib.hid (show Blk (fun _ => 0) 0 w2 W.heap.size (rideC5 x _ _ _ _ ns) 85 from ⟨hr, rfl⟩); have Q2 := Lib.hid q2; clear m2 q2 hr)
      | (go_at_call 35; refine (HBW.out _ Q2.out).mono ?_; rintro e w3 ⟨X, B, ro3, q, M, vd, p, rfl, r3, d3, m3⟩; have R3 := Lib.hid r3; have D3 := Lib.hid d3; have M3 := Lib.hid m3; have x3 := X2.out.keep m3 (by simp); have hc3 := x3.cell; unfold rideC5 at hc3; have X3 := Lib.hid x3; clear r3 d3 m3 x3 hc2)
      | (go_at_call 39; (refine (HLA.out ro3 _ (Q2.out.trans M3.out.chg)).mono ?_; rintro e w4 ⟨MB, WB, v, v2, ro4, words, rfl, hwl, hwf, q4, d4, m4⟩; have R4 := Lib.hid (R3.out.keep m4 (by simp)); have db4 := D3.out.blk.keep m4 (by simp); have hd4 := db4.cell; unfold dwcells at hd4; have D4 := Lib.hid db4; have X4 := Lib.hid (X3.out.keep m4 (by simp)); have Q4 := Lib.hid q4; have W4 := Lib.hid d4; have M4 := Lib.hid (M3.out.trans m4); have HWF := Lib.hid hwf; have hws3 : 3 ≤ words.length := (by omega); have hws4 : words.length ≤ 4096 := (by omega); clear q4 d4 m4 hc3 db4 hwf))
      | (go_at_call 40; refine (served_walk (3 + x.C.threads) (3 + x.C.threads + 3 * x.C.cells) Q4.out W4.out (by decide) hws3 hws4).mono ?_; rintro e w5 ⟨rfl, ro5, q5, d5, m5⟩; have R5 := Lib.hid (R4.out.keep m5 (by simp)); have D5 := Lib.hid (D4.out.keep m5 (by simp)); have x5 := X4.out.keep m5 (by simp); have hc5 := x5.cell; unfold rideC5 at hc5; have X5 := Lib.hid x5; have Q5 := Lib.hid q5; have M5 := Lib.hid (((M4.out.mono (R' := [46, 61]) (by simp)).trans m5).fresh (by intro y hy j hj; simp at hy; show (0 : Nat) ≠ y; omega)); clear q5 d5 m5 hd4 x5))
    have SV0 := served_sv hws3
    have hw0f := served_fit HWF.out
    have hw0l := served_len words
    generalize servedS words = w0 at *
    rw [← hw0l] at hwl hws3 hws4
    have HWL := Lib.hid hwl
    have hwc : x.C.threads + 3 < w0.length := by omega
    obtain ⟨tn, htn⟩ : ∃ tn : Nat, (tn : Int) = x.C.threads := ⟨x.C.threads.toNat, by omega⟩
    have hwt : 3 + tn ≤ w0.length := by omega
    have HTN := Lib.hid htn
    have SVZ := Lib.hid (zeroC_sv SV0 tn)
    have ZF := Lib.hid (zeroC_fit hw0f tn)
    have ZL := Lib.hid (zeroC_len w0)
    have ZZ := Lib.hid (fun (t : Nat) (ht : (t : Int) < x.C.threads) => zeroC_at w0 (t := t) tn (by omega) hwt)
    have G0 := Lib.hid (new_gh x.C (badS x.tag x.code) x.args (zeroC w0 tn))
    clear hwl hw0l HWF Q4 W4 M4 R4 D4 X4 R3 D3 M3 X3 X2 HBW HLA LW htn hw0f SV0
    go_loopw [8] (fun t wr => ∃ t2 : Nat, t = .int .i64 t2 ∧ t2 ≤ tn ∧ MemIs ro5 45 wr MB v (zeroC w0 t2) false 0 ∧ Mv ro5 [46] w5 ro5 wr) (fun t _ => tn - (intOf t).toNat)
    case atStart => exact ⟨0, rfl, Nat.zero_le _, Q5.out, Mv.refl _ _ _⟩
    case round =>
      obtain ⟨t2, rfl, ht2, qm, mv5⟩ := hrel
      have hc := (X5.out.keep mv5 (by simp)).cell
      unfold rideC5 at hc
      have hd := (D5.out.keep mv5 (by simp)).cell
      unfold dwcells at hd
      by_cases hlt2 : t2 < tn
      · have hlt3 : (t2 : Int) < x.C.threads := by rw [← HTN.out]; omega
        obtain ⟨A, hA⟩ : ∃ A : Nat, A = 3 + t2 := ⟨_, rfl⟩
        have hA' : 3 + (t2 : Int) = A := by omega
        have KW := Lib.hid (poke_ok qm (3 + t2) 0 (by rw [ZL.out]; omega))
        rw [← hA] at KW
        have HAA := Lib.hid hA
        have HM := Lib.hid mv5
        clear qm mv5 hA
        go_wp2_with ((go_at_call 43; refine KW.out.mono ?_; rintro e w6 ⟨rfl, q6, m6⟩; have Q6 := Lib.hid q6; have M6 := Lib.hid m6; clear q6 m6))
        go_roundw
        case rel => exact ⟨t2 + 1, by go_num, hlt2, (by show MemIs _ _ _ _ _ ((zeroC w0 t2).set (3 + t2) 0) _ _; rw [← HAA.out]; exact Q6.out), HM.out.trans M6.out⟩
        case measure => simp [intOf]; omega
      · obtain rfl : t2 = tn := by omega
        have hlt3 : ¬ (t2 : Int) < x.C.threads := by rw [← HTN.out]; omega
        have QM := Lib.hid qm
        have M5' := Lib.hid ((M5.out.mono (R' := [46]) (by simp)).trans mv5)
        replace R5 := Lib.hid (R5.out.keep mv5 (by simp))
        replace D5 := Lib.hid (D5.out.keep mv5 (by simp))
        replace X5 := Lib.hid (X5.out.keep mv5 (by simp))
        clear qm mv5 Q5
        go_wp2_with ((go_at_call 41; refine (mall_walk 80 QM.out (by rw [ZL.out]; omega) (by rw [ZL.out]; omega)).mono ?_; rintro e w6 ⟨vl, ro6, rfl, oa, m6⟩; obtain ⟨gw, cw, rfl, -, -, -⟩ := oa.pos (by rw [ZL.out]; omega); have R6 := Lib.hid (R5.out.keep m6 (by simp)); have D6 := Lib.hid (D5.out.keep m6 (by simp)); have X6 := Lib.hid (X5.out.keep m6 (by simp)); have Q6 := Lib.hid (QM.out.keep m6 (by simp) (by simp)); have OA := Lib.hid oa; have M6 := Lib.hid ((M5'.out.trans (m6.mono (by simp))).fresh (by intro y hy j hj; simp at hy; show (0 : Nat) ≠ y; omega)); clear oa m6 hc hd R5 D5 X5 QM M5'))
        have HL1 := Lib.hid (ZL.out t2)
        have ZF1 := Lib.hid (ZF.out)
        have OA2 := OA.out
        rw [HL1.out] at OA2
        have OA3 := Lib.hid OA2
        rw [HL1.out]
        clear OA OA2 ZL ZF
        generalize zeroC w0 t2 = w1 at *
        obtain ⟨nc, hnc⟩ : ∃ nc : Nat, (nc : Int) = x.C.cells := ⟨x.C.cells.toNat, by omega⟩
        have hw3 : w0.length = 3 + t2 + 3 * nc := by have := HWL.out; have := HTN.out; omega
        have HNC := Lib.hid hnc
        have HW3 := Lib.hid hw3
        clear hnc hw3 hlt3
        go_loopw [10] (fun i wr => ∃ (k : Nat) (s : Wr) (ro' : Nat → Nat) (q' : Wp) (ws : List Nat) (op : Bool) (cnt : Int), i = .int .i64 k ∧ WIs ro' 10 wr X x.C x.tag x.code x.args s q' ∧ Wwf x.C x.code s ∧ s.part ≤ 8 ∧ s.steps = k ∧ MemIs ro' 45 wr MB v ws op cnt ∧ ws.length = w0.length ∧ (∀ y ∈ ws, y < 18446744073709551616) ∧ 0 ≤ cnt ∧ cnt ≤ k ∧ Gh x.C w1 s ws ∧ Wfit s ∧ s.left x.C + k ≤ x.C.fuel + x.C.threads + 3 * x.C.writes + 6 ∧ OwnL cU ro' 80 wr 40 1 (.slice (some ⟨gw, 0, none⟩) w0.length cw) w1 ∧ Blk ro' 58 wr B (dwcells x.C x.tag M vd) 91 ∧ Blk ro' 0 wr W.heap.size (rideC5 x (.slice a2 n2 c2) (.slice a1 n1 c1) (.slice a3 n3 c3) (.slice a4 n4 c4) ns) 85 ∧ Mv (fun _ => 0) [] w2 ro' wr) (fun i _ => 4001 - (intOf i).toNat)
        case atStart => exact ⟨0, _, ro6, q, w1, false, 0, rfl, R6.out, HNW.out, by show (1 : Int) ≤ 8; decide, rfl, Q6.out, HL1.out, ZF1.out, by decide, by decide, G0.out, new_wfit _ _, by rw [new_wleft]; simp, OA3.out, D6.out, X6.out, M6.out⟩
        case round =>
          clear R6 D6 X6 Q6 M6 OA3 HNW G0
          obtain ⟨k, s, ro', q', ws, op, cnt, rfl, r, wf, hp, hst, qm, hln, hfit, c0, c1, gh, wff, hlf, owas, db, xb, hmv⟩ := hrel
          have hc := xb.cell
          unfold rideC5 at hc
          have hlp := wleft_pos wf HC.out hp
          have hkB : (k : Int) < x.C.fuel + x.C.threads + 3 * x.C.writes + 8 := by omega
          have hk3 : k < 3000 := by omega
          have hWF := step_wwf (tag := x.tag) HC.out wf hp hfit
          have hGH := step_gh (tag := x.tag) HC.out wf hp SVZ.out (HL1.out.trans hln.symm) (by rw [HL1.out]; omega) gh
          have hSL := wstep_len (C := x.C) (tag := x.tag) (code := x.code) (words := ws) (s := s)
          have hSF := step_wfit (C := x.C) (tag := x.tag) (code := x.code) wf wff hfit
          have hSS := wstep_steps (C := x.C) (tag := x.tag) (code := x.code) (words := ws) wf
          have c2 := step_cnt (cnt := cnt) (b := (s.step x.C x.tag x.code ws).2.2)
          have STW := fun bb (hbb : ((s.step x.C x.tag x.code ws).1.part == 9) = bb) W6 (hr : WIs ro' 10 W6 X x.C x.tag x.code x.args s q') (hq : MemIs ro' 45 W6 MB v ws op cnt) => bk_runP (writerstep_walk HC.out hr hq (by decide) (by rw [hln]; exact HWL.out) c0 (by omega) (by omega) wf hp) (show Value.tuple #[.bool bb, .int .i64 0] = _ by rw [hbb])
          unfold WrP at STW
          simp only [ptr] at STW
          have RDW := fun ro7 q7 w7 (h : WIs ro7 10 w7 X x.C x.tag x.code x.args (s.step x.C x.tag x.code ws).1 q7) => wdeed_walk 70 h hWF.part1 hWF.part9 h8 (by have := hWF.wf.reads; have := hWF.wf.used1; omega) (by have := hWF.wf.writesL; omega) (by have := hWF.wf.out; have := hWF.wf.used1; omega)
          unfold WDeedP at RDW
          simp only [ptr] at RDW
          have hleft := gh_left (tag := x.tag) HC.out wf hp SVZ.out ZZ.out gh
          have HLF := Lib.hid hleft
          clear hleft
          generalize hST : s.step x.C x.tag x.code ws = st at *
          generalize hcn : (if st.2.2 then cnt + 1 else cnt) = cnt7 at *
          obtain ⟨c2a, c2b⟩ := c2
          have hk1 : st.1.steps = (k : Int) + 1 := by rw [hSS, hst]
          have hl7 : st.2.1.length = w0.length := hSL.trans hln
          have p1 := hWF.part1
          have p9 := hWF.part9
          have HR := Lib.hid r
          have HQ := Lib.hid qm
          have HDB := Lib.hid db
          have HXB := Lib.hid xb
          have HMV := Lib.hid hmv
          have HOW := Lib.hid owas
          have HRD := Lib.hid RDW
          have HWF := Lib.hid hWF
          have HGH := Lib.hid hGH
          have HSF := Lib.hid hSF
          have HK1 := Lib.hid hk1
          have HL7 := Lib.hid hl7
          clear hl7 RDW hWF hGH hSF hSS hSL hST hcn hst r wf hp qm db xb hmv owas gh wff hfit hk1

          by_cases hov : st.1.part = 9
          · have HST := Lib.hid (STW true (by simpa using hov))
            clear STW
            have RD9 := HRD.out
            simp only [if_pos hov] at RD9
            have HRD9 := Lib.hid RD9
            clear RD9
            by_cases hh : st.1.m.how = 1
            · as_aux_lemma =>
                have hhb : (st.1.m.how != 1) = false := by simp [hh]
                have hmk : ∀ u : World, (Instr.makeSlice 98 (.int .i64 x.C.cells) (.int .i64 x.C.cells)).run Tryz.prog u = .ok (.slice (some ⟨u.heap.size, 0, none⟩) nc nc) (u.alloc (.cells (madeCells #[.bool false] nc) 4)) := fun u => by
                  have hn := HNC.out
                  obtain ⟨i, hi, hz, hs, hb⟩ := info_three infoB
                  have := run_makeSlice (P := Tryz.prog) u 98 4 i (.bool false) underB hi hz .i64 .i64 nc nc (by omega) (Int.le_refl _) (by rw [hs]; omega) (by rw [hb]; omega) (by omega)
                  rw [hs, Nat.mul_one] at this
                  rw [← hn]
                  exact this
                have BK := HGH.out.back9 HC.out HWF.out (by rw [HL1.out]; exact HWL.out) hov hh
                have hl2 : 2 < w0.length := by omega
                have hi2 : (2 : Int) < w0.length := by omega
                obtain ⟨b2, hb2⟩ : ∃ b2, b2 = w1.getD 2 0 := ⟨_, rfl⟩
                have hb2l : b2 < 1099511627776 := by rw [hb2]; exact SVZ.out.stamp
                rw [← hb2] at BK
                have HBK := Lib.hid BK
                have HB2 := Lib.hid hb2
                clear hb2
                have HH := Lib.hid hh
                clear BK hh
                go_wp2_with (first
                  | (go_at_call 36; refine (HST.out _ HR.out HQ.out).mono ?_; rintro e w8 ⟨rfl, ro8, q8, r8, n8, m8⟩; have R8 := Lib.hid r8; have N8 := Lib.hid n8; have M8 := Lib.hid m8; clear r8 n8 m8)
                  | (go_at_call 38; refine (HRD9.out _ _ _ R8.out).mono ?_; rintro e w10 ⟨ro10, va10, vr10, vw10, vo10, rfl, o1, o2, o3, o4, m10⟩; obtain ⟨za1, zc1, e1⟩ := o1.form; rw [List.length_map] at e1; subst e1; obtain ⟨za2, zc2, rfl⟩ := o2.form; obtain ⟨za3, zc3, rfl⟩ := o3.form; obtain ⟨za4, zc4, rfl⟩ := o4.form; have HALL := Lib.hid (show (deedW x.tag st.1.mark st.1.number st.1.steps st.1.m.how st.1.m.ecode st.1.m.err (.slice za1 x.args.length zc1) (.slice za2 st.1.m.reads.length zc2) (.slice za3 st.1.m.writes.length zc3) (.slice za4 st.1.m.out.length zc4)).all (·.oneCell') = true by simp [deedW, Value.oneCell']); have O3 := Lib.hid o3; have M10 := Lib.hid m10; clear o1 o2 o3 o4 m10)
                  | (refine wpList_plain rfl (fun K hK => ?_)
                     go_simp
                     refine hK _ _ ?_
                     refine wpList_store_row rfl 63 (.tmp 13) (.tmp 105) rfl _ (deedW x.tag st.1.mark st.1.number st.1.steps st.1.m.how st.1.m.ecode st.1.m.err (.slice za1 x.args.length zc1) (.slice za2 st.1.m.reads.length zc2) (.slice za3 st.1.m.writes.length zc3) (.slice za4 st.1.m.out.length zc4)) rfl rfl 63 _ (heap_alloc_new _ _) (by kernel_rfl) rfl HALL.out ?_
                     have D11 : Blk (setRo ro10 w10.heap.size 79) 79 ((w10.alloc (.cells #[.int .i64 0, .int .i64 0, .int .i64 0, .int .i64 0, .slice none 0 0, .int .i64 0, .int .i64 0, .slice none 0 0, .slice none 0 0, .slice none 0 0, .int .i64 0, .int .i64 0, .int .i64 0, .int .i64 0, .int .i64 0, .int .i64 0, .int .i64 0, .int .i64 0, .int .i64 0] 63)).setRow w10.heap.size (deedW x.tag st.1.mark st.1.number st.1.steps st.1.m.how st.1.m.ecode st.1.m.err (.slice za1 x.args.length zc1) (.slice za2 st.1.m.reads.length zc2) (.slice za3 st.1.m.writes.length zc3) (.slice za4 st.1.m.out.length zc4))) w10.heap.size (deedW x.tag st.1.mark st.1.number st.1.steps st.1.m.how st.1.m.ecode st.1.m.err (.slice za1 x.args.length zc1) (.slice za2 st.1.m.reads.length zc2) (.slice za3 st.1.m.writes.length zc3) (.slice za4 st.1.m.out.length zc4)) 63 := (Blk.new ro10 79 w10 #[.int .i64 0, .int .i64 0, .int .i64 0, .int .i64 0, .slice none 0 0, .int .i64 0, .int .i64 0, .slice none 0 0, .slice none 0 0, .slice none 0 0, .int .i64 0, .int .i64 0, .int .i64 0, .int .i64 0, .int .i64 0, .int .i64 0, .int .i64 0, .int .i64 0, .int .i64 0] 63).setRow
                     have N11 : Mv ro10 [] w10 (setRo ro10 w10.heap.size 79) ((w10.alloc (.cells #[.int .i64 0, .int .i64 0, .int .i64 0, .int .i64 0, .slice none 0 0, .int .i64 0, .int .i64 0, .slice none 0 0, .slice none 0 0, .slice none 0 0, .int .i64 0, .int .i64 0, .int .i64 0, .int .i64 0, .int .i64 0, .int .i64 0, .int .i64 0, .int .i64 0, .int .i64 0] 63)).setRow w10.heap.size (deedW x.tag st.1.mark st.1.number st.1.steps st.1.m.how st.1.m.ecode st.1.m.err (.slice za1 x.args.length zc1) (.slice za2 st.1.m.reads.length zc2) (.slice za3 st.1.m.writes.length zc3) (.slice za4 st.1.m.out.length zc4))) := (((Mv.refl ro10 [] w10).alloc (.cells #[.int .i64 0, .int .i64 0, .int .i64 0, .int .i64 0, .slice none 0 0, .int .i64 0, .int .i64 0, .slice none 0 0, .slice none 0 0, .slice none 0 0, .int .i64 0, .int .i64 0, .int .i64 0, .int .i64 0, .int .i64 0, .int .i64 0, .int .i64 0, .int .i64 0, .int .i64 0] 63)).give (r := 79) (Nat.le_refl _)).setRowNew (Nat.le_refl _) _
                     generalize (w10.alloc (.cells #[.int .i64 0, .int .i64 0, .int .i64 0, .int .i64 0, .slice none 0 0, .int .i64 0, .int .i64 0, .slice none 0 0, .slice none 0 0, .slice none 0 0, .int .i64 0, .int .i64 0, .int .i64 0, .int .i64 0, .int .i64 0, .int .i64 0, .int .i64 0, .int .i64 0, .int .i64 0] 63)).setRow w10.heap.size (deedW x.tag st.1.mark st.1.number st.1.steps st.1.m.how st.1.m.ecode st.1.m.err (.slice za1 x.args.length zc1) (.slice za2 st.1.m.reads.length zc2) (.slice za3 st.1.m.writes.length zc3) (.slice za4 st.1.m.out.length zc4)) = w11 at *
                     generalize setRo ro10 w10.heap.size 79 = ro11 at *
                     generalize w10.heap.size = DBK at *
                     have HD11 := Lib.hid D11
                     have M11 := Lib.hid (M8.out.trans ((M10.out.trans N11).mono (by simp)))
                     have O11 := Lib.hid (O3.out.keep N11 (by simp))
                     have Q11 := Lib.hid ((N8.out.keep M10.out (by simp) (by simp)).keep N11 (by simp) (by simp))
                     have OW11 := Lib.hid (((HOW.out.keep M8.out (by simp [wR])).keep M10.out (by simp)).keep N11 (by simp))
                     have db11 := ((HDB.out.keep M8.out (by simp [wR])).keep M10.out (by simp)).keep N11 (by simp)
                     have hd := db11.cell
                     unfold dwcells at hd
                     have DB11 := Lib.hid db11
                     have xb11 := ((HXB.out.keep M8.out (by simp [wR])).keep M10.out (by simp)).keep N11 (by simp)
                     have hcx := xb11.cell
                     unfold rideC5 at hcx
                     have XB11 := Lib.hid xb11
                     have hD := D11.cell
                     unfold deedW at hD
                     clear D11 N11 db11 xb11)
                  | (go_at_call 41; refine (mall_walk 82 Q11.out (by rw [HL7.out]; omega) (by rw [HL7.out]; omega)).mono ?_; rintro e w12 ⟨vn, ro12, rfl, on, m12⟩; obtain ⟨gn, cn, rfl, -, -, -⟩ := on.pos (by rw [HL7.out]; omega); have M12 := Lib.hid (M11.out.trans (m12.mono (by simp))); have ow12 := OW11.out.keep m12 (by simp); have hy2 := ow12.at1 cU_len (i := 2) (by rw [HL1.out]; omega); simp only [cU, List.getElem?_cons_zero] at hy2; rw [show w1[2]'(by rw [HL1.out]; omega) = w1.getD 2 0 by rw [List.getD_eq_getElem?_getD, List.getElem?_eq_getElem (by rw [HL1.out]; omega)]; rfl, ← HB2.out] at hy2; have OW12 := Lib.hid ow12; have ON12 := Lib.hid on; have db12 := DB11.out.keep m12 (by simp); replace hd := db12.cell; unfold dwcells at hd; have DB12 := Lib.hid db12; have xb12 := XB11.out.keep m12 (by simp); replace hcx := xb12.cell; unfold rideC5 at hcx; have XB12 := Lib.hid xb12; have hd12 := HD11.out.keep m12 (by simp); replace hD := hd12.cell; unfold deedW at hD; have hltD := hd12.lt; have HD12 := Lib.hid hd12; have O12 := Lib.hid (O11.out.keep m12 (by simp)); clear on ow12 db12 xb12 hd12 m12)
                  | fail)
                rw [HL7.out]
                have BZ := OwnL.zerosB ro12 83 w12 nc (by unfold maxLen; have := HNC.out; omega)
                have m13 : Mv ro12 [] w12 (setRo ro12 w12.heap.size 83) (w12.alloc (.cells (madeCells #[.bool false] nc) 4)) := ((Mv.refl ro12 [] w12).alloc _).give (Nat.le_refl _)
                have M13 := Lib.hid (((HMV.out.mono (R' := 45 :: (45 + 1) :: wR 10) (by simp)).trans (M12.out.trans (m13.mono (by simp)))).fresh (by intro y hy j hj; simp [wR] at hy; show (0 : Nat) ≠ y; omega))
                have OW13 := Lib.hid (OW12.out.keep m13 (by simp))
                have ON13 := Lib.hid (ON12.out.keep m13 (by simp))
                have DB13 := Lib.hid (DB12.out.keep m13 (by simp))
                have XB13 := Lib.hid (XB12.out.keep m13 (by simp))
                have HD13 := Lib.hid (HD12.out.keep m13 (by simp))
                have O13 := Lib.hid (O12.out.keep m13 (by simp))
                have BZ13 := Lib.hid BZ
                clear BZ m13 hd hcx hD hy2 hc
                generalize w12.alloc (.cells (madeCells #[.bool false] nc) 4) = w13 at *
                generalize setRo ro12 w12.heap.size 83 = ro13 at *
                generalize w12.heap.size = GB at *
                have hnl : (st.1.m.writes.length : Int) ≤ 32 := by have := HWF.out.wf.writesL; omega
                have WD := Lib.hid (fun (k2 : Nat) (h : k2 < st.1.m.writes.length) => HWF.out.wf.writes _ (List.getElem_mem h))
                go_loopw [133] (fun j wr => ∃ (k2 : Nat) (ro2' : Nat → Nat), j = .int .i64 k2 ∧ k2 ≤ st.1.m.writes.length ∧ OwnL cBo ro2' 83 wr 4 1 (.slice (some ⟨GB, 0, none⟩) nc nc) (marks nc (st.1.m.writes.take k2)) ∧ OwnL cU ro2' 82 wr 40 1 (.slice (some ⟨gn, 0, none⟩) w0.length cn) st.2.1 ∧ OwnL cU ro2' 80 wr 40 1 (.slice (some ⟨gw, 0, none⟩) w0.length cw) w1 ∧ OwnL cT ro2' 72 wr 76 2 (.slice za3 st.1.m.writes.length zc3) st.1.m.writes ∧ Blk ro2' 58 wr B (dwcells x.C x.tag M vd) 91 ∧ Blk ro2' 0 wr W.heap.size (rideC5 x (.slice a2 n2 c2) (.slice a1 n1 _) (.slice a3 n3 c3) (.slice a4 n4 c4) ns) 85 ∧ Blk ro2' 79 wr DBK (deedW x.tag st.1.mark st.1.number st.1.steps st.1.m.how st.1.m.ecode st.1.m.err (.slice za1 x.args.length zc1) (.slice za2 st.1.m.reads.length zc2) (.slice za3 st.1.m.writes.length zc3) (.slice za4 st.1.m.out.length zc4)) 63 ∧ Mv (fun _ => 0) [] w2 ro2' wr) (fun j _ => st.1.m.writes.length - (intOf j).toNat)
                case atStart => exact ⟨0, ro13, rfl, Nat.zero_le _, (by rw [List.take_zero, marks_nil]; exact BZ13.out), (by have := ON13.out; rw [HL7.out] at this; exact this), OW13.out, O13.out, DB13.out, XB13.out, HD13.out, M13.out⟩
                case round =>
                  clear OW13 ON13 DB13 XB13 HD13 O13 BZ13 M13
                  obtain ⟨k2, ro2', rfl, hk2, bo, on, ow, ot, db, xb, hdb, hmv2⟩ := hrel
                  by_cases hlt2 : k2 < st.1.m.writes.length
                  · have hlt2' : (k2 : Int) < st.1.m.writes.length := by omega
                    obtain ⟨wc0, wc1⟩ := WD.out k2 hlt2
                    obtain ⟨bk1, bk2, bk3, bk4⟩ := HBK.out
                    obtain ⟨e0, e1, e2⟩ := bk3 _ (List.getElem_mem hlt2)
                    obtain ⟨gt, ct, er, hgt, -, -⟩ := ot.pos (by omega)
                    simp only [Value.slice.injEq] at er
                    obtain ⟨rfl, -, rfl⟩ := er
                    have hr0 := ot.at cT_len (i := k2) (j := 0) hlt2 (by decide)
                    have hr1 := ot.at cT_len (i := k2) (j := 1) hlt2 (by decide)
                    simp only [cT, List.getElem?_cons_zero, List.getElem?_cons_succ, Nat.add_zero] at hr0 hr1
                    have hnd := nodup_take HGH.out.nodup hlt2
                    have htk : st.1.m.writes.take (k2 + 1) = st.1.m.writes.take k2 ++ [st.1.m.writes[k2]] := by rw [List.take_add_one, List.getElem?_eq_getElem hlt2]; rfl
                    obtain ⟨c, hcn⟩ : ∃ c : Nat, (c : Int) = (st.1.m.writes[k2]).1 := ⟨(st.1.m.writes[k2]).1.toNat, by omega⟩
                    have hcl : c < nc := by have := HNC.out; omega
                    have hb0 := bo.at1 cBo_len (i := c) (by rw [marks_len]; exact hcl)
                    simp only [cBo, List.getElem?_cons_zero] at hb0
                    rw [marks_at, hcn, decide_eq_false hnd] at hb0
                    obtain ⟨A, hA⟩ : ∃ A : Nat, (A : Int) = 3 + x.C.threads + 3 * c := ⟨(3 + x.C.threads + 3 * c).toNat, by omega⟩
                    have hw3 := HW3.out
                    have htn3 := HTN.out
                    have hA2 : A + 2 < w0.length := by omega
                    have ca0 : x.C.cellAt (st.1.m.writes[k2]).1 0 = A := by unfold Cfg.cellAt; omega
                    have ca1 : x.C.cellAt (st.1.m.writes[k2]).1 1 = A + 1 := by unfold Cfg.cellAt; omega
                    have ca2 : x.C.cellAt (st.1.m.writes[k2]).1 2 = A + 2 := by unfold Cfg.cellAt; omega
                    rw [ca0] at e0
                    rw [ca1] at e1
                    rw [ca2] at e2
                    unfold wasOf at e2
                    rw [ca1] at e2
                    have hx0 := on.at1 cU_len (i := A) (by rw [HL7.out]; omega)
                    have hx1 := on.at1 cU_len (i := A + 1) (by rw [HL7.out]; omega)
                    have hx2 := on.at1 cU_len (i := A + 2) (by rw [HL7.out]; omega)
                    have hy1 := ow.at1 cU_len (i := A + 1) (by rw [HL1.out]; omega)
                    have g7 : ∀ j (hj : j < st.2.1.length), st.2.1[j] = st.2.1.getD j 0 := fun j hj => by rw [List.getD_eq_getElem?_getD, List.getElem?_eq_getElem hj]; rfl
                    have g1 : ∀ j (hj : j < w1.length), w1[j] = w1.getD j 0 := fun j hj => by rw [List.getD_eq_getElem?_getD, List.getElem?_eq_getElem hj]; rfl
                    simp only [cU, List.getElem?_cons_zero] at hx0 hx1 hx2 hy1
                    have HE0 := Lib.hid e0
                    have HE1 := Lib.hid e1
                    have HE2 := Lib.hid e2
                    rw [g7, e0] at hx0
                    rw [g7, e1] at hx1
                    rw [g7, e2] at hx2
                    rw [g1] at hy1
                    clear hx0 hx1 hx2 hy1
                    obtain ⟨tc, ty, htt⟩ : ∃ tc ty, st.1.m.writes[k2] = (tc, ty) := ⟨_, _, rfl⟩
                    rw [htt] at hr0 hr1 hcn wc0 wc1 htk hnd HE1
                    simp only at hr0 hr1 hcn wc0 wc1
                    have HTK := Lib.hid htk
                    have HHT := Lib.hid htt
                    have hcn' := hcn
                    subst hcn'
                    have hA' : 3 + x.C.threads + 3 * (c : Int) = A := hA.symm
                    have hm3 : IntKind.i64.wrap (3 * (c : Int)) = 3 * (c : Int) := IntWalk.i64_in _ (by omega)
                    have hma : IntKind.i64.wrap (3 + x.C.threads + 3 * (c : Int)) = A := by rw [IntWalk.i64_in _ (by omega)]; omega
                    have hz1 : 0 ≤ (A : Int) + 1 := by omega
                    have hz2 : 0 ≤ (A : Int) + 2 := by omega
                    have hn0 : A < w0.length := by omega
                    have hn1 : A + 1 < w0.length := by omega
                    have ht1 : ((A : Int) + 1).toNat = A + 1 := by omega
                    have ht2 : ((A : Int) + 2).toNat = A + 2 := by omega
                    have hm1 : IntKind.i64.wrap ((A : Int) + 1) = (A : Int) + 1 := IntWalk.i64_in _ (by omega)
                    have hm2 : IntKind.i64.wrap ((A : Int) + 2) = (A : Int) + 2 := IntWalk.i64_in _ (by omega)
                    have hwb : IntKind.u64.wrap ((b2 : Int) + 1) = (b2 : Int) + 1 := IntWalk.u64_in _ (by omega)
                    have hAl : (A : Int) < w0.length := by omega
                    have hAl1 : (A : Int) + 1 < w0.length := by omega
                    have hAl2 : (A : Int) + 2 < w0.length := by omega
                    have hcl' : (c : Int) < x.C.cells := by rw [← HNC.out]; omega
                    have hcl3 : (c : Int) < nc := by omega
                    have hd := db.cell
                    unfold dwcells at hd
                    have hcx := xb.cell
                    unfold rideC5 at hcx
                    have hltX := xb.lt
                    have hltB := db.lt
                    have hltG := (bo.blk GB rfl).1
                    have hltn := (on.blk gn rfl).1
                    have hltw := (ow.blk gw rfl).1
                    have hfG : ∀ j, wr.frozen? ⟨GB, j, none⟩ = false := Own.free (n := (marks nc (st.1.m.writes.take k2)).length) (by have := bo; unfold OwnL at this; rw [marks_len] at this ⊢; exact this)
                    have sf := run_store_float
                    have e28 := run_bits
                    have BW := bits5_walk
                    have BO := Lib.hid bo
                    have ON2 := Lib.hid on
                    have OW2 := Lib.hid ow
                    have OT2 := Lib.hid ot
                    have DB2 := Lib.hid db
                    have XB2 := Lib.hid xb
                    have HD2 := Lib.hid hdb
                    have MV2 := Lib.hid hmv2
                    have HA := Lib.hid hA
                    clear bo on ow ot db xb hdb hmv2 bk1 bk2 bk3 bk4 e0 e1 e2 ca0 ca1 ca2 g7 g1 htk htt hnd hw3 htn3 hA hgt
                    go_wp2
                    have hG : ro2' GB ∈ [83] := by have := (BO.out.blk GB rfl).2; simp; exact this
                    have mA : Mv ro2' [83] wr ro2' (wr.setCell ⟨GB, c, none⟩ (.bool true)) := (Mv.refl ro2' [83] wr).setCell hG _
                    have szA : (wr.setCell ⟨GB, c, none⟩ (.bool true)).heap.size = wr.heap.size := by simp
                    have mB : Mv ro2' [] (wr.setCell ⟨GB, c, none⟩ (.bool true)) (setRo ro2' (wr.setCell ⟨GB, c, none⟩ (.bool true)).heap.size 84) ((wr.setCell ⟨GB, c, none⟩ (.bool true)).alloc (.cells #[.int .i64 c, .float .f64 ty] 76)) := ((Mv.refl ro2' [] _).alloc _).give (Nat.le_refl _)
                    have TB3 := Blk.new ro2' 84 (wr.setCell ⟨GB, c, none⟩ (.bool true)) #[.int .i64 c, .float .f64 ty] 76
                    have BO3 := Lib.hid ((BO.out.setBo c true (by rw [marks_len]; exact hcl)).keep mB (by simp))
                    have mv3 := mA.trans (mB.mono (by simp))
                    have ON3 := Lib.hid (ON2.out.keep mv3 (by simp))
                    have OW3 := Lib.hid (OW2.out.keep mv3 (by simp))
                    have OT3 := Lib.hid (OT2.out.keep mv3 (by simp))
                    have DB3 := Lib.hid (DB2.out.keep mv3 (by simp))
                    have XB3 := Lib.hid (XB2.out.keep mv3 (by simp))
                    have HD3 := Lib.hid (HD2.out.keep mv3 (by simp))
                    have MV3 := Lib.hid (((MV2.out.mono (R' := [83]) (by simp)).trans mv3).fresh (by intro y hy j hj; simp at hy; show (0 : Nat) ≠ y; omega))
                    rw [szA] at TB3 mB mv3 BO3 ON3 OW3 OT3 DB3 XB3 HD3 MV3
                    clear mB mv3 szA BO ON2 OW2 OT2 DB2 XB2 HD2 MV2 hr0 hr1 hb0 hd hcx hltX hltB hltG hltn hltw hfG mA
                    generalize (wr.setCell ⟨GB, c, none⟩ (.bool true)).alloc (.cells #[.int .i64 c, .float .f64 ty] 76) = wq at *
                    generalize setRo ro2' wr.heap.size 84 = ro3 at *
                    generalize wr.heap.size = TB at *
                    have ht := TB3.cell
                    have hd := DB3.out.cell
                    unfold dwcells at hd
                    have hx0 := ON3.out.at1 cU_len (i := A) (by rw [HL7.out]; omega)
                    have hx1 := ON3.out.at1 cU_len (i := A + 1) (by rw [HL7.out]; omega)
                    have hx2 := ON3.out.at1 cU_len (i := A + 2) (by rw [HL7.out]; omega)
                    have hy1 := OW3.out.at1 cU_len (i := A + 1) (by rw [HL1.out]; omega)
                    have g7 : ∀ j (hj : j < st.2.1.length), st.2.1[j] = st.2.1.getD j 0 := fun j hj => by rw [List.getD_eq_getElem?_getD, List.getElem?_eq_getElem hj]; rfl
                    have g1 : ∀ j (hj : j < w1.length), w1[j] = w1.getD j 0 := fun j hj => by rw [List.getD_eq_getElem?_getD, List.getElem?_eq_getElem hj]; rfl
                    simp only [cU, List.getElem?_cons_zero] at hx0 hx1 hx2 hy1
                    rw [g7, HE0.out] at hx0
                    simp only [Int.natCast_add, Int.cast_ofNat_Int] at hx0
                    rw [g7, HE1.out] at hx1
                    rw [g7, HE2.out] at hx2
                    rw [g1] at hy1
                    generalize w1.getD (A + 1) 0 = y1 at *
                    clear g7 g1
                    have TB4 := Lib.hid TB3
                    clear TB3
                    go_quiet (fail)
                    rename Nat => nqq
                    go_wp2
                    go_quiet ((first | (go_at_call 44; first | exact Calls.quiet_of_same (BW _ _) | (refine (BW _ _).mono ?_; rintro e w' ⟨rfl, rfl⟩; first | exact ⟨rfl, _, rfl⟩ | exact ⟨rfl, _, World.drewN_drewN.symm⟩ | exact ⟨rfl, _, by rw [World.drewN_drewN]⟩)) | fail))
                    go_wp2
                    go_roundw
                    case rel =>
                      have kp : Mv ro3 [] wq ro3 (wq.drewN (nqq + nq)) := (Mv.refl _ _ _).drewN _
                      have bo4 := BO3.out.keep kp (by simp)
                      rw [marks_set hcl, ← HTK.out] at bo4
                      exact ⟨k2 + 1, ro3, by go_num, hlt2, bo4, ON3.out.keep kp (by simp), OW3.out.keep kp (by simp), OT3.out.keep kp (by simp), DB3.out.keep kp (by simp), XB3.out.keep kp (by simp), HD3.out.keep kp (by simp), MV3.out.drewN _⟩
                    case measure => simp [intOf]; omega
                  · obtain rfl : k2 = st.1.m.writes.length := by omega
                    rw [List.take_length] at bo
                    obtain ⟨bk1, bk2, bk3, bk4⟩ := HBK.out
                    have htn3 := HTN.out
                    have hnc3 := HNC.out
                    have hltX := xb.lt
                    have BO := Lib.hid bo
                    have ON2 := Lib.hid on
                    have OW2 := Lib.hid ow
                    have DB2 := Lib.hid db
                    have XB2 := Lib.hid xb
                    have HD2 := Lib.hid hdb
                    have MV2 := Lib.hid hmv2
                    have HB1 := Lib.hid bk1
                    have HB3 := Lib.hid bk2
                    have HB4 := Lib.hid bk4
                    have HTT := Lib.hid htn3
                    have HNN := Lib.hid hnc3
                    have hcx := xb.cell
                    unfold rideC5 at hcx
                    clear bo on ow ot db xb hdb hmv2 bk1 bk2 bk3 bk4 htn3 hnc3
                    go_wp2
                    go_loopw [20] (fun j wq => ∃ k3 : Nat, j = .int .i64 k3 ∧ k3 ≤ 3 * nc ∧ ∃ nq, wq = wr.drewN nq) (fun j _ => 3 * nc - (intOf j).toNat)
                    case atStart => exact ⟨0, rfl, Nat.zero_le _, 0, rfl⟩
                    case round =>
                      obtain ⟨k3, rfl, hk3n, nq, rfl⟩ := hrel
                      by_cases hlt3 : k3 < 3 * nc
                      · have hlc : (k3 : Int) < 3 * x.C.cells := by rw [← HNN.out]; omega
                        obtain ⟨q3, hq3⟩ : ∃ q3 : Nat, q3 = k3 / 3 := ⟨_, rfl⟩
                        have hq1 : (k3 : Int).tdiv 3 = q3 := by rw [Int.tdiv_eq_ediv_of_nonneg (by omega)]; omega
                        have hq2 : (k3 : Int) / 3 = q3 := by omega
                        have hqw : IntKind.i64.wrap (q3 : Int) = q3 := IntWalk.i64_in _ (by omega)
                        have hql : q3 < nc := by omega
                        have hql' : (q3 : Int) < nc := by omega
                        have hb0 := BO.out.at1 cBo_len (i := q3) (by rw [marks_len]; exact hql)
                        simp only [cBo, List.getElem?_cons_zero] at hb0
                        rw [marks_at] at hb0
                        have hd := DB2.out.cell
                        unfold dwcells at hd
                        obtain ⟨A, hA⟩ : ∃ A : Nat, (A : Int) = 3 + x.C.threads + k3 := ⟨(3 + x.C.threads + k3).toNat, by omega⟩
                        have hw3 := HW3.out
                        have hAl : A < w0.length := by have := HTT.out; omega
                        have hAl' : (A : Int) < w0.length := by omega
                        have hma : IntKind.i64.wrap (3 + x.C.threads + (k3 : Int)) = A := by rw [IntWalk.i64_in _ (by omega)]; omega
                        have hA' : 3 + x.C.threads + (k3 : Int) = A := hA.symm
                        have hx := ON2.out.at1 cU_len (i := A) (by rw [HL7.out]; omega)
                        have hy := OW2.out.at1 cU_len (i := A) (by rw [HL1.out]; omega)
                        have g7 : ∀ j (hj : j < st.2.1.length), st.2.1[j] = st.2.1.getD j 0 := fun j hj => by rw [List.getD_eq_getElem?_getD, List.getElem?_eq_getElem hj]; rfl
                        have g1 : ∀ j (hj : j < w1.length), w1[j] = w1.getD j 0 := fun j hj => by rw [List.getD_eq_getElem?_getD, List.getElem?_eq_getElem hj]; rfl
                        simp only [cU, List.getElem?_cons_zero] at hx hy
                        rw [g7] at hx
                        rw [g1] at hy
                        by_cases hmem : (q3 : Int) ∈ st.1.m.writes.map (·.1)
                        · rw [decide_eq_true hmem] at hb0
                          clear g7 g1 hA hw3 hq3 hmem
                          go_wp2
                          go_quiet (fail)
                          go_wp2
                          go_roundw
                          case rel => exact ⟨k3 + 1, by go_num, hlt3, _, by first | rfl | simp only [World.drewN_drewN]⟩
                          case measure => simp [intOf]; omega
                        · rw [decide_eq_false hmem] at hb0
                          have hsame : st.2.1.getD A 0 = w1.getD A 0 := by
                            have h9 := HB4.out q3 (k3 % 3 : Nat) (by omega) (by omega) (by omega) hmem
                            rw [show x.C.cellAt q3 ((k3 % 3 : Nat) : Int) = A by unfold Cfg.cellAt; omega] at h9
                            exact h9
                          rw [hsame] at hx
                          generalize w1.getD A 0 = yy at *
                          clear g7 g1 hA hw3 hq3 hmem hsame
                          go_wp2
                          go_quiet (fail)
                          go_wp2
                          go_roundw
                          case rel => exact ⟨k3 + 1, by go_num, hlt3, _, by first | rfl | simp only [World.drewN_drewN]⟩
                          case measure => simp [intOf]; omega
                      · obtain rfl : k3 = 3 * nc := by omega
                        have hlc : ¬ ((3 * nc : Nat) : Int) < 3 * x.C.cells := by rw [← HNN.out]; omega
                        have hd := DB2.out.cell
                        unfold dwcells at hd
                        have hD := HD2.out.cell
                        unfold deedW at hD
                        rw [HB1.out] at hD
                        have hx := ON2.out.at1 cU_len (i := 2) (by rw [HL7.out]; omega)
                        simp only [cU, List.getElem?_cons_zero] at hx
                        rw [show st.2.1[2]'(by rw [HL7.out]; omega) = st.2.1.getD 2 0 by rw [List.getD_eq_getElem?_getD, List.getElem?_eq_getElem (by rw [HL7.out]; omega)]; rfl, HB3.out] at hx
                        simp only [Int.natCast_add, Int.cast_ofNat_Int] at hx
                        have hwb : IntKind.u64.wrap ((b2 : Int) + 1) = (b2 : Int) + 1 := IntWalk.u64_in _ (by omega)
                        go_wp2
                        go_ret
                        exact ⟨rfl, below_of_chg (Q2.out.trans (MV2.out.drewN _).chg)⟩

            · as_aux_lemma =>
                have hhb : (st.1.m.how != 1) = true := by simpa using hh
                have hn : (st.1.number == 0) = true := by simpa using (HGH.out.p9f hov hh).2.1
                go_wp2_with (first
                  | (go_at_call 36; refine (HST.out _ HR.out HQ.out).mono ?_; rintro e w8 ⟨rfl, ro8, q8, r8, n8, m8⟩; have R8 := Lib.hid r8; have N8 := Lib.hid n8; have M8 := Lib.hid m8; clear r8 n8 m8)
                  | (go_at_call 38; refine (HRD9.out _ _ _ R8.out).mono ?_; rintro e w10 ⟨ro10, va10, vr10, vw10, vo10, rfl, o1, o2, o3, o4, m10⟩; obtain ⟨za1, zc1, e1⟩ := o1.form; rw [List.length_map] at e1; subst e1; obtain ⟨za2, zc2, rfl⟩ := o2.form; obtain ⟨za3, zc3, rfl⟩ := o3.form; obtain ⟨za4, zc4, rfl⟩ := o4.form; have HALL := Lib.hid (show (deedW x.tag st.1.mark st.1.number st.1.steps st.1.m.how st.1.m.ecode st.1.m.err (.slice za1 x.args.length zc1) (.slice za2 st.1.m.reads.length zc2) (.slice za3 st.1.m.writes.length zc3) (.slice za4 st.1.m.out.length zc4)).all (·.oneCell') = true by simp [deedW, Value.oneCell']); have O3 := Lib.hid o3; have M10 := Lib.hid m10; clear o1 o2 o3 o4 m10)
                  | (refine wpList_plain rfl (fun K hK => ?_)
                     go_simp
                     refine hK _ _ ?_
                     refine wpList_store_row rfl 63 (.tmp 13) (.tmp 105) rfl _ (deedW x.tag st.1.mark st.1.number st.1.steps st.1.m.how st.1.m.ecode st.1.m.err (.slice za1 x.args.length zc1) (.slice za2 st.1.m.reads.length zc2) (.slice za3 st.1.m.writes.length zc3) (.slice za4 st.1.m.out.length zc4)) rfl rfl 63 _ (heap_alloc_new _ _) (by kernel_rfl) rfl HALL.out ?_
                     have D11 : Blk (setRo ro10 w10.heap.size 79) 79 ((w10.alloc (.cells #[.int .i64 0, .int .i64 0, .int .i64 0, .int .i64 0, .slice none 0 0, .int .i64 0, .int .i64 0, .slice none 0 0, .slice none 0 0, .slice none 0 0, .int .i64 0, .int .i64 0, .int .i64 0, .int .i64 0, .int .i64 0, .int .i64 0, .int .i64 0, .int .i64 0, .int .i64 0] 63)).setRow w10.heap.size (deedW x.tag st.1.mark st.1.number st.1.steps st.1.m.how st.1.m.ecode st.1.m.err (.slice za1 x.args.length zc1) (.slice za2 st.1.m.reads.length zc2) (.slice za3 st.1.m.writes.length zc3) (.slice za4 st.1.m.out.length zc4))) w10.heap.size (deedW x.tag st.1.mark st.1.number st.1.steps st.1.m.how st.1.m.ecode st.1.m.err (.slice za1 x.args.length zc1) (.slice za2 st.1.m.reads.length zc2) (.slice za3 st.1.m.writes.length zc3) (.slice za4 st.1.m.out.length zc4)) 63 := (Blk.new ro10 79 w10 #[.int .i64 0, .int .i64 0, .int .i64 0, .int .i64 0, .slice none 0 0, .int .i64 0, .int .i64 0, .slice none 0 0, .slice none 0 0, .slice none 0 0, .int .i64 0, .int .i64 0, .int .i64 0, .int .i64 0, .int .i64 0, .int .i64 0, .int .i64 0, .int .i64 0, .int .i64 0] 63).setRow
                     have N11 : Mv ro10 [] w10 (setRo ro10 w10.heap.size 79) ((w10.alloc (.cells #[.int .i64 0, .int .i64 0, .int .i64 0, .int .i64 0, .slice none 0 0, .int .i64 0, .int .i64 0, .slice none 0 0, .slice none 0 0, .slice none 0 0, .int .i64 0, .int .i64 0, .int .i64 0, .int .i64 0, .int .i64 0, .int .i64 0, .int .i64 0, .int .i64 0, .int .i64 0] 63)).setRow w10.heap.size (deedW x.tag st.1.mark st.1.number st.1.steps st.1.m.how st.1.m.ecode st.1.m.err (.slice za1 x.args.length zc1) (.slice za2 st.1.m.reads.length zc2) (.slice za3 st.1.m.writes.length zc3) (.slice za4 st.1.m.out.length zc4))) := (((Mv.refl ro10 [] w10).alloc (.cells #[.int .i64 0, .int .i64 0, .int .i64 0, .int .i64 0, .slice none 0 0, .int .i64 0, .int .i64 0, .slice none 0 0, .slice none 0 0, .slice none 0 0, .int .i64 0, .int .i64 0, .int .i64 0, .int .i64 0, .int .i64 0, .int .i64 0, .int .i64 0, .int .i64 0, .int .i64 0] 63)).give (r := 79) (Nat.le_refl _)).setRowNew (Nat.le_refl _) _
                     generalize (w10.alloc (.cells #[.int .i64 0, .int .i64 0, .int .i64 0, .int .i64 0, .slice none 0 0, .int .i64 0, .int .i64 0, .slice none 0 0, .slice none 0 0, .slice none 0 0, .int .i64 0, .int .i64 0, .int .i64 0, .int .i64 0, .int .i64 0, .int .i64 0, .int .i64 0, .int .i64 0, .int .i64 0] 63)).setRow w10.heap.size (deedW x.tag st.1.mark st.1.number st.1.steps st.1.m.how st.1.m.ecode st.1.m.err (.slice za1 x.args.length zc1) (.slice za2 st.1.m.reads.length zc2) (.slice za3 st.1.m.writes.length zc3) (.slice za4 st.1.m.out.length zc4)) = w11 at *
                     generalize setRo ro10 w10.heap.size 79 = ro11 at *
                     generalize w10.heap.size = DBK at *
                     have HD11 := Lib.hid D11
                     have M11 := Lib.hid (M8.out.trans ((M10.out.trans N11).mono (by simp)))
                     have O11 := Lib.hid (O3.out.keep N11 (by simp))
                     have Q11 := Lib.hid ((N8.out.keep M10.out (by simp) (by simp)).keep N11 (by simp) (by simp))
                     have OW11 := Lib.hid (((HOW.out.keep M8.out (by simp [wR])).keep M10.out (by simp)).keep N11 (by simp))
                     have db11 := ((HDB.out.keep M8.out (by simp [wR])).keep M10.out (by simp)).keep N11 (by simp)
                     have hd := db11.cell
                     unfold dwcells at hd
                     have DB11 := Lib.hid db11
                     have xb11 := ((HXB.out.keep M8.out (by simp [wR])).keep M10.out (by simp)).keep N11 (by simp)
                     have hcx := xb11.cell
                     unfold rideC5 at hcx
                     have XB11 := Lib.hid xb11
                     have hD := D11.cell
                     unfold deedW at hD
                     clear D11 N11 db11 xb11)
                  | fail)
                go_ret
                have mm := ((HMV.out.mono (R' := 45 :: (45 + 1) :: wR 10) (by simp)).trans M11.out).fresh (by intro y hy j hj; simp [wR] at hy; show (0 : Nat) ≠ y; omega)
                exact ⟨rfl, below_of_chg (Q2.out.trans mm.chg)⟩

          · have HST := Lib.hid (STW false (by simpa using hov))
            clear STW
            have hp8 : st.1.part ≤ 8 := by omega
            go_wp2_with (first
              | (go_at_call 36; refine (HST.out _ HR.out HQ.out).mono ?_; rintro e w8 ⟨rfl, ro8, q8, r8, n8, m8⟩; have R8 := Lib.hid r8; have N8 := Lib.hid n8; have M8 := Lib.hid m8; clear r8 n8 m8))
            go_roundw
            case rel =>
              have mm := ((HMV.out.mono (R' := 45 :: (45 + 1) :: wR 10) (by simp)).trans M8.out).fresh (by intro y hy j hj; simp [wR] at hy; show (0 : Nat) ≠ y; omega)
              have h1 := HLF.out
              exact ⟨k + 1, st.1, ro8, q8, st.2.1, _, cnt7, by go_num, R8.out, HWF.out, hp8, by rw [HK1.out]; simp, N8.out, HL7.out, HSF.out.2, by omega, by omega, HGH.out, HSF.out.1, (by show st.1.left x.C + ((k + 1 : Nat) : Int) ≤ _; omega), HOW.out.keep M8.out (by simp [wR]), HDB.out.keep M8.out (by simp [wR]), HXB.out.keep M8.out (by simp [wR]), mm⟩
            case measure => simp [intOf]; omega
  · have BN := fun w (c : Chg [] W w) => begun5_none w x _ _ _ _ ns (⟨hin.cells, hin.threads, hin.fuel, hin.writes, hin.th, hin.tag, hin.code.keep0 c, hin.codeX, hin.codeL, hin.args.keep0 c, hin.argsX, hin.argsL, hin.words.keep0 c, hin.wordsX, hin.wordsL, hin.pokes.keep0 c, hin.pokesX, hin.pokesL⟩ : RideIn w x _ _ _ _) hok
    unfold Ride.v5 at BN ⊢
    have HBN := Lib.hid BN
    clear BN hin
    go_enter Tryz.func9, Tryz.ntmps9
    go_wp2_with (first
      | (go_at_call 34; refine (LW _).mono ?_; rintro e w2 ⟨rfl, ro2, m2⟩; have q2 : Chg [] W w2 := ((Chg.refl [] W).alloc _).trans m2.chg; have hr := (m2.block _ (by simp) (by simp)).trans (heap_alloc_new _ _); have hc2 := fun o => cell_of_row w2 _ o _ _ _ hr; have Q2 := Lib.hid q2; clear m2 q2 hr)
      | (go_at_call 35; refine (HBN.out _ Q2.out).mono ?_; rintro e w3 ⟨rfl, ro3, m3⟩; have Q3 := Lib.hid (Q2.out.trans m3.chg); clear m3 hc2))
    go_ret
    exact ⟨rfl, below_of_chg Q3.out⟩
end Go.Proofs.YtphaeodcomgffaaGreat
