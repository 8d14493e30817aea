import Derived.Test.YtphaeodcomgffaaGreatWF
import Derived.Test.YtphaeodcomgffaaGreatWD
import Derived.BigQuiet
import Derived.StillTailTactics
import Derived.Deep.Cut
set_option linter.unusedVariables false
set_option linter.unusedSimpArgs false
namespace Go.Proofs.YtphaeodcomgffaaGreat
open Go.RowKit

/-! WriterTurn: the walk. -/
set_option maxRecDepth 100000 in
set_option maxHeartbeats 16000000 in
theorem wturn_all (W : World) (x : Ride) (vc va vw vp : Value) (ns : Int) (hin : RideIn W x vc va vw vp) (lk : Int) (hlk : -9223372036854775808 ≤ lk ∧ lk ≤ 9223372036854775807) : Calls Tryz.prog 10 #[x.v5 vc va vw vp ns, .int .i64 lk] W fun e W' => e = .returned (.bool true) ∧ Below W.heap.size W W' := by
  obtain ⟨a1, n1, c1, rfl⟩ : ∃ a n c, va = .slice a n c := by obtain ⟨a, c, e⟩ := hin.args.slice; exact ⟨_, _, _, e⟩
  obtain ⟨a2, n2, c2, rfl⟩ : ∃ a n c, vc = .slice a n c := by obtain ⟨a, c, e⟩ := hin.code.slice; exact ⟨_, _, _, e⟩
  obtain ⟨a3, n3, c3, rfl⟩ : ∃ a n c, vw = .slice a n c := by obtain ⟨a, c, e⟩ := hin.words.slice; exact ⟨_, _, _, e⟩
  obtain ⟨a4, n4, c4, rfl⟩ : ∃ a n c, vp = .slice a n c := by obtain ⟨a, c, e⟩ := hin.pokes.slice; exact ⟨_, _, _, e⟩
  have LW := fun w => wlive_walk w
  have HIN := Lib.hid hin
  by_cases hok : rOk x.C x.args.length x.th
  · have BW := fun w (c : Chg [] W w) => begun5_ok w x _ _ _ _ ns (⟨hin.cells, hin.threads, hin.fuel, hin.writes, hin.th, hin.tag, hin.code.keep0 c, hin.codeX, hin.codeL, hin.args.keep0 c, hin.argsX, hin.argsL, hin.words.keep0 c, hin.wordsX, hin.wordsL, hin.pokes.keep0 c, hin.pokesX, hin.pokesL⟩ : RideIn w x _ _ _ _) hok
    unfold Begun5P at BW
    unfold Ride.v5 at BW ⊢
    simp only [ptr] at BW
    have HBW := Lib.hid BW
    have hlw : x.words.length ≤ 9223372036854775807 := by have := hin.wordsL; omega
    have LA := fun ro w (c : Chg [] W w) => laid5_any ro 45 60 (by decide) (by decide) x.C _ x.words w hok.1 (by decide) (hin.words.keep0 c) hin.wordsX hlw
    unfold LaidP cfgV at LA
    simp only [ptr] at LA
    have HLA := Lib.hid LA
    have HOK := Lib.hid hok
    obtain ⟨hC, h8, t0, t1⟩ := hok
    obtain ⟨C1', C2', C3', C4', C5', C6', C7', C8'⟩ := id hC
    have HC := Lib.hid hC
    have NWF : Wwf x.C x.code (newWr (badS x.tag x.code) x.args) := new_wwf HC.out (fun hb => by
      have hb' : ¬ (checkS x.tag x.code != 0) = true := by have : (checkS x.tag x.code != 0) = false := hb; rw [this]; decide
      unfold checkS at hb'
      split at hb'
      · rename_i ho; exact ⟨ho.2.2.2, ho.2.2.1, HIN.out.codeX⟩
      · exact absurd (by decide) hb') HIN.out.argsX
    have HNW := Lib.hid NWF
    have HCV := Lib.hid (rfl : cfgV x.C = cfgV x.C)
    clear BW hin LA hC NWF
    obtain ⟨u1, hu1⟩ : ∃ u, u = lk.tmod 50 := ⟨_, rfl⟩
    have hu1a : -50 < u1 := by rw [hu1]; exact Int.lt_tmod_of_pos _ (by omega)
    have hu1b : u1 < 50 := by rw [hu1]; exact Int.tmod_lt_of_pos _ (by omega)
    obtain ⟨u2, hu2⟩ : ∃ u, u = (u1 + 50).tmod 50 := ⟨_, rfl⟩
    have hu2a : 0 ≤ u2 := by rw [hu2]; exact Int.tmod_nonneg _ (by omega)
    have hu2b : u2 < 50 := by rw [hu2]; exact Int.tmod_lt_of_pos _ (by omega)
    have hv1 := hu1.symm
    have hv2 := hu2.symm
    clear hu1 hu2
    obtain ⟨PR, hPR⟩ : ∃ u, u = (1 + u2) * (x.C.threads + 1) := ⟨_, rfl⟩
    have hPR0 : 0 ≤ PR := by rw [hPR]; exact Int.mul_nonneg (by omega) (by omega)
    have hPR1 : PR ≤ 50 * 9 := by rw [hPR]; exact Int.mul_le_mul (by omega) (by omega) (by omega) (by omega)
    have hmul : (1 + u2) * (x.C.threads + 1) = PR := hPR.symm
    have HPR := Lib.hid hPR
    clear hPR
    go_enter Tryz.func10, Tryz.ntmps10
    go_wp2_with (first
      | (go_at_call 34; refine (LW _).mono ?_; rintro e w2 ⟨rfl, ro2, m2⟩; have q2 : Chg [] W w2 := ((Chg.refl [] W).alloc _).trans m2.chg; have hr := (m2.block _ (by simp) (by simp)).trans (heap_alloc_new _ _); have hc2 := fun o => cell_of_row w2 _ o _ _ _ hr; have X2 := Lib.hid (show Blk (fun _ => 0) 0 w2 W.heap.size (rideC5 x _ _ _ _ ns) 85 from ⟨hr, rfl⟩); have Q2 := Lib.hid q2; clear m2 q2 hr)
      | (go_at_call 35; refine (HBW.out _ Q2.out).mono ?_; rintro e w3 ⟨X, B, ro3, q, M, vd, p, rfl, r3, d3, m3⟩; have R3 := Lib.hid r3; have D3 := Lib.hid d3; have M3 := Lib.hid m3; have x3 := X2.out.keep m3 (by simp); have hc3 := x3.cell; unfold rideC5 at hc3; have X3 := Lib.hid x3; clear r3 d3 m3 x3 hc2)
      | (go_at_call 39; (refine (HLA.out ro3 _ (Q2.out.trans M3.out.chg)).mono ?_; rintro e w4 ⟨MB, WB, v, v2, ro4, words, rfl, hwl, hwf, q4, d4, m4⟩; have R4 := Lib.hid (R3.out.keep m4 (by simp)); have db4 := D3.out.blk.keep m4 (by simp); have hd4 := db4.cell; unfold dwcells at hd4; have D4 := Lib.hid db4; have X4 := Lib.hid (X3.out.keep m4 (by simp)); have Q4 := Lib.hid q4; have W4 := Lib.hid d4; have M4 := Lib.hid (M3.out.trans m4); have HWF := Lib.hid hwf; have hws3 : 3 ≤ words.length := (by omega); have hws4 : words.length ≤ 4096 := (by omega); clear q4 d4 m4 hc3 db4 hwf))
      | (go_at_call 40; refine (served_walk (3 + x.C.threads) (3 + x.C.threads + 3 * x.C.cells) Q4.out W4.out (by decide) hws3 hws4).mono ?_; rintro e w5 ⟨rfl, ro5, q5, d5, m5⟩; have R5 := Lib.hid (R4.out.keep m5 (by simp)); have D5 := Lib.hid (D4.out.keep m5 (by simp)); have x5 := X4.out.keep m5 (by simp); have hc5 := x5.cell; unfold rideC5 at hc5; have X5 := Lib.hid x5; have Q5 := Lib.hid q5; have M5 := Lib.hid (((M4.out.mono (R' := [46, 61]) (by simp)).trans m5).fresh (by intro y hy j hj; simp at hy; show (0 : Nat) ≠ y; omega)); clear q5 d5 m5 hd4 x5))
    have SV := Lib.hid (served_sv hws3)
    have hw0f := served_fit HWF.out
    have hw0l := served_len words
    generalize servedS words = w0 at *
    rw [← hw0l] at hwl hws3 hws4
    have HWL := Lib.hid hwl
    have hwc : x.C.threads + 3 < w0.length := by omega
    have G0 := Lib.hid (new_tn (badS x.tag x.code) x.args SV.out.serving)
    have K0 := Lib.hid (new_kn HC.out (badS x.tag x.code) x.args (lv := 1 + u2) (by omega) w0)
    clear hwl hv1 hv2 hw0l HWF Q4 W4 M4 R4 D4 X4 R3 D3 M3 X3 X2 HBW HLA LW
    go_loopw [12, 10] (fun i l wr => ∃ (k : Nat) (s : Wr) (ro' : Nat → Nat) (q' : Wp) (ws : List Nat) (op : Bool) (cnt L : Int), i = .int .i64 k ∧ l = .int .i64 L ∧ WIs ro' 10 wr X x.C x.tag x.code x.args s q' ∧ Wwf x.C x.code s ∧ s.part ≤ 8 ∧ s.steps = k ∧ MemIs ro' 45 wr MB v ws op cnt ∧ ws.length = w0.length ∧ (∀ y ∈ ws, y < 18446744073709551616) ∧ 0 ≤ cnt ∧ cnt ≤ k ∧ Tn s ws ∧ Kn x.C (1 + u2) k s ws L ∧ Wfit s ∧ Blk ro' 58 wr B (dwcells x.C x.tag M vd) 91 ∧ Blk ro' 0 wr W.heap.size (rideC5 x (.slice a2 n2 c2) (.slice a1 n1 c1) (.slice a3 n3 c3) (.slice a4 n4 c4) ns) 85 ∧ Mv (fun _ => 0) [] w2 ro' wr ∧ k ≤ 4000) (fun i _ _ => 4001 - (intOf i).toNat)
    case atStart => exact ⟨0, _, ro5, q, w0, false, 0, _, rfl, rfl, R5.out, HNW.out, by show (1 : Int) ≤ 8; decide, rfl, Q5.out, rfl, hw0f, by decide, by decide, G0.out, K0.out, new_wfit _ _, D5.out, X5.out, M5.out, by omega⟩
    case round =>
      clear R5 D5 X5 Q5 M5 HNW G0 K0
      obtain ⟨k, s, ro', q', ws, op, cnt, L, rfl, rfl, r, wf, hp, hst, qm, hln, hfit, c0, c1, tn, kn, wff, db, xb, hmv, hk3⟩ := hrel
      have hc := xb.cell
      unfold rideC5 at hc
      have hd := db.cell
      unfold dwcells at hd
      have hlx : 3 + x.C.threads ≤ (ws.length : Int) := by rw [hln]; omega
      have kt := kn_time HC.out (by omega) wf hp kn
      rw [hmul] at kt
      obtain ⟨kL, kT⟩ := kt
      have kM := kn.most
      have hll := leaves_len x.C (1 + u2) k ws
      have hlf := leaves_fit (C := x.C) (lv := 1 + u2) (k := k) hfit
      have K2 := kn_round (tag := x.tag) HC.out (by omega) wf hp hlx tn kn
      have T1 := leaves_tn (C := x.C) (lv := 1 + u2) (k := k) tn
      have hWF := step_wwf (tag := x.tag) HC.out wf hp hlf
      have hT2 := step_tn (tag := x.tag) HC.out wf hp (by rw [hll, hln]; omega) hlf T1
      have hSF := step_wfit (C := x.C) (tag := x.tag) (code := x.code) wf wff hlf
      have hSL := wstep_len (C := x.C) (tag := x.tag) (code := x.code) (words := leaves x.C (1 + u2) k ws) (s := s)
      have hSS := wstep_steps (C := x.C) (tag := x.tag) (code := x.code) (words := leaves x.C (1 + u2) k ws) wf
      have c2 := step_cnt (cnt := cnt) (b := (s.step x.C x.tag x.code (leaves x.C (1 + u2) k ws)).2.2)
      have hpk : (goneAt x.C (1 + u2) k = none → leaves x.C (1 + u2) k ws = ws) ∧ (∀ t, goneAt x.C (1 + u2) k = some t → leaves x.C (1 + u2) k ws = ws.set (3 + t) 0) := ⟨fun h => by unfold leaves; rw [h], fun t h => by unfold leaves; rw [h]⟩
      obtain ⟨hpk0, hpk1⟩ := hpk
      generalize leaves x.C (1 + u2) k ws = wsl at *
      have hl7 : wsl.length = w0.length := hll.trans hln
      have STW := fun ro7 q7 bb (hbb : ((s.step x.C x.tag x.code wsl).1.part == 9) = bb) W6 (hr : WIs ro7 10 W6 X x.C x.tag x.code x.args s q7) (hq : MemIs ro7 45 W6 MB v wsl op cnt) => wrunP_val (writerstep_walk HC.out hr hq (by decide) (by rw [hl7]; exact HWL.out) c0 (by omega) (by omega) wf hp) (show Value.tuple #[.bool bb, .int .i64 0] = _ by rw [hbb])
      unfold WrP at STW
      simp only [ptr] at STW
      have RDW := fun ro7 q7 w7 (h : WIs ro7 10 w7 X x.C x.tag x.code x.args (s.step x.C x.tag x.code wsl).1 q7) => wdeed_walk 70 h hWF.part1 hWF.part9 h8 (by have := hWF.wf.reads; have := hWF.wf.used1; omega) (by have := hWF.wf.writesL; omega) (by have := hWF.wf.out; have := hWF.wf.used1; omega)
      unfold WDeedP deedW at RDW
      simp only [ptr] at RDW
      have p5n : s.part = 5 → (s.step x.C x.tag x.code wsl).1.part ≠ 9 := fun e5 => by
        obtain ⟨g, hg, _⟩ := wf.scan5 e5
        unfold Wr.step
        rw [if_neg (by omega), if_neg (by omega), if_neg (by omega), if_neg (by omega), if_pos e5]
        unfold Wr.scans
        simp only
        split
        · show s.part ≠ 9; omega
        · show (if _ then (if _ then (6 : Int) else 7) else 5) ≠ 9
          split
          · split <;> decide
          · decide
      generalize hST : s.step x.C x.tag x.code wsl = st at *
      generalize hcn : (if st.2.2 then cnt + 1 else cnt) = cnt7 at *
      obtain ⟨c2a, c2b⟩ := c2
      have c2a' : ¬ cnt7 < cnt := by omega
      have c2b' : ¬ cnt + 1 < cnt7 := by omega
      have hk1 : st.1.steps = (k : Int) + 1 := by rw [hSS, hst]
      have hl8 : st.2.1.length = w0.length := hSL.trans hl7
      have p1 := hWF.part1
      have p9 := hWF.part9
      have HKN := Lib.hid (fun (hp8 : st.1.part ≤ 8) => kn_time HC.out (by omega) hWF hp8 K2)
      have HR := Lib.hid r
      have HQ := Lib.hid qm
      have HDB := Lib.hid db
      have HXB := Lib.hid xb
      have HMV := Lib.hid hmv
      have HRD := Lib.hid RDW
      have HWF := Lib.hid hWF
      have HT2 := Lib.hid hT2
      have HK2 := Lib.hid K2
      have HSF := Lib.hid hSF
      have HK1 := Lib.hid hk1
      have HL7 := Lib.hid hl7
      have HL8 := Lib.hid hl8
      have HLN := Lib.hid hln
      have HP0 := Lib.hid hpk0
      have HP1 := Lib.hid hpk1
      have HST0 := Lib.hid STW
      have P5N := Lib.hid p5n
      have spart := s.part
      have hlvp : 1 ≤ 1 + u2 := by omega
      have hlvq : 1 + u2 ≤ 50 := by omega
      clear RDW hWF hT2 K2 hSF hSS hSL hST hcn hst r wf hp qm db xb hmv wff hfit hk1 hl7 hl8 hln hll hlf tn kn T1 hpk0 hpk1 STW p5n hlx spart
      have hkA : (k : Int) < x.C.fuel + x.C.threads + 3 * x.C.writes + 8 + x.C.fuel + PR := by omega
      by_cases hkF : (k : Int) < x.C.fuel
      · have hnone := HP0.out (by unfold goneAt; rw [if_neg (by omega)])
        have Q5 := Lib.hid (show MemIs ro' 45 wr MB v wsl op cnt by rw [hnone]; exact HQ.out)
        have R5 := HR
        have M5 := Lib.hid (Mv.refl ro' [46] wr)
        have DB5 := HDB
        have XB5 := HXB
        clear hnone
        have hkF' : ¬ x.C.fuel ≤ (k : Int) := by omega
        have CW5 := Lib.hid (mcount_walk Q5.out)
        have FW5 := Lib.hid (wphase_walk R5.out)
        have fl10 := deed_end
        have flh := end_how
        by_cases h5 : s.part = 5
        · as_aux_lemma =>
            have hov : ¬ st.1.part = 9 := P5N.out h5
            have HST := Lib.hid (fun ro7 q7 W6 hr hq => HST0.out ro7 q7 false (by simpa using hov) W6 hr hq)
            have hp8 : st.1.part ≤ 8 := by omega
            have hL2 := (HKN.out hp8).1

            go_wp2_with (first
                | (go_at_call 20; refine CW5.out.mono ?_; rintro e w6 ⟨rfl, e6⟩; obtain rfl := e6.symm)
                | (go_at_call 37; refine FW5.out.mono ?_; rintro e w6 ⟨rfl, e6⟩; obtain rfl := e6.symm)
                | (go_at_call 41; refine (mall_walk 81 Q5.out (by rw [HL7.out]; omega) (by rw [HL7.out]; omega)).mono ?_; rintro e w7 ⟨vn, ro7, rfl, on, m7⟩; obtain ⟨gn, cn, rfl, -, -, -⟩ := on.pos (by rw [HL7.out]; omega); have M7 := Lib.hid (M5.out.trans (m7.mono (by simp))); have Q7 := Lib.hid (Q5.out.keep m7 (by simp) (by simp)); have ON := Lib.hid on; have R7 := Lib.hid (R5.out.keep m7 (by simp)); have DB7 := Lib.hid (DB5.out.keep m7 (by simp)); have XB7 := Lib.hid (XB5.out.keep m7 (by simp)); clear on m7))
            rw [HL7.out]
            obtain ⟨tn, htn⟩ : ∃ tn : Nat, (tn : Int) = x.C.threads := ⟨x.C.threads.toNat, by omega⟩
            have htn2 : x.C.threads.toNat = tn := by omega
            have HTN := Lib.hid htn
            rw [htn2] at HK2 HKN hL2
            clear htn htn2
            go_loopw [16, 14] (fun t o wr => ∃ t2 : Nat, t = .int .i64 t2 ∧ o = .bool (oldB wsl t2) ∧ t2 ≤ tn ∧ ∃ nq, wr = w7.drewN nq) (fun t _ _ => tn - (intOf t).toNat)
            case atStart => exact ⟨0, rfl, rfl, Nat.zero_le _, 0, rfl⟩
            case round =>
              obtain ⟨t2, rfl, ho, ht2, nq, rfl⟩ := hrel
              have hc7 := XB7.out.cell
              unfold rideC5 at hc7
              by_cases hlt2 : t2 < tn
              · have hlt3 : (t2 : Int) < x.C.threads := by rw [← HTN.out]; omega
                have hd7 := DB7.out.cell
                unfold dwcells at hd7
                have hx := ON.out.at1 cU_len (i := 3 + t2) (by rw [HL7.out]; omega)
                have hy := ON.out.at1 cU_len (i := 2) (by rw [HL7.out]; omega)
                simp only [cU, List.getElem?_cons_zero] at hx hy
                rw [show wsl[3 + t2]'(by rw [HL7.out]; omega) = wsl.getD (3 + t2) 0 by rw [List.getD_eq_getElem?_getD, List.getElem?_eq_getElem (by rw [HL7.out]; omega)]; rfl] at hx
                rw [show wsl[2]'(by rw [HL7.out]; omega) = wsl.getD 2 0 by rw [List.getD_eq_getElem?_getD, List.getElem?_eq_getElem (by rw [HL7.out]; omega)]; rfl] at hy
                have OS := oldB_succ wsl t2
                generalize wsl.getD (3 + t2) 0 = xa at *
                generalize wsl.getD 2 0 = xb at *
                obtain ⟨A, hA⟩ : ∃ A : Nat, A = 3 + t2 := ⟨_, rfl⟩
                have hA' : 3 + (t2 : Int) = A := by omega
                have hAw : IntKind.i64.wrap (3 + (t2 : Int)) = A := by rw [IntWalk.i64_in _ (by omega)]; omega
                have hAl : (A : Int) < w0.length := by omega
                have hl2 : 2 < w0.length := by omega
                have hi2 : (2 : Int) < w0.length := by omega
                rw [← hA] at hx
                have HOS := Lib.hid OS
                have HAA := Lib.hid hA
                clear OS hA
                by_cases hob : oldB wsl t2 = true
                · rw [hob] at ho
                  subst ho
                  have HOB := Lib.hid hob
                  clear hob
                  go_wp2
                  go_quiet (fail)
                  go_wp2
                  go_roundw
                  case rel => exact ⟨t2 + 1, by go_num, (by rw [HOS.out, HOB.out]; rfl), hlt2, _, by first | rfl | simp only [World.drewN_drewN]⟩
                  case measure => simp [intOf]; omega
                · rw [Bool.not_eq_true] at hob
                  rw [hob] at ho
                  subst ho
                  have HOB := Lib.hid hob
                  clear hob
                  by_cases hz : 0 < xa
                  · have hz' : 0 < (xa : Int) := by omega
                    have hzb : decide (0 < (xa : Int)) = true := by simp [hz]
                    by_cases hle : xa ≤ xb
                    · have hle' : (xa : Int) ≤ xb := by omega
                      have hleb : decide ((xa : Int) ≤ xb) = true := by simp [hle]
                      go_wp2
                      go_quiet (fail)
                      go_wp2
                      go_roundw
                      case rel => exact ⟨t2 + 1, by go_num, (by rw [HOS.out, HOB.out]; simp [hz, hle]), hlt2, _, by first | rfl | simp only [World.drewN_drewN]⟩
                      case measure => simp [intOf]; omega
                    · have hle' : ¬ (xa : Int) ≤ xb := by omega
                      have hleb : decide ((xa : Int) ≤ xb) = false := by simp; omega
                      go_wp2
                      go_quiet (fail)
                      go_wp2
                      go_roundw
                      case rel => exact ⟨t2 + 1, by go_num, (by rw [HOS.out, HOB.out]; simp [hz, hle]), hlt2, _, by first | rfl | simp only [World.drewN_drewN]⟩
                      case measure => simp [intOf]; omega
                  · have hz' : ¬ 0 < (xa : Int) := by omega
                    have hzb : decide (0 < (xa : Int)) = false := by simp; omega
                    go_wp2
                    go_quiet (fail)
                    go_wp2
                    go_roundw
                    case rel => exact ⟨t2 + 1, by go_num, (by rw [HOS.out, HOB.out]; simp [hz]), hlt2, _, by first | rfl | simp only [World.drewN_drewN]⟩
                    case measure => simp [intOf]; omega
              · obtain rfl : t2 = tn := by omega
                have hlt3 : ¬ (t2 : Int) < x.C.threads := by rw [← HTN.out]; omega
                replace Q7 := Lib.hid (Q7.out.keep ((Mv.refl _ [] _).drewN nq) (by simp) (by simp))
                replace R7 := Lib.hid (R7.out.keep ((Mv.refl _ [] _).drewN nq) (by simp))
                replace DB7 := Lib.hid (DB7.out.keep ((Mv.refl _ [] _).drewN nq) (by simp))
                replace XB7 := Lib.hid (XB7.out.keep ((Mv.refl _ [] _).drewN nq) (by simp))
                replace M7 := Lib.hid (M7.out.drewN nq)
                by_cases hob : oldB wsl t2 = true
                · rw [hob] at ho
                  subst ho
                  have HK3 := HK2.out
                  rw [if_pos ⟨h5, hob⟩] at HK3 hL2
                  have HKN3 := Lib.hid HK3
                  clear HK3
                  have hLb : x.C.fuel + x.C.threads + 3 * x.C.writes + 8 ≤ 2000 := by omega
                  go_wp2_with (first
                      | (go_at_call 36; refine (HST.out _ _ _ R7.out Q7.out).mono ?_; rintro e w8 ⟨rfl, ro8, q8, r8, n8, m8⟩; have R8 := Lib.hid r8; have N8 := Lib.hid n8; have CW8 := Lib.hid (mcount_walk n8); have M8 := Lib.hid ((M7.out.mono (R' := 45 :: (45 + 1) :: wR 10) (by simp)).trans m8); have DB8 := Lib.hid (DB7.out.keep m8 (by simp [wR])); have XB8 := Lib.hid (XB7.out.keep m8 (by simp [wR])); clear r8 n8 m8)
                      | (go_at_call 20; refine CW8.out.mono ?_; rintro e w9 ⟨rfl, e9⟩; obtain rfl := e9.symm))
                  go_roundw
                  case rel =>
                    have mm := ((HMV.out.mono (R' := 45 :: (45 + 1) :: wR 10) (by simp)).trans M8.out).fresh (by intro y hy j hj; simp [wR] at hy; show (0 : Nat) ≠ y; omega)
                    exact ⟨k + 1, st.1, ro8, q8, st.2.1, _, cnt7, L, by go_num, rfl, R8.out, HWF.out, hp8, by rw [HK1.out]; simp, N8.out, HL8.out, HSF.out.2, by omega, by omega, HT2.out, (by rw [Int.natCast_succ]; exact HKN3.out), HSF.out.1, DB8.out, XB8.out, mm, by omega⟩
                  case measure => simp [intOf]; omega

                · rw [Bool.not_eq_true] at hob
                  rw [hob] at ho
                  subst ho
                  have HK3 := HK2.out
                  rw [if_neg (fun hh => by rw [hob] at hh; exact absurd hh.2 (by decide))] at HK3 hL2
                  have HKN3 := Lib.hid HK3
                  clear HK3
                  have hLb : x.C.fuel + x.C.threads + 3 * x.C.writes + 8 ≤ 2000 := by omega
                  go_wp2_with (first
                      | (go_at_call 36; refine (HST.out _ _ _ R7.out Q7.out).mono ?_; rintro e w8 ⟨rfl, ro8, q8, r8, n8, m8⟩; have R8 := Lib.hid r8; have N8 := Lib.hid n8; have CW8 := Lib.hid (mcount_walk n8); have M8 := Lib.hid ((M7.out.mono (R' := 45 :: (45 + 1) :: wR 10) (by simp)).trans m8); have DB8 := Lib.hid (DB7.out.keep m8 (by simp [wR])); have XB8 := Lib.hid (XB7.out.keep m8 (by simp [wR])); clear r8 n8 m8)
                      | (go_at_call 20; refine CW8.out.mono ?_; rintro e w9 ⟨rfl, e9⟩; obtain rfl := e9.symm))
                  go_roundw
                  case rel =>
                    have mm := ((HMV.out.mono (R' := 45 :: (45 + 1) :: wR 10) (by simp)).trans M8.out).fresh (by intro y hy j hj; simp [wR] at hy; show (0 : Nat) ≠ y; omega)
                    exact ⟨k + 1, st.1, ro8, q8, st.2.1, _, cnt7, L - 1, by go_num, rfl, R8.out, HWF.out, hp8, by rw [HK1.out]; simp, N8.out, HL8.out, HSF.out.2, by omega, by omega, HT2.out, (by rw [Int.natCast_succ]; exact HKN3.out), HSF.out.1, DB8.out, XB8.out, mm, by omega⟩
                  case measure => simp [intOf]; omega

        · as_aux_lemma =>
            by_cases hov : st.1.part = 9
            · have HST := Lib.hid (fun ro7 q7 W6 hr hq => HST0.out ro7 q7 true (by simpa using hov) W6 hr hq)
              have RD9 := HRD.out
              simp only [if_pos hov] at RD9
              have HRD9 := Lib.hid RD9
              have hhow : (st.1.m.how != 0) = true := by simpa using HT2.out.how (by omega)
              clear RD9

              go_wp2_with (first
                  | (go_at_call 20; refine CW5.out.mono ?_; rintro e w6 ⟨rfl, e6⟩; obtain rfl := e6.symm)
                  | (go_at_call 37; refine FW5.out.mono ?_; rintro e w6 ⟨rfl, e6⟩; obtain rfl := e6.symm)
                  | (go_at_call 36; refine (HST.out _ _ _ R5.out Q5.out).mono ?_; rintro e w8 ⟨rfl, ro8, q8, r8, n8, m8⟩; have R8 := Lib.hid r8; have N8 := Lib.hid n8; have CW8 := Lib.hid (mcount_walk n8); have M8 := Lib.hid ((M5.out.mono (R' := 45 :: (45 + 1) :: wR 10) (by simp)).trans m8); have DB8 := Lib.hid (DB5.out.keep m8 (by simp [wR])); have XB8 := Lib.hid (XB5.out.keep m8 (by simp [wR])); clear r8 n8 m8)
                  | (go_at_call 20; refine CW8.out.mono ?_; rintro e w9 ⟨rfl, e9⟩; obtain rfl := e9.symm)
                  | (go_at_call 38; refine (HRD9.out _ _ _ R8.out).mono ?_; rintro e w10 ⟨ro10, va10, vr10, vw10, vo10, rfl, o1, o2, o3, o4, m10⟩; have M10 := Lib.hid (M8.out.trans (m10.mono (by simp))); clear o1 o2 o3 o4 m10))
              go_ret
              have mm := ((HMV.out.mono (R' := 45 :: (45 + 1) :: wR 10) (by simp)).trans M10.out).fresh (by intro y hy j hj; simp [wR] at hy; show (0 : Nat) ≠ y; omega)
              exact ⟨rfl, below_of_chg (Q2.out.trans mm.chg)⟩

            · have HST := Lib.hid (fun ro7 q7 W6 hr hq => HST0.out ro7 q7 false (by simpa using hov) W6 hr hq)
              have hp8 : st.1.part ≤ 8 := by omega
              have hL2 := (HKN.out hp8).1

              have HK3 := HK2.out
              rw [if_neg (fun hh => h5 hh.1)] at HK3 hL2
              have HKN3 := Lib.hid HK3
              clear HK3
              have hLb : x.C.fuel + x.C.threads + 3 * x.C.writes + 8 ≤ 2000 := by omega
              go_wp2_with (first
                  | (go_at_call 20; refine CW5.out.mono ?_; rintro e w6 ⟨rfl, e6⟩; obtain rfl := e6.symm)
                  | (go_at_call 37; refine FW5.out.mono ?_; rintro e w6 ⟨rfl, e6⟩; obtain rfl := e6.symm)
                  | (go_at_call 36; refine (HST.out _ _ _ R5.out Q5.out).mono ?_; rintro e w8 ⟨rfl, ro8, q8, r8, n8, m8⟩; have R8 := Lib.hid r8; have N8 := Lib.hid n8; have CW8 := Lib.hid (mcount_walk n8); have M8 := Lib.hid ((M5.out.mono (R' := 45 :: (45 + 1) :: wR 10) (by simp)).trans m8); have DB8 := Lib.hid (DB5.out.keep m8 (by simp [wR])); have XB8 := Lib.hid (XB5.out.keep m8 (by simp [wR])); clear r8 n8 m8)
                  | (go_at_call 20; refine CW8.out.mono ?_; rintro e w9 ⟨rfl, e9⟩; obtain rfl := e9.symm))
              go_roundw
              case rel =>
                have mm := ((HMV.out.mono (R' := 45 :: (45 + 1) :: wR 10) (by simp)).trans M8.out).fresh (by intro y hy j hj; simp [wR] at hy; show (0 : Nat) ≠ y; omega)
                exact ⟨k + 1, st.1, ro8, q8, st.2.1, _, cnt7, L - 1, by go_num, rfl, R8.out, HWF.out, hp8, by rw [HK1.out]; simp, N8.out, HL8.out, HSF.out.2, by omega, by omega, HT2.out, (by rw [Int.natCast_succ]; exact HKN3.out), HSF.out.1, DB8.out, XB8.out, mm, by omega⟩
              case measure => simp [intOf]; omega


      · have hkF' : x.C.fuel ≤ (k : Int) := by omega
        obtain ⟨u, hu⟩ : ∃ u, ((k : Int) - x.C.fuel).tmod (1 + u2) = u := ⟨_, rfl⟩
        have hue : ((k : Int) - x.C.fuel) % (1 + u2) = u := by rw [← hu, Int.tmod_eq_emod_of_nonneg (by omega)]
        by_cases hu0 : u = 0
        · have hub : (u == 0) = true := by simp [hu0]
          obtain ⟨D, hD⟩ : ∃ D, D = ((k : Int) - x.C.fuel).tdiv (1 + u2) := ⟨_, rfl⟩
          have hDe : D = ((k : Int) - x.C.fuel) / (1 + u2) := by rw [hD, Int.tdiv_eq_ediv_of_nonneg (by omega)]
          have hD0 : 0 ≤ D := by rw [hDe]; exact Int.ediv_nonneg (by omega) (by omega)
          have hD1 : D ≤ k - x.C.fuel := by rw [hDe]; exact Int.ediv_le_self _ (by omega)
          obtain ⟨t, ht⟩ : ∃ t : Nat, (t : Int) = D % x.C.threads := ⟨(D % x.C.threads).toNat, by have := Int.emod_nonneg D (show x.C.threads ≠ 0 by omega); omega⟩
          have htl : (t : Int) < x.C.threads := by rw [ht]; exact Int.emod_lt_of_pos _ (by omega)
          have hset := HP1.out t (by unfold goneAt; rw [if_pos ⟨hkF', by rw [hue, hu0]⟩, ← hDe, ← ht]; simp)
          have h1 : IntKind.i64.wrap ((k : Int) - x.C.fuel) = (k : Int) - x.C.fuel := IntWalk.i64_in _ (by omega)
          have hDw : IntKind.i64.wrap D = D := IntWalk.i64_in _ (by omega)
          have h2' : ((k : Int) - x.C.fuel).tdiv (1 + u2) = D := hD.symm
          have h3 : D.tmod x.C.threads = t := by rw [ht, Int.tmod_eq_emod_of_nonneg hD0]
          have h3' : D % x.C.threads = t := ht.symm
          have h4 : IntKind.i64.wrap (3 + (t : Int)) = ((3 + t : Nat) : Int) := by rw [IntWalk.i64_in _ (by omega)]; omega
          have hnl : ¬ 1 + u2 = 0 := by omega
          have hnt : ¬ x.C.threads = 0 := by omega
          have KW := Lib.hid (fun W5 (mv : Mv ro' [] wr ro' W5) => poke_ok (HQ.out.keep mv (by simp) (by simp)) (3 + t) 0 (by rw [HLN.out]; omega))
          rw [← hset] at KW
          clear hset hD hDe ht hue HP0 HP1
          go_upto_region 16 with (fail)
          go_still_tail 18, (by kernel_rfl)
          change wpList _ _ _ _ _ wr.drew
          go_upto_region 17 with ((go_at_call 43; go_loud (refine (KW.out _ (Mv.refl ro' [] wr).drew).mono ?_); rintro e w5 ⟨rfl, q5, m5⟩; have n5 : Mv ro' [46] wr ro' w5 := (Mv.refl ro' [46] wr).drew.trans m5; have Q5 := Lib.hid q5; have R5 := Lib.hid (HR.out.keep n5 (by simp)); have DB5 := Lib.hid (HDB.out.keep n5 (by simp)); have XB5 := Lib.hid (HXB.out.keep n5 (by simp)); have M5 := Lib.hid n5; clear q5 m5 n5 hc hd))
          have hc := XB5.out.cell
          unfold rideC5 at hc
          have hd := DB5.out.cell
          unfold dwcells at hd
          have CW5 := Lib.hid (mcount_walk Q5.out)
          have FW5 := Lib.hid (wphase_walk R5.out)
          have fl10 := deed_end
          have flh := end_how
          by_cases h5 : s.part = 5
          · as_aux_lemma =>
              have hov : ¬ st.1.part = 9 := P5N.out h5
              have HST := Lib.hid (fun ro7 q7 W6 hr hq => HST0.out ro7 q7 false (by simpa using hov) W6 hr hq)
              have hp8 : st.1.part ≤ 8 := by omega
              have hL2 := (HKN.out hp8).1

              go_wp2_with (first
                  | (go_at_call 20; refine CW5.out.mono ?_; rintro e w6 ⟨rfl, e6⟩; obtain rfl := e6.symm)
                  | (go_at_call 37; refine FW5.out.mono ?_; rintro e w6 ⟨rfl, e6⟩; obtain rfl := e6.symm)
                  | (go_at_call 41; refine (mall_walk 81 Q5.out (by rw [HL7.out]; omega) (by rw [HL7.out]; omega)).mono ?_; rintro e w7 ⟨vn, ro7, rfl, on, m7⟩; obtain ⟨gn, cn, rfl, -, -, -⟩ := on.pos (by rw [HL7.out]; omega); have M7 := Lib.hid (M5.out.trans (m7.mono (by simp))); have Q7 := Lib.hid (Q5.out.keep m7 (by simp) (by simp)); have ON := Lib.hid on; have R7 := Lib.hid (R5.out.keep m7 (by simp)); have DB7 := Lib.hid (DB5.out.keep m7 (by simp)); have XB7 := Lib.hid (XB5.out.keep m7 (by simp)); clear on m7))
              rw [HL7.out]
              obtain ⟨tn, htn⟩ : ∃ tn : Nat, (tn : Int) = x.C.threads := ⟨x.C.threads.toNat, by omega⟩
              have htn2 : x.C.threads.toNat = tn := by omega
              have HTN := Lib.hid htn
              rw [htn2] at HK2 HKN hL2
              clear htn htn2
              go_loopw [16, 14] (fun t o wr => ∃ t2 : Nat, t = .int .i64 t2 ∧ o = .bool (oldB wsl t2) ∧ t2 ≤ tn ∧ ∃ nq, wr = w7.drewN nq) (fun t _ _ => tn - (intOf t).toNat)
              case atStart => exact ⟨0, rfl, rfl, Nat.zero_le _, 0, rfl⟩
              case round =>
                obtain ⟨t2, rfl, ho, ht2, nq, rfl⟩ := hrel
                have hc7 := XB7.out.cell
                unfold rideC5 at hc7
                by_cases hlt2 : t2 < tn
                · have hlt3 : (t2 : Int) < x.C.threads := by rw [← HTN.out]; omega
                  have hd7 := DB7.out.cell
                  unfold dwcells at hd7
                  have hx := ON.out.at1 cU_len (i := 3 + t2) (by rw [HL7.out]; omega)
                  have hy := ON.out.at1 cU_len (i := 2) (by rw [HL7.out]; omega)
                  simp only [cU, List.getElem?_cons_zero] at hx hy
                  rw [show wsl[3 + t2]'(by rw [HL7.out]; omega) = wsl.getD (3 + t2) 0 by rw [List.getD_eq_getElem?_getD, List.getElem?_eq_getElem (by rw [HL7.out]; omega)]; rfl] at hx
                  rw [show wsl[2]'(by rw [HL7.out]; omega) = wsl.getD 2 0 by rw [List.getD_eq_getElem?_getD, List.getElem?_eq_getElem (by rw [HL7.out]; omega)]; rfl] at hy
                  have OS := oldB_succ wsl t2
                  generalize wsl.getD (3 + t2) 0 = xa at *
                  generalize wsl.getD 2 0 = xb at *
                  obtain ⟨A, hA⟩ : ∃ A : Nat, A = 3 + t2 := ⟨_, rfl⟩
                  have hA' : 3 + (t2 : Int) = A := by omega
                  have hAw : IntKind.i64.wrap (3 + (t2 : Int)) = A := by rw [IntWalk.i64_in _ (by omega)]; omega
                  have hAl : (A : Int) < w0.length := by omega
                  have hl2 : 2 < w0.length := by omega
                  have hi2 : (2 : Int) < w0.length := by omega
                  rw [← hA] at hx
                  have HOS := Lib.hid OS
                  have HAA := Lib.hid hA
                  clear OS hA
                  by_cases hob : oldB wsl t2 = true
                  · rw [hob] at ho
                    subst ho
                    have HOB := Lib.hid hob
                    clear hob
                    go_wp2
                    go_quiet (fail)
                    go_wp2
                    go_roundw
                    case rel => exact ⟨t2 + 1, by go_num, (by rw [HOS.out, HOB.out]; rfl), hlt2, _, by first | rfl | simp only [World.drewN_drewN]⟩
                    case measure => simp [intOf]; omega
                  · rw [Bool.not_eq_true] at hob
                    rw [hob] at ho
                    subst ho
                    have HOB := Lib.hid hob
                    clear hob
                    by_cases hz : 0 < xa
                    · have hz' : 0 < (xa : Int) := by omega
                      have hzb : decide (0 < (xa : Int)) = true := by simp [hz]
                      by_cases hle : xa ≤ xb
                      · have hle' : (xa : Int) ≤ xb := by omega
                        have hleb : decide ((xa : Int) ≤ xb) = true := by simp [hle]
                        go_wp2
                        go_quiet (fail)
                        go_wp2
                        go_roundw
                        case rel => exact ⟨t2 + 1, by go_num, (by rw [HOS.out, HOB.out]; simp [hz, hle]), hlt2, _, by first | rfl | simp only [World.drewN_drewN]⟩
                        case measure => simp [intOf]; omega
                      · have hle' : ¬ (xa : Int) ≤ xb := by omega
                        have hleb : decide ((xa : Int) ≤ xb) = false := by simp; omega
                        go_wp2
                        go_quiet (fail)
                        go_wp2
                        go_roundw
                        case rel => exact ⟨t2 + 1, by go_num, (by rw [HOS.out, HOB.out]; simp [hz, hle]), hlt2, _, by first | rfl | simp only [World.drewN_drewN]⟩
                        case measure => simp [intOf]; omega
                    · have hz' : ¬ 0 < (xa : Int) := by omega
                      have hzb : decide (0 < (xa : Int)) = false := by simp; omega
                      go_wp2
                      go_quiet (fail)
                      go_wp2
                      go_roundw
                      case rel => exact ⟨t2 + 1, by go_num, (by rw [HOS.out, HOB.out]; simp [hz]), hlt2, _, by first | rfl | simp only [World.drewN_drewN]⟩
                      case measure => simp [intOf]; omega
                · obtain rfl : t2 = tn := by omega
                  have hlt3 : ¬ (t2 : Int) < x.C.threads := by rw [← HTN.out]; omega
                  replace Q7 := Lib.hid (Q7.out.keep ((Mv.refl _ [] _).drewN nq) (by simp) (by simp))
                  replace R7 := Lib.hid (R7.out.keep ((Mv.refl _ [] _).drewN nq) (by simp))
                  replace DB7 := Lib.hid (DB7.out.keep ((Mv.refl _ [] _).drewN nq) (by simp))
                  replace XB7 := Lib.hid (XB7.out.keep ((Mv.refl _ [] _).drewN nq) (by simp))
                  replace M7 := Lib.hid (M7.out.drewN nq)
                  by_cases hob : oldB wsl t2 = true
                  · rw [hob] at ho
                    subst ho
                    have HK3 := HK2.out
                    rw [if_pos ⟨h5, hob⟩] at HK3 hL2
                    have HKN3 := Lib.hid HK3
                    clear HK3
                    have hLb : x.C.fuel + x.C.threads + 3 * x.C.writes + 8 ≤ 2000 := by omega
                    go_wp2_with (first
                        | (go_at_call 36; refine (HST.out _ _ _ R7.out Q7.out).mono ?_; rintro e w8 ⟨rfl, ro8, q8, r8, n8, m8⟩; have R8 := Lib.hid r8; have N8 := Lib.hid n8; have CW8 := Lib.hid (mcount_walk n8); have M8 := Lib.hid ((M7.out.mono (R' := 45 :: (45 + 1) :: wR 10) (by simp)).trans m8); have DB8 := Lib.hid (DB7.out.keep m8 (by simp [wR])); have XB8 := Lib.hid (XB7.out.keep m8 (by simp [wR])); clear r8 n8 m8)
                        | (go_at_call 20; refine CW8.out.mono ?_; rintro e w9 ⟨rfl, e9⟩; obtain rfl := e9.symm))
                    go_roundw
                    case rel =>
                      have mm := ((HMV.out.mono (R' := 45 :: (45 + 1) :: wR 10) (by simp)).trans M8.out).fresh (by intro y hy j hj; simp [wR] at hy; show (0 : Nat) ≠ y; omega)
                      exact ⟨k + 1, st.1, ro8, q8, st.2.1, _, cnt7, L, by go_num, rfl, R8.out, HWF.out, hp8, by rw [HK1.out]; simp, N8.out, HL8.out, HSF.out.2, by omega, by omega, HT2.out, (by rw [Int.natCast_succ]; exact HKN3.out), HSF.out.1, DB8.out, XB8.out, mm, by omega⟩
                    case measure => simp [intOf]; omega

                  · rw [Bool.not_eq_true] at hob
                    rw [hob] at ho
                    subst ho
                    have HK3 := HK2.out
                    rw [if_neg (fun hh => by rw [hob] at hh; exact absurd hh.2 (by decide))] at HK3 hL2
                    have HKN3 := Lib.hid HK3
                    clear HK3
                    have hLb : x.C.fuel + x.C.threads + 3 * x.C.writes + 8 ≤ 2000 := by omega
                    go_wp2_with (first
                        | (go_at_call 36; refine (HST.out _ _ _ R7.out Q7.out).mono ?_; rintro e w8 ⟨rfl, ro8, q8, r8, n8, m8⟩; have R8 := Lib.hid r8; have N8 := Lib.hid n8; have CW8 := Lib.hid (mcount_walk n8); have M8 := Lib.hid ((M7.out.mono (R' := 45 :: (45 + 1) :: wR 10) (by simp)).trans m8); have DB8 := Lib.hid (DB7.out.keep m8 (by simp [wR])); have XB8 := Lib.hid (XB7.out.keep m8 (by simp [wR])); clear r8 n8 m8)
                        | (go_at_call 20; refine CW8.out.mono ?_; rintro e w9 ⟨rfl, e9⟩; obtain rfl := e9.symm))
                    go_roundw
                    case rel =>
                      have mm := ((HMV.out.mono (R' := 45 :: (45 + 1) :: wR 10) (by simp)).trans M8.out).fresh (by intro y hy j hj; simp [wR] at hy; show (0 : Nat) ≠ y; omega)
                      exact ⟨k + 1, st.1, ro8, q8, st.2.1, _, cnt7, L - 1, by go_num, rfl, R8.out, HWF.out, hp8, by rw [HK1.out]; simp, N8.out, HL8.out, HSF.out.2, by omega, by omega, HT2.out, (by rw [Int.natCast_succ]; exact HKN3.out), HSF.out.1, DB8.out, XB8.out, mm, by omega⟩
                    case measure => simp [intOf]; omega

          · as_aux_lemma =>
              by_cases hov : st.1.part = 9
              · have HST := Lib.hid (fun ro7 q7 W6 hr hq => HST0.out ro7 q7 true (by simpa using hov) W6 hr hq)
                have RD9 := HRD.out
                simp only [if_pos hov] at RD9
                have HRD9 := Lib.hid RD9
                have hhow : (st.1.m.how != 0) = true := by simpa using HT2.out.how (by omega)
                clear RD9

                go_wp2_with (first
                    | (go_at_call 20; refine CW5.out.mono ?_; rintro e w6 ⟨rfl, e6⟩; obtain rfl := e6.symm)
                    | (go_at_call 37; refine FW5.out.mono ?_; rintro e w6 ⟨rfl, e6⟩; obtain rfl := e6.symm)
                    | (go_at_call 36; refine (HST.out _ _ _ R5.out Q5.out).mono ?_; rintro e w8 ⟨rfl, ro8, q8, r8, n8, m8⟩; have R8 := Lib.hid r8; have N8 := Lib.hid n8; have CW8 := Lib.hid (mcount_walk n8); have M8 := Lib.hid ((M5.out.mono (R' := 45 :: (45 + 1) :: wR 10) (by simp)).trans m8); have DB8 := Lib.hid (DB5.out.keep m8 (by simp [wR])); have XB8 := Lib.hid (XB5.out.keep m8 (by simp [wR])); clear r8 n8 m8)
                    | (go_at_call 20; refine CW8.out.mono ?_; rintro e w9 ⟨rfl, e9⟩; obtain rfl := e9.symm)
                    | (go_at_call 38; refine (HRD9.out _ _ _ R8.out).mono ?_; rintro e w10 ⟨ro10, va10, vr10, vw10, vo10, rfl, o1, o2, o3, o4, m10⟩; have M10 := Lib.hid (M8.out.trans (m10.mono (by simp))); clear o1 o2 o3 o4 m10))
                go_ret
                have mm := ((HMV.out.mono (R' := 45 :: (45 + 1) :: wR 10) (by simp)).trans M10.out).fresh (by intro y hy j hj; simp [wR] at hy; show (0 : Nat) ≠ y; omega)
                exact ⟨rfl, below_of_chg (Q2.out.trans mm.chg)⟩

              · have HST := Lib.hid (fun ro7 q7 W6 hr hq => HST0.out ro7 q7 false (by simpa using hov) W6 hr hq)
                have hp8 : st.1.part ≤ 8 := by omega
                have hL2 := (HKN.out hp8).1

                have HK3 := HK2.out
                rw [if_neg (fun hh => h5 hh.1)] at HK3 hL2
                have HKN3 := Lib.hid HK3
                clear HK3
                have hLb : x.C.fuel + x.C.threads + 3 * x.C.writes + 8 ≤ 2000 := by omega
                go_wp2_with (first
                    | (go_at_call 20; refine CW5.out.mono ?_; rintro e w6 ⟨rfl, e6⟩; obtain rfl := e6.symm)
                    | (go_at_call 37; refine FW5.out.mono ?_; rintro e w6 ⟨rfl, e6⟩; obtain rfl := e6.symm)
                    | (go_at_call 36; refine (HST.out _ _ _ R5.out Q5.out).mono ?_; rintro e w8 ⟨rfl, ro8, q8, r8, n8, m8⟩; have R8 := Lib.hid r8; have N8 := Lib.hid n8; have CW8 := Lib.hid (mcount_walk n8); have M8 := Lib.hid ((M5.out.mono (R' := 45 :: (45 + 1) :: wR 10) (by simp)).trans m8); have DB8 := Lib.hid (DB5.out.keep m8 (by simp [wR])); have XB8 := Lib.hid (XB5.out.keep m8 (by simp [wR])); clear r8 n8 m8)
                    | (go_at_call 20; refine CW8.out.mono ?_; rintro e w9 ⟨rfl, e9⟩; obtain rfl := e9.symm))
                go_roundw
                case rel =>
                  have mm := ((HMV.out.mono (R' := 45 :: (45 + 1) :: wR 10) (by simp)).trans M8.out).fresh (by intro y hy j hj; simp [wR] at hy; show (0 : Nat) ≠ y; omega)
                  exact ⟨k + 1, st.1, ro8, q8, st.2.1, _, cnt7, L - 1, by go_num, rfl, R8.out, HWF.out, hp8, by rw [HK1.out]; simp, N8.out, HL8.out, HSF.out.2, by omega, by omega, HT2.out, (by rw [Int.natCast_succ]; exact HKN3.out), HSF.out.1, DB8.out, XB8.out, mm, by omega⟩
                case measure => simp [intOf]; omega


        · have hub : (u == 0) = false := by simpa using hu0
          have hnone := HP0.out (by unfold goneAt; rw [if_neg (fun hh => hu0 (by rw [← hue]; exact hh.2))])
          have Q5 := Lib.hid (show MemIs ro' 45 wr MB v wsl op cnt by rw [hnone]; exact HQ.out)
          have R5 := HR
          have M5 := Lib.hid (Mv.refl ro' [46] wr)
          have DB5 := HDB
          have XB5 := HXB
          have hnl : ¬ 1 + u2 = 0 := by omega
          have h1 : IntKind.i64.wrap ((k : Int) - x.C.fuel) = (k : Int) - x.C.fuel := IntWalk.i64_in _ (by omega)
          clear hnone HP0 HP1
          have CW5 := Lib.hid (mcount_walk Q5.out)
          have FW5 := Lib.hid (wphase_walk R5.out)
          have fl10 := deed_end
          have flh := end_how
          by_cases h5 : s.part = 5
          · as_aux_lemma =>
              have hov : ¬ st.1.part = 9 := P5N.out h5
              have HST := Lib.hid (fun ro7 q7 W6 hr hq => HST0.out ro7 q7 false (by simpa using hov) W6 hr hq)
              have hp8 : st.1.part ≤ 8 := by omega
              have hL2 := (HKN.out hp8).1

              go_wp2_with (first
                  | (go_at_call 20; refine CW5.out.mono ?_; rintro e w6 ⟨rfl, e6⟩; obtain rfl := e6.symm)
                  | (go_at_call 37; refine FW5.out.mono ?_; rintro e w6 ⟨rfl, e6⟩; obtain rfl := e6.symm)
                  | (go_at_call 41; refine (mall_walk 81 Q5.out (by rw [HL7.out]; omega) (by rw [HL7.out]; omega)).mono ?_; rintro e w7 ⟨vn, ro7, rfl, on, m7⟩; obtain ⟨gn, cn, rfl, -, -, -⟩ := on.pos (by rw [HL7.out]; omega); have M7 := Lib.hid (M5.out.trans (m7.mono (by simp))); have Q7 := Lib.hid (Q5.out.keep m7 (by simp) (by simp)); have ON := Lib.hid on; have R7 := Lib.hid (R5.out.keep m7 (by simp)); have DB7 := Lib.hid (DB5.out.keep m7 (by simp)); have XB7 := Lib.hid (XB5.out.keep m7 (by simp)); clear on m7))
              rw [HL7.out]
              obtain ⟨tn, htn⟩ : ∃ tn : Nat, (tn : Int) = x.C.threads := ⟨x.C.threads.toNat, by omega⟩
              have htn2 : x.C.threads.toNat = tn := by omega
              have HTN := Lib.hid htn
              rw [htn2] at HK2 HKN hL2
              clear htn htn2
              go_loopw [16, 14] (fun t o wr => ∃ t2 : Nat, t = .int .i64 t2 ∧ o = .bool (oldB wsl t2) ∧ t2 ≤ tn ∧ ∃ nq, wr = w7.drewN nq) (fun t _ _ => tn - (intOf t).toNat)
              case atStart => exact ⟨0, rfl, rfl, Nat.zero_le _, 0, rfl⟩
              case round =>
                obtain ⟨t2, rfl, ho, ht2, nq, rfl⟩ := hrel
                have hc7 := XB7.out.cell
                unfold rideC5 at hc7
                by_cases hlt2 : t2 < tn
                · have hlt3 : (t2 : Int) < x.C.threads := by rw [← HTN.out]; omega
                  have hd7 := DB7.out.cell
                  unfold dwcells at hd7
                  have hx := ON.out.at1 cU_len (i := 3 + t2) (by rw [HL7.out]; omega)
                  have hy := ON.out.at1 cU_len (i := 2) (by rw [HL7.out]; omega)
                  simp only [cU, List.getElem?_cons_zero] at hx hy
                  rw [show wsl[3 + t2]'(by rw [HL7.out]; omega) = wsl.getD (3 + t2) 0 by rw [List.getD_eq_getElem?_getD, List.getElem?_eq_getElem (by rw [HL7.out]; omega)]; rfl] at hx
                  rw [show wsl[2]'(by rw [HL7.out]; omega) = wsl.getD 2 0 by rw [List.getD_eq_getElem?_getD, List.getElem?_eq_getElem (by rw [HL7.out]; omega)]; rfl] at hy
                  have OS := oldB_succ wsl t2
                  generalize wsl.getD (3 + t2) 0 = xa at *
                  generalize wsl.getD 2 0 = xb at *
                  obtain ⟨A, hA⟩ : ∃ A : Nat, A = 3 + t2 := ⟨_, rfl⟩
                  have hA' : 3 + (t2 : Int) = A := by omega
                  have hAw : IntKind.i64.wrap (3 + (t2 : Int)) = A := by rw [IntWalk.i64_in _ (by omega)]; omega
                  have hAl : (A : Int) < w0.length := by omega
                  have hl2 : 2 < w0.length := by omega
                  have hi2 : (2 : Int) < w0.length := by omega
                  rw [← hA] at hx
                  have HOS := Lib.hid OS
                  have HAA := Lib.hid hA
                  clear OS hA
                  by_cases hob : oldB wsl t2 = true
                  · rw [hob] at ho
                    subst ho
                    have HOB := Lib.hid hob
                    clear hob
                    go_wp2
                    go_quiet (fail)
                    go_wp2
                    go_roundw
                    case rel => exact ⟨t2 + 1, by go_num, (by rw [HOS.out, HOB.out]; rfl), hlt2, _, by first | rfl | simp only [World.drewN_drewN]⟩
                    case measure => simp [intOf]; omega
                  · rw [Bool.not_eq_true] at hob
                    rw [hob] at ho
                    subst ho
                    have HOB := Lib.hid hob
                    clear hob
                    by_cases hz : 0 < xa
                    · have hz' : 0 < (xa : Int) := by omega
                      have hzb : decide (0 < (xa : Int)) = true := by simp [hz]
                      by_cases hle : xa ≤ xb
                      · have hle' : (xa : Int) ≤ xb := by omega
                        have hleb : decide ((xa : Int) ≤ xb) = true := by simp [hle]
                        go_wp2
                        go_quiet (fail)
                        go_wp2
                        go_roundw
                        case rel => exact ⟨t2 + 1, by go_num, (by rw [HOS.out, HOB.out]; simp [hz, hle]), hlt2, _, by first | rfl | simp only [World.drewN_drewN]⟩
                        case measure => simp [intOf]; omega
                      · have hle' : ¬ (xa : Int) ≤ xb := by omega
                        have hleb : decide ((xa : Int) ≤ xb) = false := by simp; omega
                        go_wp2
                        go_quiet (fail)
                        go_wp2
                        go_roundw
                        case rel => exact ⟨t2 + 1, by go_num, (by rw [HOS.out, HOB.out]; simp [hz, hle]), hlt2, _, by first | rfl | simp only [World.drewN_drewN]⟩
                        case measure => simp [intOf]; omega
                    · have hz' : ¬ 0 < (xa : Int) := by omega
                      have hzb : decide (0 < (xa : Int)) = false := by simp; omega
                      go_wp2
                      go_quiet (fail)
                      go_wp2
                      go_roundw
                      case rel => exact ⟨t2 + 1, by go_num, (by rw [HOS.out, HOB.out]; simp [hz]), hlt2, _, by first | rfl | simp only [World.drewN_drewN]⟩
                      case measure => simp [intOf]; omega
                · obtain rfl : t2 = tn := by omega
                  have hlt3 : ¬ (t2 : Int) < x.C.threads := by rw [← HTN.out]; omega
                  replace Q7 := Lib.hid (Q7.out.keep ((Mv.refl _ [] _).drewN nq) (by simp) (by simp))
                  replace R7 := Lib.hid (R7.out.keep ((Mv.refl _ [] _).drewN nq) (by simp))
                  replace DB7 := Lib.hid (DB7.out.keep ((Mv.refl _ [] _).drewN nq) (by simp))
                  replace XB7 := Lib.hid (XB7.out.keep ((Mv.refl _ [] _).drewN nq) (by simp))
                  replace M7 := Lib.hid (M7.out.drewN nq)
                  by_cases hob : oldB wsl t2 = true
                  · rw [hob] at ho
                    subst ho
                    have HK3 := HK2.out
                    rw [if_pos ⟨h5, hob⟩] at HK3 hL2
                    have HKN3 := Lib.hid HK3
                    clear HK3
                    have hLb : x.C.fuel + x.C.threads + 3 * x.C.writes + 8 ≤ 2000 := by omega
                    go_wp2_with (first
                        | (go_at_call 36; refine (HST.out _ _ _ R7.out Q7.out).mono ?_; rintro e w8 ⟨rfl, ro8, q8, r8, n8, m8⟩; have R8 := Lib.hid r8; have N8 := Lib.hid n8; have CW8 := Lib.hid (mcount_walk n8); have M8 := Lib.hid ((M7.out.mono (R' := 45 :: (45 + 1) :: wR 10) (by simp)).trans m8); have DB8 := Lib.hid (DB7.out.keep m8 (by simp [wR])); have XB8 := Lib.hid (XB7.out.keep m8 (by simp [wR])); clear r8 n8 m8)
                        | (go_at_call 20; refine CW8.out.mono ?_; rintro e w9 ⟨rfl, e9⟩; obtain rfl := e9.symm))
                    go_roundw
                    case rel =>
                      have mm := ((HMV.out.mono (R' := 45 :: (45 + 1) :: wR 10) (by simp)).trans M8.out).fresh (by intro y hy j hj; simp [wR] at hy; show (0 : Nat) ≠ y; omega)
                      exact ⟨k + 1, st.1, ro8, q8, st.2.1, _, cnt7, L, by go_num, rfl, R8.out, HWF.out, hp8, by rw [HK1.out]; simp, N8.out, HL8.out, HSF.out.2, by omega, by omega, HT2.out, (by rw [Int.natCast_succ]; exact HKN3.out), HSF.out.1, DB8.out, XB8.out, mm, by omega⟩
                    case measure => simp [intOf]; omega

                  · rw [Bool.not_eq_true] at hob
                    rw [hob] at ho
                    subst ho
                    have HK3 := HK2.out
                    rw [if_neg (fun hh => by rw [hob] at hh; exact absurd hh.2 (by decide))] at HK3 hL2
                    have HKN3 := Lib.hid HK3
                    clear HK3
                    have hLb : x.C.fuel + x.C.threads + 3 * x.C.writes + 8 ≤ 2000 := by omega
                    go_wp2_with (first
                        | (go_at_call 36; refine (HST.out _ _ _ R7.out Q7.out).mono ?_; rintro e w8 ⟨rfl, ro8, q8, r8, n8, m8⟩; have R8 := Lib.hid r8; have N8 := Lib.hid n8; have CW8 := Lib.hid (mcount_walk n8); have M8 := Lib.hid ((M7.out.mono (R' := 45 :: (45 + 1) :: wR 10) (by simp)).trans m8); have DB8 := Lib.hid (DB7.out.keep m8 (by simp [wR])); have XB8 := Lib.hid (XB7.out.keep m8 (by simp [wR])); clear r8 n8 m8)
                        | (go_at_call 20; refine CW8.out.mono ?_; rintro e w9 ⟨rfl, e9⟩; obtain rfl := e9.symm))
                    go_roundw
                    case rel =>
                      have mm := ((HMV.out.mono (R' := 45 :: (45 + 1) :: wR 10) (by simp)).trans M8.out).fresh (by intro y hy j hj; simp [wR] at hy; show (0 : Nat) ≠ y; omega)
                      exact ⟨k + 1, st.1, ro8, q8, st.2.1, _, cnt7, L - 1, by go_num, rfl, R8.out, HWF.out, hp8, by rw [HK1.out]; simp, N8.out, HL8.out, HSF.out.2, by omega, by omega, HT2.out, (by rw [Int.natCast_succ]; exact HKN3.out), HSF.out.1, DB8.out, XB8.out, mm, by omega⟩
                    case measure => simp [intOf]; omega

          · as_aux_lemma =>
              by_cases hov : st.1.part = 9
              · have HST := Lib.hid (fun ro7 q7 W6 hr hq => HST0.out ro7 q7 true (by simpa using hov) W6 hr hq)
                have RD9 := HRD.out
                simp only [if_pos hov] at RD9
                have HRD9 := Lib.hid RD9
                have hhow : (st.1.m.how != 0) = true := by simpa using HT2.out.how (by omega)
                clear RD9

                go_wp2_with (first
                    | (go_at_call 20; refine CW5.out.mono ?_; rintro e w6 ⟨rfl, e6⟩; obtain rfl := e6.symm)
                    | (go_at_call 37; refine FW5.out.mono ?_; rintro e w6 ⟨rfl, e6⟩; obtain rfl := e6.symm)
                    | (go_at_call 36; refine (HST.out _ _ _ R5.out Q5.out).mono ?_; rintro e w8 ⟨rfl, ro8, q8, r8, n8, m8⟩; have R8 := Lib.hid r8; have N8 := Lib.hid n8; have CW8 := Lib.hid (mcount_walk n8); have M8 := Lib.hid ((M5.out.mono (R' := 45 :: (45 + 1) :: wR 10) (by simp)).trans m8); have DB8 := Lib.hid (DB5.out.keep m8 (by simp [wR])); have XB8 := Lib.hid (XB5.out.keep m8 (by simp [wR])); clear r8 n8 m8)
                    | (go_at_call 20; refine CW8.out.mono ?_; rintro e w9 ⟨rfl, e9⟩; obtain rfl := e9.symm)
                    | (go_at_call 38; refine (HRD9.out _ _ _ R8.out).mono ?_; rintro e w10 ⟨ro10, va10, vr10, vw10, vo10, rfl, o1, o2, o3, o4, m10⟩; have M10 := Lib.hid (M8.out.trans (m10.mono (by simp))); clear o1 o2 o3 o4 m10))
                go_ret
                have mm := ((HMV.out.mono (R' := 45 :: (45 + 1) :: wR 10) (by simp)).trans M10.out).fresh (by intro y hy j hj; simp [wR] at hy; show (0 : Nat) ≠ y; omega)
                exact ⟨rfl, below_of_chg (Q2.out.trans mm.chg)⟩

              · have HST := Lib.hid (fun ro7 q7 W6 hr hq => HST0.out ro7 q7 false (by simpa using hov) W6 hr hq)
                have hp8 : st.1.part ≤ 8 := by omega
                have hL2 := (HKN.out hp8).1

                have HK3 := HK2.out
                rw [if_neg (fun hh => h5 hh.1)] at HK3 hL2
                have HKN3 := Lib.hid HK3
                clear HK3
                have hLb : x.C.fuel + x.C.threads + 3 * x.C.writes + 8 ≤ 2000 := by omega
                go_wp2_with (first
                    | (go_at_call 20; refine CW5.out.mono ?_; rintro e w6 ⟨rfl, e6⟩; obtain rfl := e6.symm)
                    | (go_at_call 37; refine FW5.out.mono ?_; rintro e w6 ⟨rfl, e6⟩; obtain rfl := e6.symm)
                    | (go_at_call 36; refine (HST.out _ _ _ R5.out Q5.out).mono ?_; rintro e w8 ⟨rfl, ro8, q8, r8, n8, m8⟩; have R8 := Lib.hid r8; have N8 := Lib.hid n8; have CW8 := Lib.hid (mcount_walk n8); have M8 := Lib.hid ((M5.out.mono (R' := 45 :: (45 + 1) :: wR 10) (by simp)).trans m8); have DB8 := Lib.hid (DB5.out.keep m8 (by simp [wR])); have XB8 := Lib.hid (XB5.out.keep m8 (by simp [wR])); clear r8 n8 m8)
                    | (go_at_call 20; refine CW8.out.mono ?_; rintro e w9 ⟨rfl, e9⟩; obtain rfl := e9.symm))
                go_roundw
                case rel =>
                  have mm := ((HMV.out.mono (R' := 45 :: (45 + 1) :: wR 10) (by simp)).trans M8.out).fresh (by intro y hy j hj; simp [wR] at hy; show (0 : Nat) ≠ y; omega)
                  exact ⟨k + 1, st.1, ro8, q8, st.2.1, _, cnt7, L - 1, by go_num, rfl, R8.out, HWF.out, hp8, by rw [HK1.out]; simp, N8.out, HL8.out, HSF.out.2, by omega, by omega, HT2.out, (by rw [Int.natCast_succ]; exact HKN3.out), HSF.out.1, DB8.out, XB8.out, mm, by omega⟩
                case measure => simp [intOf]; omega


  · have BN := fun w (c : Chg [] W w) => begun5_none w x _ _ _ _ ns (⟨hin.cells, hin.threads, hin.fuel, hin.writes, hin.th, hin.tag, hin.code.keep0 c, hin.codeX, hin.codeL, hin.args.keep0 c, hin.argsX, hin.argsL, hin.words.keep0 c, hin.wordsX, hin.wordsL, hin.pokes.keep0 c, hin.pokesX, hin.pokesL⟩ : RideIn w x _ _ _ _) hok
    unfold Ride.v5 at BN ⊢
    have HBN := Lib.hid BN
    clear BN hin
    go_enter Tryz.func10, Tryz.ntmps10
    go_wp2_with (first
      | (go_at_call 34; refine (LW _).mono ?_; rintro e w2 ⟨rfl, ro2, m2⟩; have q2 : Chg [] W w2 := ((Chg.refl [] W).alloc _).trans m2.chg; have hr := (m2.block _ (by simp) (by simp)).trans (heap_alloc_new _ _); have hc2 := fun o => cell_of_row w2 _ o _ _ _ hr; have Q2 := Lib.hid q2; clear m2 q2 hr)
      | (go_at_call 35; refine (HBN.out _ Q2.out).mono ?_; rintro e w3 ⟨rfl, ro3, m3⟩; have Q3 := Lib.hid (Q2.out.trans m3.chg); clear m3 hc2))
    go_ret
    exact ⟨rfl, below_of_chg Q3.out⟩
end Go.Proofs.YtphaeodcomgffaaGreat
