import Derived.Test.YtphaeodcomgffaaGreatLG
import Derived.Test.YtphaeodcomgffaaGreatQD
set_option linter.unusedVariables false
set_option linter.unusedSimpArgs false
namespace Go.Proofs.YtphaeodcomgffaaGreat
open Go.RowKit

theorem deed_reads (u0 u1 u2 u3 u4 u5 u6 u7 u8 u9 u10 u11 u12 u13 u14 u15 u16 u17 u18 : Value) (W : World) : (Instr.field 63 (.agg #[u0, u1, u2, u3, u4, u5, u6, u7, u8, u9, u10, u11, u12, u13, u14, u15, u16, u17, u18]) 7).run Tryz.prog W = .ok u7 W := by kernel_rfl
set_option maxRecDepth 100000 in
theorem lbits_walk (b : Nat) (w : World) : Calls Tryz.prog 27 #[.int .u64 b] w fun e w' => e = .returned (.int .u64 (fx b)) ∧ w' = w := by
  have e38 := run_frombits
  cases h : bad b
  · have h2 : (FloatKind.f64.format.order b b != some Ordering.eq) = false := h
    have g : fx b = b := by simp [fx, h]
    rw [g]
    clear h g
    go_enter Tryz.func27, Tryz.ntmps27
    go_wp2
    go_ret
    exact ⟨rfl, rfl⟩
  · have h2 : (FloatKind.f64.format.order b b != some Ordering.eq) = true := h
    have g : fx b = theNaN := by simp [fx, h]
    rw [g]
    clear h g
    go_enter Tryz.func27, Tryz.ntmps27
    go_wp2
    go_ret
    exact ⟨rfl, rfl⟩
set_option maxRecDepth 100000 in
set_option maxHeartbeats 8000000 in
theorem sees_all (W : World) (x : Ride) (vc va vw vp : Value) (hin : RideIn W x vc va vw vp) : Calls Tryz.prog 5 #[x.v vc va vw vp] W fun e W' => e = .returned (.bool true) ∧ Below W.heap.size W W' := by
  obtain ⟨a1, n1, c1, rfl⟩ : ∃ a n c, va = .slice a n c := by obtain ⟨a, c, e⟩ := hin.args.slice; exact ⟨_, _, _, e⟩
  obtain ⟨a2, n2, c2, rfl⟩ : ∃ a n c, vc = .slice a n c := by obtain ⟨a, c, e⟩ := hin.code.slice; exact ⟨_, _, _, e⟩
  obtain ⟨a3, n3, c3, rfl⟩ : ∃ a n c, vw = .slice a n c := by obtain ⟨a, c, e⟩ := hin.words.slice; exact ⟨_, _, _, e⟩
  obtain ⟨a4, n4, c4, rfl⟩ : ∃ a n c, vp = .slice a n c := by obtain ⟨a, c, e⟩ := hin.pokes.slice; exact ⟨_, _, _, e⟩
  have LW := fun w => live_walk w
  have HIN := Lib.hid hin
  by_cases hok : rOk x.C x.args.length x.th
  · have BW := fun w (c : Chg [] W w) => begun_ok w x _ _ _ _ (⟨hin.cells, hin.threads, hin.fuel, hin.writes, hin.th, hin.tag, hin.code.keep0 c, hin.codeX, hin.codeL, hin.args.keep0 c, hin.argsX, hin.argsL, hin.words.keep0 c, hin.wordsX, hin.wordsL, hin.pokes.keep0 c, hin.pokesX, hin.pokesL⟩ : RideIn w x _ _ _ _) hok
    unfold BegunP at BW
    unfold Ride.v at BW ⊢
    simp only [ptr] at BW
    have HBW := Lib.hid BW
    have hlw : x.words.length ≤ 9223372036854775807 := by have := hin.wordsL; omega
    have LA := fun ro w (c : Chg [] W w) => laid_any ro 45 60 (by decide) (by decide) x.C _ x.words w hok.1 (by decide) (hin.words.keep0 c) hin.wordsX hlw
    unfold LaidP cfgV at LA
    simp only [ptr] at LA
    have HLA := Lib.hid LA
    have HOK := Lib.hid hok
    clear BW hin LA hok
    by_cases htag : x.tag = 2
    · have ht2 : (x.tag == 2) = true := by simp [htag]
      clear htag
      go_enter Tryz.func5, Tryz.ntmps5
      go_wp2_with (first
        | (go_at_call 15; refine (LW _).mono ?_; rintro e w2 ⟨rfl, ro2, m2⟩; have q2 : Chg [] W w2 := ((Chg.refl [] W).alloc _).trans m2.chg; have hr := (m2.block _ (by simp) (by simp)).trans (heap_alloc_new _ _); have hc2 := fun o => cell_of_row w2 _ o _ _ _ hr; have X2 := Lib.hid (show Blk (fun _ => 0) 0 w2 W.heap.size (rideC x _ _ _ _) 31 from ⟨hr, rfl⟩); have Q2 := Lib.hid q2; clear m2 q2 hr)
        | (go_at_call 16; refine (HBW.out _ Q2.out).mono ?_; rintro e w3 ⟨X, B, ro3, q, M, vd, p, rfl, r3, d3, m3⟩; have R3 := Lib.hid r3; have D3 := Lib.hid d3; have M3 := Lib.hid m3; have x3 := X2.out.keep m3 (by simp); have hc3 := x3.cell; unfold rideC at hc3; have X3 := Lib.hid x3; clear r3 d3 m3 x3 hc2)
        | (go_at_call 23; refine (HLA.out ro3 _ (Q2.out.trans M3.out.chg)).mono ?_; rintro e w4 ⟨MB, WB, v, v2, ro4, words, rfl, hwl, hwf, q4, d4, m4⟩; have R4 := Lib.hid (R3.out.keep m4 (by simp)); have D4 := Lib.hid (D3.out.blk.keep m4 (by simp)); have X4 := Lib.hid (X3.out.keep m4 (by simp)); have hc4 := X4.out.cell; unfold rideC at hc4; have Q4 := Lib.hid q4; have W4 := Lib.hid d4; have M4 := Lib.hid (M3.out.trans m4); clear q4 d4 m4 hc3))
      go_ret
      exact ⟨rfl, below_of_chg (Q2.out.trans M4.out.chg)⟩
    · have ht2 : (x.tag == 2) = false := by simpa using htag
      have HTAG := Lib.hid htag
      clear htag
      go_enter Tryz.func5, Tryz.ntmps5
      go_wp2_with (first
        | (go_at_call 15; refine (LW _).mono ?_; rintro e w2 ⟨rfl, ro2, m2⟩; have q2 : Chg [] W w2 := ((Chg.refl [] W).alloc _).trans m2.chg; have hr := (m2.block _ (by simp) (by simp)).trans (heap_alloc_new _ _); have hc2 := fun o => cell_of_row w2 _ o _ _ _ hr; have X2 := Lib.hid (show Blk (fun _ => 0) 0 w2 W.heap.size (rideC x _ _ _ _) 31 from ⟨hr, rfl⟩); have Q2 := Lib.hid q2; clear m2 q2 hr)
        | (go_at_call 16; refine (HBW.out _ Q2.out).mono ?_; rintro e w3 ⟨X, B, ro3, q, M, vd, p, rfl, r3, d3, m3⟩; have R3 := Lib.hid r3; have D3 := Lib.hid d3; have M3 := Lib.hid m3; have x3 := X2.out.keep m3 (by simp); have hc3 := x3.cell; unfold rideC at hc3; have X3 := Lib.hid x3; clear r3 d3 m3 x3 hc2)
        | (go_at_call 23; refine (HLA.out ro3 _ (Q2.out.trans M3.out.chg)).mono ?_; rintro e w4 ⟨MB, WB, v, v2, ro4, words, rfl, hwl, hwf, q4, d4, m4⟩; have R4 := Lib.hid (R3.out.keep m4 (by simp)); have D4 := Lib.hid (D3.out.blk.keep m4 (by simp)); have X4 := Lib.hid (X3.out.keep m4 (by simp)); have hc4 := X4.out.cell; unfold rideC at hc4; have Q4 := Lib.hid q4; have W4 := Lib.hid d4; have M4 := Lib.hid (M3.out.trans m4); clear q4 d4 m4 hc3))
      have htag := HTAG.out
      clear hc4
      obtain ⟨hC, h8, t0, t1⟩ := HOK.out
      obtain ⟨C1', C2', C3', C4', C5', C6', C7', C8'⟩ := id hC
      have N4 := new_rwf (C := x.C) (code := x.code) (b := badS x.tag x.code) (args := x.args) hC (fun hb => by
        have hb' : ¬ (checkS x.tag x.code != 0) = true := by have : (checkS x.tag x.code != 0) = false := hb; rw [this]; decide
        unfold checkS at hb'
        split at hb'
        · rename_i ho; exact ⟨ho.2.2.2, ho.2.2.1, HIN.out.codeX⟩
        · exact absurd (by decide) hb') HIN.out.argsX
      have L4 := new_left x.C (badS x.tag x.code) x.args
      have HC := Lib.hid hC
      have NN := Lib.hid N4
      have LL := Lib.hid L4
      clear N4 L4 hC
      go_loopw [8] (fun i wr => ∃ (k : Nat) (s : Rs) (ro' : Nat → Nat) (q' : Rp) (ws : List Nat) (op : Bool) (cnt : Int), i = .int .i64 k ∧ RIs ro' 10 wr X x.C x.th x.tag x.code x.args s q' ∧ Rwf x.C x.code s ∧ s.part ≠ 4 ∧ s.steps = k ∧ s.left x.C + k ≤ 5 + 4 * x.C.fuel ∧ MemIs ro' 45 wr MB v ws op cnt ∧ (∀ y ∈ ws, y < 18446744073709551616) ∧ 0 ≤ cnt ∧ cnt ≤ k ∧ Seen x.C x.th words s ws ∧ WrdIs ro' 60 wr WB v2 words 0 ∧ Blk ro' 58 wr B (drcells x.C x.th x.tag drNew M vd) 42 ∧ Blk ro' 0 wr W.heap.size (rideC x (.slice a2 n2 c2) (.slice a1 n1 c1) (.slice a3 n3 c3) (.slice a4 n4 c4)) 31 ∧ Mv (fun _ => 0) [] w2 ro' wr) (fun i _ => 4106 - (intOf i).toNat)
      case atStart => exact ⟨0, _, ro4, q, words, false, 0, rfl, R4.out, NN.out, by show (1 : Int) ≠ 4; decide, rfl, by rw [LL.out]; simp, Q4.out, hwf, by decide, by decide, new_see _ _ _ _ _, W4.out, D4.out, X4.out, M4.out⟩
      case round =>
        clear R4 D4 X4 Q4 W4 M4 NN LL R3 D3 M3 X3
        obtain ⟨k, s, ro', q', ws, op, cnt, rfl, r, wf, hp, hst, hleft, qm, hwf2, c0, c1, seen, wd, db, xb, hmv⟩ := hrel
        have hlp := left_pos wf HC.out hp
        have hk : (k : Int) < x.C.fuel * 4 + 6 := by omega
        have S := rdr_step_ok (C := x.C) (tag := x.tag) (th := x.th) wf hp hwf2
        have SE := step_seen (tag := x.tag) HC.out t0 t1 htag wf hp seen
        have hwl2 : (ws.length : Int) = 3 + x.C.threads + 3 * x.C.cells := by rw [seen.len]; exact hwl
        have hc := xb.cell
        unfold rideC at hc
        have MW := most_walk x.C (by omega) (by omega)
        unfold cfgV at MW
        have c2 := step_cnt (cnt := cnt) (b := (s.step x.C x.tag x.code x.th ws).2.2)
        have RDW := fun ro7 q7 w7 (h : RIs ro7 10 w7 X x.C x.th x.tag x.code x.args (s.step x.C x.tag x.code x.th ws).1 q7) => rdeed_walk 70 h h8 (by have := S.rwf.wf.reads; have := S.rwf.wf.used1; omega) (by have := S.rwf.wf.writesL; omega) (by have := S.rwf.wf.out; have := S.rwf.wf.used1; omega)
        have STW := fun bb (hbb : ((s.step x.C x.tag x.code x.th ws).1.part == 4) = bb) W6 (hr : RIs ro' 10 W6 X x.C x.th x.tag x.code x.args s q') (hq : MemIs ro' 45 W6 MB v ws op cnt) => runP_val (readerstep_walk HC.out hr hq (by decide) hwl2 t0 t1 c0 (by omega) (by omega) (by omega) wf hp) (show Value.tuple #[.bool bb, .int .i64 0] = _ by rw [hbb])
        have HWF := Lib.hid wf
        unfold RunP at STW
        unfold DeedP deedC at RDW
        simp only [ptr] at STW RDW
        have hsf := S.fit
        have hsr := S.rwf
        have hss := S.steps
        have hsv := S.left
        generalize hST : s.step x.C x.tag x.code x.th ws = st at *
        generalize hcn : (if st.2.2 then cnt + 1 else cnt) = cnt7 at *
        obtain ⟨c2a, c2b⟩ := c2
        have hk1 : st.1.steps = (k : Int) + 1 := by rw [hss, hst]
        have HR := Lib.hid r
        have HQ := Lib.hid qm
        have HWD := Lib.hid wd
        have HDB := Lib.hid db
        have HXB := Lib.hid xb
        have HMV := Lib.hid hmv
        have HL := Lib.hid hleft
        have HRD := Lib.hid RDW
        have HSF := Lib.hid hsf
        have HSR := Lib.hid hsr
        have HSV := Lib.hid hsv
        have HSE := Lib.hid SE
        have HK1 := Lib.hid hk1
        clear RDW hsf hsr hsv hST hcn S hk1 hst hss SE r wf hp qm wd db xb hmv hleft hwf2 hlp seen hwl2 HWF
        by_cases hov : st.1.part = 4
        · have HST := Lib.hid (STW true (by simpa using hov))
          clear STW
          go_wp2_with (first
            | (go_at_call 24; refine (MW _).mono ?_; rintro e w5 ⟨rfl, b5⟩; have M5 := Lib.hid (Mv.of_below (R := []) (ro := ro') b5); have Q5 := Lib.hid (HQ.out.keep M5.out (by simp) (by simp)); have R5 := Lib.hid (HR.out.keep M5.out (by simp)); clear b5 hc)
            | (go_at_call 18; refine (HST.out _ R5.out Q5.out).mono ?_; rintro e w8 ⟨rfl, ro8, q8, r8, n8, m8⟩; have R8 := Lib.hid r8; have M8 := Lib.hid m8; have db8 := ((HDB.out.keep M5.out (by simp)).keep m8 (by simp [rR])); have DB8 := Lib.hid db8; have hd8 := db8.cell; unfold drcells at hd8; have wd8 := (HWD.out.keep M5.out (by simp) (by simp)).keep m8 (by simp [rR]) (by simp [rR]); have hw8 := wd8.blk.cell; obtain ⟨gw, cw, rfl, hgw, -, -⟩ := wd8.own.pos (by omega); have hx2 := wd8.own.at1 cU_len (i := 2) (by omega); simp only [cU, List.getElem?_cons_zero] at hx2; have WD8 := Lib.hid wd8; clear r8 n8 m8 db8 wd8))
          have fl7 := deed_reads
          obtain ⟨y2, hy2⟩ : ∃ y, y = words.getD 2 0 := ⟨_, rfl⟩
          have hy2' : words[2]'(by omega) = y2 := by rw [hy2, List.getD_eq_getElem?_getD, List.getElem?_eq_getElem (by omega)]; rfl
          rw [hy2'] at hx2
          have HY2 := Lib.hid hy2
          clear hy2 hy2'
          go_quiet (fail)
          go_wp2_with (go_at_call 22; refine (HRD.out _ _ _ (R8.out.keep ((Mv.refl _ [] _).drewN _) (by simp))).mono ?_; rintro e w10 ⟨ro10, va10, vr10, vw10, vo10, rfl, o1, o2, o3, o4, m10⟩; obtain ⟨ar, cr, rfl⟩ := o2.form; have O2 := Lib.hid o2; have M10 := Lib.hid (((Mv.refl ro8 [] w8).drewN nq).trans m10); clear o1 o2 o3 o4 m10)
          have MB10 := Lib.hid ((((HMV.out.mono (R' := [45, 46] ++ rR 10) (by simp)).trans (M5.out.mono (by simp))).trans M8.out).trans (M10.out.mono (by simp)))
          have mm10 := MB10.out.fresh (by intro y hy j hj; simp [rR] at hy; show (0 : Nat) ≠ y; omega)
          have DB10 := Lib.hid (DB8.out.keep M10.out (by simp))
          have WD10 := Lib.hid (WD8.out.keep M10.out (by simp) (by simp))
          have MM10 := Lib.hid mm10
          have HRS := Lib.hid HSE.out.reads
          clear mm10 MB10 hd8 hw8 hx2
          go_loopw [90] (fun j wr => ∃ k2 : Nat, j = .int .i64 k2 ∧ k2 ≤ st.1.m.reads.length ∧ OwnL cT ro10 71 wr 76 2 (.slice ar st.1.m.reads.length cr) st.1.m.reads ∧ WrdIs ro10 60 wr WB (.slice (some ⟨gw, 0, none⟩) words.length cw) words 0 ∧ Blk ro10 58 wr B (drcells x.C x.th x.tag drNew M vd) 42 ∧ Mv (fun _ => 0) [] w2 ro10 wr) (fun j _ => st.1.m.reads.length - (intOf j).toNat)
          case atStart => exact ⟨0, rfl, Nat.zero_le _, O2.out, WD10.out, DB10.out, MM10.out⟩
          case round =>
            clear O2 WD10 DB10 MM10
            obtain ⟨k2, rfl, hk2, ow, wd, db, hmv2⟩ := hrel
            have HM2 := Lib.hid hmv2
            by_cases hlt2 : k2 < st.1.m.reads.length
            · have hlt2' : (k2 : Int) < st.1.m.reads.length := by omega
              obtain ⟨ra, rb, rc⟩ := HRS.out _ (List.getElem_mem hlt2)
              obtain ⟨gr, cpr, er, hgr, -, -⟩ := ow.pos (by omega)
              simp only [Value.slice.injEq] at er
              obtain ⟨rfl, -, rfl⟩ := er
              have hr0 := ow.at cT_len (i := k2) (j := 0) hlt2 (by decide)
              have hr1 := ow.at cT_len (i := k2) (j := 1) hlt2 (by decide)
              simp only [cT, List.getElem?_cons_zero, List.getElem?_cons_succ, Nat.add_zero] at hr0 hr1
              obtain ⟨A, hA⟩ : ∃ A : Nat, (A : Int) = 3 + x.C.threads + 3 * st.1.m.reads[k2].1 := ⟨(3 + x.C.threads + 3 * st.1.m.reads[k2].1).toNat, by omega⟩
              have hAN : (3 + x.C.threads + 3 * st.1.m.reads[k2].1).toNat = A := by omega
              have hA1 : A < words.length := by omega
              have hA2 : A + 1 < words.length := by omega
              have hA3 : A + 2 < words.length := by omega
              have hx0 := wd.own.at1 cU_len (i := A) hA1
              have hx1 := wd.own.at1 cU_len (i := A + 1) hA2
              have hx2 := wd.own.at1 cU_len (i := A + 2) hA3
              simp only [cU, List.getElem?_cons_zero] at hx0 hx1 hx2
              have hd := db.cell
              unfold drcells at hd
              have hwb := wd.blk.cell
              unfold wantS at rc
              rw [hAN, ← HY2.out] at rc
              have g0 : words.getD A 0 = words[A] := by rw [List.getD_eq_getElem?_getD, List.getElem?_eq_getElem hA1]; rfl
              have g1 : words.getD (A + 1) 0 = words[A + 1] := by rw [List.getD_eq_getElem?_getD, List.getElem?_eq_getElem hA2]; rfl
              have g2 : words.getD (A + 2) 0 = words[A + 2] := by rw [List.getD_eq_getElem?_getD, List.getElem?_eq_getElem hA3]; rfl
              rw [g0, g1, g2] at rc
              have BW := lbits_walk
              have e28 := run_bits
              generalize words[A] = z0 at *
              generalize words[A + 1] = z1 at *
              generalize words[A + 2] = z2 at *
              generalize st.1.m.reads[k2] = tt at *
              obtain ⟨tc, ty⟩ := tt
              simp only at ra rb rc hr0 hr1 hA
              have hAl : (A : Int) < words.length := by omega
              have hAl1 : (A : Int) + 1 < words.length := by omega
              have hAl2 : (A : Int) + 2 < words.length := by omega
              have hltB := db.lt
              have hltW := wd.blk.lt
              have hltg := (wd.own.blk gw rfl).1
              have OW := Lib.hid ow
              have WD := Lib.hid wd
              have DB := Lib.hid db
              have hA' := hA.symm
              clear ow wd db hmv2 hAN g0 g1 g2 hA
              have sf := run_store_float
              have hrl : st.1.m.reads.length ≤ 1024 := by have := HSR.out.wf.reads; have := HSR.out.wf.used1; omega
              have hk2b : k2 < 1024 := by omega
              have e41 := hA'
              have HK3 := Lib.hid (show k2 + 1 ≤ st.1.m.reads.length from hlt2)
              by_cases hgt : y2 < z0
              · rw [if_pos hgt] at rc
                subst rc
                have hgt' : (y2 : Int) < z0 := by omega
                clear hgt
                go_wp2
                go_quiet (fail)
                go_wp2_with (go_at_call 27; refine (BW _ _).mono ?_; rintro e w11 ⟨rfl, rfl⟩)
                go_roundw
                case rel => exact ⟨k2 + 1, by go_num, HK3.out, OW.out.keep (((Mv.refl ro10 [] wr).alloc _).drewN _) (by simp), WD.out.keep (((Mv.refl ro10 [] wr).alloc _).drewN _) (by simp) (by simp), DB.out.keep (((Mv.refl ro10 [] wr).alloc _).drewN _) (by simp), HM2.out.trans (((Mv.refl ro10 [] wr).alloc _).drewN _)⟩
                case measure =>
                  have := HK3.out
                  simp [intOf]
                  omega
              · rw [if_neg hgt] at rc
                subst rc
                have hgt' : ¬ (y2 : Int) < z0 := by omega
                clear hgt
                go_wp2
                go_quiet (fail)
                go_wp2_with (go_at_call 27; refine (BW _ _).mono ?_; rintro e w11 ⟨rfl, rfl⟩)
                go_roundw
                case rel => exact ⟨k2 + 1, by go_num, HK3.out, OW.out.keep (((Mv.refl ro10 [] wr).alloc _).drewN _) (by simp), WD.out.keep (((Mv.refl ro10 [] wr).alloc _).drewN _) (by simp) (by simp), DB.out.keep (((Mv.refl ro10 [] wr).alloc _).drewN _) (by simp), HM2.out.trans (((Mv.refl ro10 [] wr).alloc _).drewN _)⟩
                case measure =>
                  have := HK3.out
                  simp [intOf]
                  omega
            · obtain rfl : k2 = st.1.m.reads.length := by omega
              clear ow wd db hmv2
              go_wp2
              go_ret
              exact ⟨rfl, below_of_chg (Q2.out.trans HM2.out.chg)⟩
        · have HST := Lib.hid (STW false (by simpa using hov))
          clear STW
          go_wp2_with (first
            | (go_at_call 24; refine (MW _).mono ?_; rintro e w5 ⟨rfl, b5⟩; have M5 := Lib.hid (Mv.of_below (R := []) (ro := ro') b5); have Q5 := Lib.hid (HQ.out.keep M5.out (by simp) (by simp)); have R5 := Lib.hid (HR.out.keep M5.out (by simp)); clear b5 hc)
            | (go_at_call 18; refine (HST.out _ R5.out Q5.out).mono ?_; rintro e w8 ⟨rfl, ro8, q8, r8, n8, m8⟩; have R8 := Lib.hid r8; have N8 := Lib.hid n8; have M8 := Lib.hid m8; clear r8 n8 m8))
          go_roundw
          case rel =>
            have mm := (((HMV.out.mono (R' := [45, 46] ++ rR 10) (by simp)).trans (M5.out.mono (by simp))).trans M8.out).fresh (by intro y hy j hj; simp [rR] at hy; show (0 : Nat) ≠ y; omega)
            refine ⟨k + 1, st.1, ro8, q8, st.2.1, _, cnt7, by go_num, R8.out, HSR.out, hov, by rw [HK1.out]; simp, ?_, N8.out, HSF.out, by omega, by omega, HSE.out, (HWD.out.keep M5.out (by simp) (by simp)).keep M8.out (by simp [rR]) (by simp [rR]), (HDB.out.keep M5.out (by simp)).keep M8.out (by simp [rR]), (HXB.out.keep M5.out (by simp)).keep M8.out (by simp [rR]), mm⟩
            have h1 := HSV.out
            have h2 := HL.out
            show st.1.left x.C + ((k + 1 : Nat) : Int) ≤ _
            omega
          case measure => simp [intOf]; omega
  · have BN := fun w (c : Chg [] W w) => begun_none w x _ _ _ _ (⟨hin.cells, hin.threads, hin.fuel, hin.writes, hin.th, hin.tag, hin.code.keep0 c, hin.codeX, hin.codeL, hin.args.keep0 c, hin.argsX, hin.argsL, hin.words.keep0 c, hin.wordsX, hin.wordsL, hin.pokes.keep0 c, hin.pokesX, hin.pokesL⟩ : RideIn w x _ _ _ _) hok
    unfold Ride.v at BN ⊢
    have HBN := Lib.hid BN
    clear BN hin
    go_enter Tryz.func5, Tryz.ntmps5
    go_wp2_with (first
      | (go_at_call 15; refine (LW _).mono ?_; rintro e w2 ⟨rfl, ro2, m2⟩; have q2 : Chg [] W w2 := ((Chg.refl [] W).alloc _).trans m2.chg; have hr := (m2.block _ (by simp) (by simp)).trans (heap_alloc_new _ _); have hc2 := fun o => cell_of_row w2 _ o _ _ _ hr; have Q2 := Lib.hid q2; clear m2 q2 hr)
      | (go_at_call 16; refine (HBN.out _ Q2.out).mono ?_; rintro e w3 ⟨rfl, ro3, m3⟩; have Q3 := Lib.hid (Q2.out.trans m3.chg); clear m3 hc2))
    go_ret
    exact ⟨rfl, below_of_chg Q3.out⟩
end Go.Proofs.YtphaeodcomgffaaGreat
