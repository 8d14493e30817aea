import Derived.Test.YtphaeodcomgffaaGreatLF
import Derived.Deep.QuietTactic
set_option linter.unusedVariables false
set_option linter.unusedSimpArgs false
namespace Go.Proofs.YtphaeodcomgffaaGreat
open Go.RowKit

/-- A slice that lay there at the beginning: its block has the role 0. -/
theorem old_role {w : World} {ro : Nat → Nat} {w' : World} {R : List Nat} {size : Nat} {v : Value} {rows : List (List Value)} {w0 : World} (h : Rd w0 size v rows) (hsz : w0.heap.size ≤ w.heap.size) (m : Mv (fun _ => 0) R w ro w') : 0 < rows.length → ∀ g, v.ownBlock = some g → ro g = 0 := fun hl g hg => by
  obtain ⟨b, off, c, e, hb, _⟩ := h.blk hl
  subst e
  simp only [Value.ownBlock, Option.some.injEq] at hg
  subst hg
  exact m.ext _ (by omega)
theorem setPoke_len (words : List Nat) (l : List (Int × Nat)) (i : Nat) : (setPoke words l i).length = words.length := by
  unfold setPoke
  split
  · rfl
  · split <;> simp
theorem setPoke_fit {words : List Nat} {l : List (Int × Nat)} (h : ∀ y ∈ words, y < 18446744073709551616) (hl : ∀ p ∈ l, p.2 < 18446744073709551616) (i : Nat) : ∀ y ∈ setPoke words l i, y < 18446744073709551616 := by
  unfold setPoke
  split
  · exact h
  · rename_i p hp
    split
    · exact h
    · exact set_fit h _ (hl p (List.mem_of_getElem? hp))
theorem left_pos {C : Cfg} {code : List Ins} {s : Rs} (h : Rwf C code s) (hC : C.ok) (hp : s.part ≠ 4) : 1 ≤ s.left C := by
  have p1 := h.part1; have p4 := h.part4; have u1 := h.wf.used1; have u0 := h.wf.used0
  obtain ⟨_, _, _, _, f1, _⟩ := hC
  unfold Rs.left
  split
  · rename_i e; have := (h.n1 e).1; omega
  split
  · split
    · omega
    · rename_i g hg; have := (h.read g hg).2.2.1.part3; omega
  split
  · omega
  · omega
theorem step_cnt {cnt : Int} {b : Bool} : cnt ≤ (if b then cnt + 1 else cnt) ∧ (if b then cnt + 1 else cnt) ≤ cnt + 1 := by cases b <;> simp <;> omega
theorem deed_steps (u0 u1 u2 u3 u4 u5 u6 u7 u8 u9 u10 u11 u12 u13 u14 u15 u16 u17 u18 : Value) (W : World) : (Instr.field 63 (.agg #[u0, u1, u2, u3, u4, u5, u6, u7, u8, u9, u10, u11, u12, u13, u14, u15, u16, u17, u18]) 13).run Tryz.prog W = .ok u15 W := by kernel_rfl
set_option maxRecDepth 100000 in
set_option maxHeartbeats 8000000 in
theorem waits_all (W : World) (x : Ride) (vc va vw vp : Value) (hin : RideIn W x vc va vw vp) : Calls Tryz.prog 4 #[x.v vc va vw vp] W fun e W' => e = .returned (.bool true) ∧ Below W.heap.size W W' := by
  obtain ⟨a1, n1, c1, rfl⟩ : ∃ a n c, va = .slice a n c := by obtain ⟨a, c, e⟩ := hin.args.slice; exact ⟨_, _, _, e⟩
  obtain ⟨a2, n2, c2, rfl⟩ : ∃ a n c, vc = .slice a n c := by obtain ⟨a, c, e⟩ := hin.code.slice; exact ⟨_, _, _, e⟩
  obtain ⟨a3, n3, c3, rfl⟩ : ∃ a n c, vw = .slice a n c := by obtain ⟨a, c, e⟩ := hin.words.slice; exact ⟨_, _, _, e⟩
  obtain ⟨a4, n4, c4, rfl⟩ : ∃ a n c, vp = .slice a n c := by obtain ⟨a, c, e⟩ := hin.pokes.slice; exact ⟨_, _, _, e⟩
  have LW := fun w => live_walk w
  have HIN := Lib.hid hin
  by_cases hok : rOk x.C x.args.length x.th
  · have BW := fun w (c : Chg [] W w) => begun_ok w x _ _ _ _ (⟨hin.cells, hin.threads, hin.fuel, hin.writes, hin.th, hin.tag, hin.code.keep0 c, hin.codeX, hin.codeL, hin.args.keep0 c, hin.argsX, hin.argsL, hin.words.keep0 c, hin.wordsX, hin.wordsL, hin.pokes.keep0 c, hin.pokesX, hin.pokesL⟩ : RideIn w x _ _ _ _) hok
    unfold BegunP at BW
    unfold Ride.v at BW ⊢
    simp only [ptr] at BW
    have HBW := Lib.hid BW
    have hlw : x.words.length ≤ 9223372036854775807 := by have := hin.wordsL; omega
    have LA := fun ro w (c : Chg [] W w) => laid_any ro 45 60 (by decide) (by decide) x.C _ x.words w hok.1 (by decide) (hin.words.keep0 c) hin.wordsX hlw
    unfold LaidP cfgV at LA
    simp only [ptr] at LA
    have HLA := Lib.hid LA
    have HOK := Lib.hid hok
    clear BW hin LA hok
    go_enter Tryz.func4, Tryz.ntmps4
    go_wp2_with (first
      | (go_at_call 15; refine (LW _).mono ?_; rintro e w2 ⟨rfl, ro2, m2⟩; have q2 : Chg [] W w2 := ((Chg.refl [] W).alloc _).trans m2.chg; have hr := (m2.block _ (by simp) (by simp)).trans (heap_alloc_new _ _); have hc2 := fun o => cell_of_row w2 _ o _ _ _ hr; have X2 := Lib.hid (show Blk (fun _ => 0) 0 w2 W.heap.size (rideC x _ _ _ _) 31 from ⟨hr, rfl⟩); have Q2 := Lib.hid q2; clear m2 q2 hr)
      | (go_at_call 16; refine (HBW.out _ Q2.out).mono ?_; rintro e w3 ⟨X, B, ro3, q, M, vd, p, rfl, r3, d3, m3⟩; have R3 := Lib.hid r3; have D3 := Lib.hid d3; have M3 := Lib.hid m3; have x3 := X2.out.keep m3 (by simp); have hc3 := x3.cell; unfold rideC at hc3; have X3 := Lib.hid x3; clear r3 d3 m3 x3 hc2)
      | (go_at_call 23; refine (HLA.out ro3 _ (Q2.out.trans M3.out.chg)).mono ?_; rintro e w4 ⟨MB, WB, v, v2, ro4, words, rfl, hwl, hwf, q4, d4, m4⟩; have R4 := Lib.hid (R3.out.keep m4 (by simp)); have D4 := Lib.hid (D3.out.blk.keep m4 (by simp)); have X4 := Lib.hid (X3.out.keep m4 (by simp)); have Q4 := Lib.hid q4; have W4 := Lib.hid d4; have M4 := Lib.hid (M3.out.trans m4); clear q4 d4 m4 hc3))
    obtain ⟨hC, h8, t0, t1⟩ := HOK.out
    obtain ⟨C1', C2', C3', C4', C5', C6', C7', C8'⟩ := id hC
    have N4 := new_rwf (C := x.C) (code := x.code) (b := badS x.tag x.code) (args := x.args) hC (fun hb => by
      have hb' : ¬ (checkS x.tag x.code != 0) = true := by have : (checkS x.tag x.code != 0) = false := hb; rw [this]; decide
      unfold checkS at hb'
      split at hb'
      · rename_i ho; exact ⟨ho.2.2.2, ho.2.2.1, HIN.out.codeX⟩
      · exact absurd (by decide) hb') HIN.out.argsX
    have L4 := new_left x.C (badS x.tag x.code) x.args
    have HC := Lib.hid hC
    have NN := Lib.hid N4
    have LL := Lib.hid L4
    clear N4 L4 hC
    go_loopw [8] (fun i wr => ∃ (k : Nat) (s : Rs) (ro' : Nat → Nat) (q' : Rp) (ws ws2 : List Nat) (op : Bool) (cnt : Int), i = .int .i64 k ∧ RIs ro' 10 wr X x.C x.th x.tag x.code x.args s q' ∧ Rwf x.C x.code s ∧ s.part ≠ 4 ∧ s.steps = k ∧ s.left x.C + k ≤ 5 + 4 * x.C.fuel ∧ MemIs ro' 45 wr MB v ws op cnt ∧ (ws.length : Int) = 3 + x.C.threads + 3 * x.C.cells ∧ (∀ y ∈ ws, y < 18446744073709551616) ∧ 0 ≤ cnt ∧ cnt ≤ k ∧ WrdIs ro' 60 wr WB v2 ws2 0 ∧ ws2.length = ws.length ∧ Blk ro' 58 wr B (drcells x.C x.th x.tag drNew M vd) 42 ∧ Blk ro' 0 wr W.heap.size (rideC x (.slice a2 n2 c2) (.slice a1 n1 c1) (.slice a3 n3 c3) (.slice a4 n4 c4)) 31 ∧ Mv (fun _ => 0) [] w2 ro' wr) (fun i _ => 4106 - (intOf i).toNat)
    case atStart => exact ⟨0, _, ro4, q, words, words, false, 0, rfl, R4.out, NN.out, by show (1 : Int) ≠ 4; decide, rfl, by rw [LL.out]; simp, Q4.out, hwl, hwf, by decide, by decide, W4.out, rfl, D4.out, X4.out, M4.out⟩
    case round =>
      clear R4 D4 X4 Q4 W4 M4 hwl hwf NN LL R3 D3 M3 X3
      obtain ⟨k, s, ro', q', ws, ws2, op, cnt, rfl, r, wf, hp, hst, hleft, qm, hwl, hwf, c0, c1, wd, hln, db, xb, hmv⟩ := hrel
      have hlp := left_pos wf HC.out hp
      have hk : (k : Int) < x.C.fuel * 4 + 6 := by omega
      have hpl := setPoke_len ws x.pokes k
      have hpf := setPoke_fit hwf (fun p hp => (HIN.out.pokesX p hp).2) k
      have S := rdr_step_ok (C := x.C) (tag := x.tag) (th := x.th) wf hp hpf
      have hc := xb.cell
      unfold rideC at hc
      have MW := most_walk x.C (by omega) (by omega)
      unfold cfgV at MW
      have HR := Lib.hid r
      have HWF := Lib.hid wf
      have HP := Lib.hid hp
      have HQ := Lib.hid qm
      have HWD := Lib.hid wd
      have HDB := Lib.hid db
      have HXB := Lib.hid xb
      have HMV := Lib.hid hmv
      have HS := Lib.hid S
      have HWL := Lib.hid hwl
      have HLN := Lib.hid hln
      have HPL := Lib.hid hpl
      have HL := Lib.hid hleft
      have hk6 : k < 1000000 := by omega
      clear r wf hp qm wd db xb hmv S hwl hln hpl hleft hpf hwf hlp
      have c2 := step_cnt (cnt := cnt) (b := (s.step x.C x.tag x.code x.th (setPoke ws x.pokes k)).2.2)
      have RDW := fun ro7 q7 w7 (h : RIs ro7 10 w7 X x.C x.th x.tag x.code x.args (s.step x.C x.tag x.code x.th (setPoke ws x.pokes k)).1 q7) => rdeed_walk 70 h h8 (by have := HS.out.rwf.wf.reads; have := HS.out.rwf.wf.used1; omega) (by have := HS.out.rwf.wf.writesL; omega) (by have := HS.out.rwf.wf.out; have := HS.out.rwf.wf.used1; omega)
      have STW := fun bb (hbb : ((s.step x.C x.tag x.code x.th (setPoke ws x.pokes k)).1.part == 4) = bb) W6 (hr : RIs ro' 10 W6 X x.C x.th x.tag x.code x.args s q') (hq : MemIs ro' 45 W6 MB v (setPoke ws x.pokes k) op cnt) => runP_val (readerstep_walk HC.out hr hq (by decide) (by rw [HPL.out]; exact HWL.out) t0 t1 c0 (by omega) (by omega) (by omega) HWF.out HP.out) (show Value.tuple #[.bool bb, .int .i64 0] = _ by rw [hbb])
      have PKW := fun W5 (m5 : Mv ro' [] wr ro' W5) => pokes_walk (HQ.out.keep m5 (by simp) (by simp)) (HWD.out.keep m5 (by simp) (by simp)) HLN.out (by decide) (HIN.out.pokes.keep0 (Q2.out.trans (HMV.out.chg.trans m5.chg))) k (fun hkl g hg => by have := old_role HIN.out.pokes Q2.out.size HMV.out (by simp; omega) g hg; omega) hk6 (by have := HWL.out; omega) (by have := HWL.out; omega)
      unfold PokedP at PKW
      unfold RunP at STW
      unfold DeedP deedC at RDW
      simp only [ptr] at PKW STW RDW
      have hsf := HS.out.fit
      have hsl := HS.out.len
      have hsr := HS.out.rwf
      have hss := HS.out.steps
      have hsv := HS.out.left
      have hso := HS.out.over
      generalize hST : s.step x.C x.tag x.code x.th (setPoke ws x.pokes k) = st at *
      generalize hcn : (if st.2.2 then cnt + 1 else cnt) = cnt7 at *
      obtain ⟨c2a, c2b⟩ := c2
      have c2a' : ¬ cnt7 < cnt := by omega
      have c2b' : ¬ cnt + 1 < cnt7 := by omega
      have hsk : st.1.steps = (k : Int) + 1 := by rw [hss, hst]
      simp only [hsk] at RDW
      have HPK := Lib.hid PKW
      have HRD := Lib.hid RDW
      have hk1 : st.1.steps = (k : Int) + 1 := by rw [hss, hst]
      have HSF := Lib.hid hsf
      have HSL := Lib.hid hsl
      have HSR := Lib.hid hsr
      have HSS := Lib.hid hss
      have HSV := Lib.hid hsv
      have HSO := Lib.hid hso
      have HK1 := Lib.hid hk1
      have HSTE := Lib.hid hst
      clear PKW RDW hsf hsl hsr hss hsv hso hST hcn HS hk1 hst hsk
      by_cases hov : st.1.part = 4
      · have HST := Lib.hid (STW true (by simpa using hov))
        have hwset := HSO.out hov
        have hth : ((3 + x.th.toNat : Nat) : Int) = 3 + x.th := by omega
        have PEEK := fun ro7 w7 op7 (hm : MemIs ro7 45 w7 MB v st.2.1 op7 cnt7) => peek_ok hm (3 + x.th.toNat) (by rw [HSL.out, HPL.out]; have := HWL.out; omega)
        have hv0 : st.2.1.getD (3 + x.th.toNat) 0 = 0 := by
          rw [hwset, List.getD_eq_getElem?_getD, List.getElem?_set_self (by rw [HPL.out]; have := HWL.out; omega)]; rfl
        simp only [hv0, hth] at PEEK
        have HPE := Lib.hid PEEK
        have HOV := Lib.hid hov
        clear STW PEEK hv0 hth hwset
        go_wp2_with (first
          | (go_at_call 24; refine (MW _).mono ?_; rintro e w5 ⟨rfl, b5⟩; have M5 := Lib.hid (Mv.of_below (R := []) (ro := ro') b5); have x5 := HXB.out.keep M5.out (by simp); have hc5 := x5.cell; unfold rideC at hc5; have X5 := Lib.hid x5; clear b5 hc x5)
          | (go_at_call 25; refine (HPK.out _ M5.out).mono ?_; rintro e w6 ⟨rfl, q6, d6, m6⟩; have Q6 := Lib.hid q6; have M6 := Lib.hid m6; have CW6 := Lib.hid (mcount_walk q6); have R6 := Lib.hid ((HR.out.keep M5.out (by simp)).keep m6 (by simp)); have x6 := X5.out.keep m6 (by simp); have hc6 := x6.cell; unfold rideC at hc6; have X6 := Lib.hid x6; have DB6 := Lib.hid ((HDB.out.keep M5.out (by simp)).keep m6 (by simp)); clear q6 d6 m6 x6 hc5)
          | (go_at_call 20; refine CW6.out.mono ?_; rintro e w7 ⟨rfl, rfl⟩)
          | (go_at_call 18; refine (HST.out _ R6.out Q6.out).mono ?_; rintro e w8 ⟨rfl, ro8, q8, r8, n8, m8⟩; have R8 := Lib.hid r8; have N8 := Lib.hid n8; have M8 := Lib.hid m8; have CW8 := Lib.hid (mcount_walk n8); have x8 := X6.out.keep m8 (by simp [rR]); have hc8 := x8.cell; unfold rideC at hc8; have db8 := (DB6.out.keep m8 (by simp [rR])).cell; unfold drcells at db8; clear r8 n8 m8 x8 hc6)
          | (go_at_call 20; refine CW8.out.mono ?_; rintro e w9 ⟨rfl, rfl⟩))
        have fl13 := deed_steps
        go_quiet ((go_at_call 26; exact Calls.quiet_of (HPE.out _ _ _ (N8.out.keep ((Mv.refl _ [] _).drewN _) (by simp) (by simp)))))
        go_wp2_with (go_at_call 22; refine (HRD.out _ _ _ (R8.out.keep ((Mv.refl _ [] _).drewN _) (by simp))).mono ?_; rintro e w10 ⟨ro10, va10, vr10, vw10, vo10, rfl, o1, o2, o3, o4, m10⟩; have M10 := Lib.hid m10; clear o1 o2 o3 o4 m10)
        go_ret
        have mm := (((((HMV.out.mono (R' := [46, 61] ++ ([45, 46] ++ rR 10)) (by simp)).trans (M5.out.mono (by simp))).trans (M6.out.mono (by simp +contextual))).trans (M8.out.mono (fun y hy => List.mem_append.2 (.inr hy)))).trans (((Mv.refl ro8 _ _).drewN nq).trans (M10.out.mono (by simp)))).fresh (by intro y hy j hj; simp [rR] at hy; show (0 : Nat) ≠ y; omega)
        exact ⟨rfl, below_of_chg (Q2.out.trans mm.chg)⟩
      · have HST := Lib.hid (STW false (by simpa using hov))
        clear STW
        go_wp2_with (first
          | (go_at_call 24; refine (MW _).mono ?_; rintro e w5 ⟨rfl, b5⟩; have M5 := Lib.hid (Mv.of_below (R := []) (ro := ro') b5); have x5 := HXB.out.keep M5.out (by simp); have hc5 := x5.cell; unfold rideC at hc5; have X5 := Lib.hid x5; clear b5 hc x5)
          | (go_at_call 25; refine (HPK.out _ M5.out).mono ?_; rintro e w6 ⟨rfl, q6, d6, m6⟩; have Q6 := Lib.hid q6; have M6 := Lib.hid m6; have W6 := Lib.hid d6; have CW6 := Lib.hid (mcount_walk q6); have R6 := Lib.hid ((HR.out.keep M5.out (by simp)).keep m6 (by simp)); have X6 := Lib.hid (X5.out.keep m6 (by simp)); have DB6 := Lib.hid ((HDB.out.keep M5.out (by simp)).keep m6 (by simp)); clear q6 d6 m6 hc5)
          | (go_at_call 20; refine CW6.out.mono ?_; rintro e w7 ⟨rfl, rfl⟩)
          | (go_at_call 18; refine (HST.out _ R6.out Q6.out).mono ?_; rintro e w8 ⟨rfl, ro8, q8, r8, n8, m8⟩; have R8 := Lib.hid r8; have N8 := Lib.hid n8; have M8 := Lib.hid m8; have CW8 := Lib.hid (mcount_walk n8); clear r8 n8 m8)
          | (go_at_call 20; refine CW8.out.mono ?_; rintro e w9 ⟨rfl, rfl⟩))
        go_roundw
        case rel =>
          have mm := ((((HMV.out.mono (R' := [46, 61] ++ ([45, 46] ++ rR 10)) (by simp)).trans (M5.out.mono (by simp))).trans (M6.out.mono (by simp +contextual))).trans (M8.out.mono (fun y hy => List.mem_append.2 (.inr hy)))).fresh (by intro y hy j hj; simp [rR] at hy; show (0 : Nat) ≠ y; omega)
          refine ⟨k + 1, st.1, ro8, q8, st.2.1, setPoke ws2 x.pokes k, _, cnt7, by go_num, R8.out, HSR.out, hov, by rw [HK1.out]; simp, ?_, N8.out, ?_, HSF.out, by omega, by omega, W6.out.keep M8.out (by simp [rR]) (by simp [rR]), ?_, DB6.out.keep M8.out (by simp [rR]), X6.out.keep M8.out (by simp [rR]), mm⟩
          · have h1 := HSV.out
            have h2 := HL.out
            show st.1.left x.C + ((k + 1 : Nat) : Int) ≤ _
            omega
          · rw [HSL.out, HPL.out]; exact HWL.out
          · rw [setPoke_len, HLN.out, HSL.out, HPL.out]
        case measure => simp [intOf]; omega
  · have BN := fun w (c : Chg [] W w) => begun_none w x _ _ _ _ (⟨hin.cells, hin.threads, hin.fuel, hin.writes, hin.th, hin.tag, hin.code.keep0 c, hin.codeX, hin.codeL, hin.args.keep0 c, hin.argsX, hin.argsL, hin.words.keep0 c, hin.wordsX, hin.wordsL, hin.pokes.keep0 c, hin.pokesX, hin.pokesL⟩ : RideIn w x _ _ _ _) hok
    unfold Ride.v at BN ⊢
    have HBN := Lib.hid BN
    clear BN hin
    go_enter Tryz.func4, Tryz.ntmps4
    go_wp2_with (first
      | (go_at_call 15; refine (LW _).mono ?_; rintro e w2 ⟨rfl, ro2, m2⟩; have q2 : Chg [] W w2 := ((Chg.refl [] W).alloc _).trans m2.chg; have hr := (m2.block _ (by simp) (by simp)).trans (heap_alloc_new _ _); have hc2 := fun o => cell_of_row w2 _ o _ _ _ hr; have Q2 := Lib.hid q2; clear m2 q2 hr)
      | (go_at_call 16; refine (HBN.out _ Q2.out).mono ?_; rintro e w3 ⟨rfl, ro3, m3⟩; have Q3 := Lib.hid (Q2.out.trans m3.chg); clear m3 hc2))
    go_ret
    exact ⟨rfl, below_of_chg Q3.out⟩
end Go.Proofs.YtphaeodcomgffaaGreat
