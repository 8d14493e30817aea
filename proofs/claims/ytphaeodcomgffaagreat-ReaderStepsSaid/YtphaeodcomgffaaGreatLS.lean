import Derived.Test.YtphaeodcomgffaaGreatLG
import Derived.Test.YtphaeodcomgffaaGreatDH
import Derived.Test.YtphaeodcomgffaaGreatDJ
import Derived.Test.YtphaeodcomgffaaGreatDK
import Derived.Test.YtphaeodcomgffaaGreatMB
set_option linter.unusedVariables false
set_option linter.unusedSimpArgs false
namespace Go.Proofs.YtphaeodcomgffaaGreat
open Go.RowKit

theorem rd_fix {C : Cfg} {words : List Nat} {s : Rs} {g : Rdg} (h : FixA s.m) : FixA (s.rd C words g).m := by
  unfold Rs.rd
  split
  · exact give_fix h
  · exact h
theorem rs_fix {C : Cfg} {tag : Int} {code : List Ins} {th : Int} {words : List Nat} {s : Rs} (h : FixA s.m) : FixA (s.step C tag code th words).1.m := by
  unfold Rs.step
  split
  · split
    · exact h
    · split <;> exact h
  split
  · exact h
  show FixA (({ s with steps := s.steps + 1 } : Rs).run C tag code words).1.m
  unfold Rs.run
  split
  · exact rd_fix (s := ({ s with steps := s.steps + 1 } : Rs)) h
  · have k : FixA (s.m.step C tag code).1 := step_fix h
    simp only
    split
    · exact k
    split
    · exact rd_fix (s := ({ s with steps := s.steps + 1, m := (s.m.step C tag code).1 } : Rs)) k
    · exact k
theorem sim_mark {C : Cfg} {s : Rs} {d : Dr} (h : Sim C s d) : d.mark = s.mark := by unfold Dr.mark Rs.mark; rw [h.part, h.stamp]
theorem sim_new (C : Cfg) (b : Bool) (args : List Nat) : Sim C (newRs b args) drNew := ⟨rfl, rfl, rfl, rfl, fun _ => ⟨rfl, rfl⟩, rfl⟩
theorem old_code {w w2 wr W' : World} {vc : Value} {code : List Ins} {ro' ro'' : Nat → Nat} {R : List Nat} (h : RdC w vc code) (q : Chg [] w w2) (m : Mv (fun _ => 0) [] w2 ro' wr) (k : Mv ro' R wr ro'' W') (hR : ∀ x ∈ R, 1 ≤ x) : RdC W' vc code :=
  h.keep0 (q.trans (((m.mono (by simp)).trans k).fresh (fun x hx j hj => by have := hR x hx; show (0 : Nat) ≠ x; omega)).chg)
theorem bigR : ∀ y ∈ ([46, 61] ++ ([45, 46] ++ rR 10) ++ [50, 54, 58, 60, 61] ++ [70, 71, 72, 73]), 1 ≤ y := by decide
set_option maxRecDepth 100000 in
set_option maxHeartbeats 8000000 in
theorem steps_all (W : World) (x : Ride) (vc va vw vp : Value) (hin : RideIn W x vc va vw vp) : Calls Tryz.prog 6 #[x.v vc va vw vp] W fun e W' => e = .returned (.bool true) ∧ Below W.heap.size W W' := by
  obtain ⟨a1, n1, c1, rfl⟩ : ∃ a n c, va = .slice a n c := by obtain ⟨a, c, e⟩ := hin.args.slice; exact ⟨_, _, _, e⟩
  obtain ⟨a2, n2, c2, rfl⟩ : ∃ a n c, vc = .slice a n c := by obtain ⟨a, c, e⟩ := hin.code.slice; exact ⟨_, _, _, e⟩
  obtain ⟨a3, n3, c3, rfl⟩ : ∃ a n c, vw = .slice a n c := by obtain ⟨a, c, e⟩ := hin.words.slice; exact ⟨_, _, _, e⟩
  obtain ⟨a4, n4, c4, rfl⟩ : ∃ a n c, vp = .slice a n c := by obtain ⟨a, c, e⟩ := hin.pokes.slice; exact ⟨_, _, _, e⟩
  have LW := fun w => live_walk w
  have HIN := Lib.hid hin
  by_cases hok : rOk x.C x.args.length x.th
  · have BW := fun w (c : Chg [] W w) => begun_ok w x _ _ _ _ (⟨hin.cells, hin.threads, hin.fuel, hin.writes, hin.th, hin.tag, hin.code.keep0 c, hin.codeX, hin.codeL, hin.args.keep0 c, hin.argsX, hin.argsL, hin.words.keep0 c, hin.wordsX, hin.wordsL, hin.pokes.keep0 c, hin.pokesX, hin.pokesL⟩ : RideIn w x _ _ _ _) hok
    unfold BegunP at BW
    unfold Ride.v at BW ⊢
    simp only [ptr] at BW
    have HBW := Lib.hid BW
    have hlw : x.words.length ≤ 9223372036854775807 := by have := hin.wordsL; omega
    have LA := fun ro w (c : Chg [] W w) => laid_any ro 45 60 (by decide) (by decide) x.C _ x.words w hok.1 (by decide) (hin.words.keep0 c) hin.wordsX hlw
    unfold LaidP cfgV at LA
    simp only [ptr] at LA
    have HLA := Lib.hid LA
    have HOK := Lib.hid hok
    clear BW hin LA hok
    go_enter Tryz.func6, Tryz.ntmps6
    go_wp2_with (first
      | (go_at_call 15; refine (LW _).mono ?_; rintro e w2 ⟨rfl, ro2, m2⟩; have q2 : Chg [] W w2 := ((Chg.refl [] W).alloc _).trans m2.chg; have hr := (m2.block _ (by simp) (by simp)).trans (heap_alloc_new _ _); have hc2 := fun o => cell_of_row w2 _ o _ _ _ hr; have X2 := Lib.hid (show Blk (fun _ => 0) 0 w2 W.heap.size (rideC x _ _ _ _) 31 from ⟨hr, rfl⟩); have Q2 := Lib.hid q2; clear m2 q2 hr)
      | (go_at_call 16; refine (HBW.out _ Q2.out).mono ?_; rintro e w3 ⟨X, B, ro3, q, M, vd, p, rfl, r3, d3, m3⟩; have R3 := Lib.hid r3; have D3 := Lib.hid d3; have M3 := Lib.hid m3; have x3 := X2.out.keep m3 (by simp); have hc3 := x3.cell; unfold rideC at hc3; have X3 := Lib.hid x3; clear r3 d3 m3 x3 hc2)
      | (go_at_call 23; refine (HLA.out ro3 _ (Q2.out.trans M3.out.chg)).mono ?_; rintro e w4 ⟨MB, WB, v, v2, ro4, words, rfl, hwl, hwf, q4, d4, m4⟩; have R4 := Lib.hid (R3.out.keep m4 (by simp)); have D4 := Lib.hid (D3.out.dri.keep m4 (by simp)); have X4 := Lib.hid (X3.out.keep m4 (by simp)); have Q4 := Lib.hid q4; have W4 := Lib.hid d4; have M4 := Lib.hid (M3.out.trans m4); clear q4 d4 m4 hc3))
    obtain ⟨hC, h8, t0, t1⟩ := HOK.out
    obtain ⟨C1', C2', C3', C4', C5', C6', C7', C8'⟩ := id hC
    have N4 := new_rwf (C := x.C) (code := x.code) (b := badS x.tag x.code) (args := x.args) hC (fun hb => by
      have hb' : ¬ (checkS x.tag x.code != 0) = true := by have : (checkS x.tag x.code != 0) = false := hb; rw [this]; decide
      unfold checkS at hb'
      split at hb'
      · rename_i ho; exact ⟨ho.2.2.2, ho.2.2.1, HIN.out.codeX⟩
      · exact absurd (by decide) hb') HIN.out.argsX
    have L4 := new_left x.C (badS x.tag x.code) x.args
    have F4 : FixA (newRs (badS x.tag x.code) x.args).m := new_fix (badS x.tag x.code) x.args
    have S4 := sim_new x.C (badS x.tag x.code) x.args

    have HC := Lib.hid hC
    have NN := Lib.hid N4
    have LL := Lib.hid L4
    have FF := Lib.hid F4
    have SS := Lib.hid S4
    clear N4 L4 hC F4 S4
    go_loopw [8] (fun i wr => ∃ (k : Nat) (s : Rs) (d : Dr) (ro' : Nat → Nat) (q' : Rp) (p' : Dq) (ws : List Nat) (op : Bool) (cnt : Int), i = .int .i64 k ∧ RIs ro' 10 wr X x.C x.th x.tag x.code x.args s q' ∧ DRI ro' 50 wr B x.C x.th x.tag (.slice a2 n2 c2) x.args d s.m M vd p' ∧ Rwf x.C x.code s ∧ Sim x.C s d ∧ FixA s.m ∧ s.steps = k ∧ s.left x.C + k ≤ 5 + 4 * x.C.fuel ∧ MemIs ro' 45 wr MB v ws op cnt ∧ (ws.length : Int) = 3 + x.C.threads + 3 * x.C.cells ∧ (∀ y ∈ ws, y < 18446744073709551616) ∧ 0 ≤ cnt ∧ cnt ≤ k ∧ WrdIs ro' 60 wr WB v2 ws cnt ∧ Blk ro' 0 wr W.heap.size (rideC x (.slice a2 n2 c2) (.slice a1 n1 c1) (.slice a3 n3 c3) (.slice a4 n4 c4)) 31 ∧ Mv (fun _ => 0) [] w2 ro' wr) (fun i _ => 4106 - (intOf i).toNat)
    case atStart => exact ⟨0, _, _, ro4, q, p, words, false, 0, rfl, R4.out, D4.out, NN.out, SS.out, FF.out, rfl, by rw [LL.out]; simp, Q4.out, hwl, hwf, by decide, by decide, W4.out, X4.out, M4.out⟩
    case round =>
      clear R4 D4 X4 Q4 W4 M4 hwl hwf NN LL R3 D3 M3 X3 FF SS
      obtain ⟨k, s, d, ro', q', p', ws, op, cnt, rfl, r, dr, wf, sim, fix, hst, hleft, qm, hwl, hwf, c0, c1, wd, xb, hmv⟩ := hrel
      have hl0 : 0 ≤ s.left x.C := by
        by_cases hp : s.part = 4
        · unfold Rs.left; rw [if_neg (by omega), if_neg (by omega), if_neg (by omega)]; exact Int.le_refl _
        · have := left_pos wf HC.out hp; omega
      have hk : (k : Int) ≤ x.C.fuel * 4 + 6 := by omega
      have hk7 : (k : Int) ≤ x.C.fuel * 4 + 6 + 1 := by omega
      have hpl := setPoke_len ws x.pokes k
      have hpf := setPoke_fit hwf (fun p hp => (HIN.out.pokesX p hp).2) k
      have hc := xb.cell
      unfold rideC at hc
      have MW := most_walk x.C (by omega) (by omega)
      unfold cfgV at MW
      have hk6 : k < 1000000 := by omega
      have PKW := fun W5 (m5 : Mv ro' [] wr ro' W5) => pokes_walk (qm.keep m5 (by simp) (by simp)) (wd.keep m5 (by simp) (by simp)) rfl (by decide) (HIN.out.pokes.keep0 (Q2.out.trans (hmv.chg.trans m5.chg))) k (fun hkl g hg => by have := old_role HIN.out.pokes Q2.out.size hmv (by simp; omega) g hg; omega) hk6 (by omega) (by omega)
      unfold PokedP at PKW
      simp only [ptr] at PKW
      generalize setPoke ws x.pokes k = wk at *
      have HPK := Lib.hid PKW
      have HR := Lib.hid r
      have HD := Lib.hid dr
      have HXB := Lib.hid xb
      have HMV := Lib.hid hmv
      have HWL := Lib.hid hwl
      have HPL := Lib.hid hpl
      have HPF := Lib.hid hpf
      have HSIM := Lib.hid sim
      have HFX := Lib.hid fix
      have HWF := Lib.hid wf
      have HL := Lib.hid hleft
      have HSTE := Lib.hid hst
      have sp1 := wf.part1
      have sp4 := wf.part4
      clear r dr xb hmv PKW hpf qm wd hwl hpl sim fix wf hleft hst hl0 hwf
      by_cases hp : s.part = 4
      · have HP := Lib.hid hp
        have HP9 := HP
        have HLEN := Lib.hid (show (wk.length : Int) = 3 + x.C.threads + 3 * x.C.cells by rw [HPL.out]; exact HWL.out)
        clear hp
        rcases hgb : greatS d with _ | _
        · skip
          have GW := fun (WG : World) (roG : Nat → Nat) (pG : Dq) (mG : Ms) (hG : DRI roG 50 WG B x.C x.th x.tag (.slice a2 n2 c2) x.args d mG M vd pG) => great_walk hG
          rw [hgb] at GW
          simp only [ptr] at GW
          have HGW := Lib.hid GW
          clear GW

          go_wp2_with     (first
            | (go_at_call 24; refine (MW _).mono ?_; rintro e w5 ⟨rfl, b5⟩; have M5 := Lib.hid (Mv.of_below (R := []) (ro := ro') b5); have x5 := HXB.out.keep M5.out (by simp); have hc5 := x5.cell; unfold rideC at hc5; have X5 := Lib.hid x5; clear b5 hc x5)
            | (go_at_call 25; refine (HPK.out _ M5.out).mono ?_; rintro e w6 ⟨rfl, q6, d6, m6⟩; have Q6 := Lib.hid q6; have D6 := Lib.hid d6; have M6 := Lib.hid (show Mv ro' [46, 61] wr ro' w6 from (M5.out.mono (by simp)).trans (m6.mono (by simp))); have R6 := Lib.hid (HR.out.keep M6.out (by simp)); have E6 := Lib.hid (HD.out.keep M6.out (by simp)); have X6 := Lib.hid (HXB.out.keep M6.out (by simp)); clear q6 d6 m6 hc5)
            | (go_at_call 18; refine (rstep_over R6.out Q6.out (by rw [HPL.out]; exact HWL.out) HP.out).mono ?_; rintro e w8 ⟨rfl, n8, rfl⟩)
            | (go_at_call 29; refine (dstep_over (E6.out.keep ((Mv.refl _ [] _).drewN n8) (by simp)) (D6.out.keep ((Mv.refl _ [] _).drewN n8) (by simp) (by simp)) HC.out (by rw [HPL.out]; exact HWL.out) (by rw [HSIM.out.part]; exact HP.out)).mono ?_; rintro e w9 ⟨rfl, n9, rfl⟩; have M9 := Lib.hid (show Mv ro' ([46, 61] ++ ([45, 46] ++ rR 10) ++ [50, 54, 58, 60, 61] ++ [70, 71, 72, 73]) wr ro' ((w6.drewN n8).drewN n9) from ((M6.out.mono (by simp)).drewN n8).drewN n9); have z9 : Mv ro' [] w6 ro' ((w6.drewN n8).drewN n9) := ((Mv.refl ro' [] w6).drewN n8).drewN n9; have R9 := Lib.hid (R6.out.keep z9 (by simp)); have E9 := Lib.hid (E6.out.keep z9 (by simp)); have Q9 := Lib.hid (Q6.out.keep z9 (by simp) (by simp)); have D9 := Lib.hid (D6.out.keep z9 (by simp) (by simp)); have X9 := Lib.hid (X6.out.keep z9 (by simp)); generalize (w6.drewN n8).drewN n9 = w9 at *; clear z9 R6 E6 Q6 D6 X6)
            | (go_at_call 30; refine (HGW.out _ _ _ _ E9.out).mono ?_; rintro e wg ⟨rfl, qg, rfl⟩))

          have HW9 := HWF
          have HSM := HSIM
          have hu := HW9.out.wf.used1
          have hrl := HW9.out.wf.reads
          have h65 : s.m.reads.length ≤ 65536 := by omega
          have h66 : s.m.writes.length ≤ 65536 := by have := HW9.out.wf.writesL; omega
          have h67 : s.m.out.length ≤ 65536 := by have := HW9.out.wf.out; omega
          have hE9 := E9.out.keep ((Mv.refl ro' [] w9).drewN qg) (by simp)
          have HR9 := Lib.hid (R9.out.keep ((Mv.refl ro' [] w9).drewN qg) (by simp))
          have HX9 := Lib.hid (X9.out.keep ((Mv.refl ro' [] w9).drewN qg) (by simp))
          have HM9 := Lib.hid (M9.out.drewN qg)
          have SAW := fun roN WN (mn : Mv ro' [] (w9.drewN qg) roN WN) => samewords_walk 80 ((Q9.out.keep ((Mv.refl ro' [] w9).drewN qg) (by simp) (by simp)).keep mn (by simp) (by simp)) ((D9.out.keep ((Mv.refl ro' [] w9).drewN qg) (by simp) (by simp)).keep mn (by simp) (by simp)) (by have := HLEN.out; omega) (by have := HLEN.out; omega)
          have PHW := fun roN WN (mn : Mv ro' [] (w9.drewN qg) roN WN) => phase_walk (HR9.out.keep mn (by simp))
          have RDW := fun ro7 q7 w7 (h : RIs ro7 10 w7 X x.C x.th x.tag x.code x.args s q7) => rdeed_walk 70 h h8 h65 h66 h67
          have DDW := fun roN WN (mn : Mv ro' [] (w9.drewN qg) roN WN) => ddeed_walk (hE9.keep mn (by simp)) (by rw [HSM.out.part]; exact HW9.out.part1) (by rw [HSM.out.part]; exact HW9.out.part4)
          have TKW := fun roC roD WD xa xr xw xo (WC : World) (mD : Mv roC [] WC roD WD) (nD : Mv ro' [] (w9.drewN qg) roD WD) (o1 : OwnL cF roC 70 WC 74 1 xa (x.args.map fx)) (o2 : OwnL cT roC (70 + 1) WC 76 2 xr s.m.reads) (o3 : OwnL cT roC (70 + 2) WC 76 2 xw s.m.writes) (o4 : OwnL cF roC (70 + 3) WC 74 1 xo s.m.out) => taken_walk 70 WD x.tag s.mark s.steps (if s.part = 4 then s.m.how else 0) (if s.part = 4 then s.m.ecode else 0) (if s.part = 4 then s.m.err else 0) xa xr xw xo _ _ _ _ (x.args.map fx) s.m.out s.m.reads s.m.writes (o1.keep mD (by simp)) (o2.keep mD (by simp)) (o3.keep mD (by simp)) (o4.keep mD (by simp)) (hE9.keep nD (by simp)).args.rd (hE9.keep nD (by simp)).mach.reads.rd (hE9.keep nD (by simp)).mach.writes.rd (hE9.keep nD (by simp)).mach.out.rd (by rw [List.length_map]; omega) (by omega) (by omega) (by omega)
          have PCW := fun roN WN (mn : Mv ro' [] (w9.drewN qg) roN WN) => (show WN.cell? ⟨B, 10, none⟩ = some (.int .i64 s.part) from by rw [(hE9.keep mn (by simp)).blk.cell]; show some (Value.int .i64 d.part) = _; rw [HSM.out.part])
          have PC2W := fun roN WN (mn : Mv ro' [70, 70 + 1, 70 + 2, 70 + 3] (w9.drewN qg) roN WN) => (show WN.cell? ⟨B, 10, none⟩ = some (.int .i64 s.part) from by rw [(hE9.keep mn (by simp)).blk.cell]; show some (Value.int .i64 d.part) = _; rw [HSM.out.part])
          rw [sim_mark HSM.out, HSM.out.steps, HSM.out.part] at DDW
          unfold DeedP at RDW
          simp only [ptr] at SAW PHW RDW DDW
          have HSA := Lib.hid SAW
          have HPH := Lib.hid PHW
          have HRD := Lib.hid RDW
          have HDD := Lib.hid DDW
          have HTK := Lib.hid TKW
          have HPC := Lib.hid PCW
          have HPC2 := Lib.hid PC2W
          have HE9 := Lib.hid hE9
          have HQ9 := Lib.hid (Q9.out.keep ((Mv.refl ro' [] w9).drewN qg) (by simp) (by simp))
          have HD9 := Lib.hid (D9.out.keep ((Mv.refl ro' [] w9).drewN qg) (by simp) (by simp))
          clear SAW PHW RDW DDW TKW PCW PC2W hE9
          generalize w9.drewN qg = wN at *

          refine wp_region_noPanic ?_
          refine wp_region_held_drew (S := fun W => W.cell? ⟨B, 10, none⟩ = some (.int .i64 s.part)) (by kernel_rfl) (HPC.out ro' _ (Mv.refl ro' [] wN).drew) (fun hHeld => ?_)
          refine' wpAnyH_take (i := 0) (v := _) rfl (by kernel_rfl) (by kernel_rfl) (by kernel_rfl) (fun _ _ _ h => h) (Or.inl ⟨by kernel_rfl, ?hy1⟩) (by assumption) ?rest1
          case hy1 => (intro w hSw; (try dsimp only at hSw); go_simp; try with_reducible rfl)
          try simp only [Act.put, List.getElem_toArray, List.getElem_cons_succ, List.getElem_cons_zero, List.setIfInBounds_toArray, List.set_cons_zero, List.set_cons_succ]
          refine' wpAnyH_take (i := 1) (v := _) rfl (by kernel_rfl) (by kernel_rfl) (by kernel_rfl) (fun _ _ _ h => h) (Or.inl ⟨by kernel_rfl, ?hy2⟩) (by assumption) ?rest2
          case hy2 => (intro w hSw; (try dsimp only at hSw); go_simp; try with_reducible rfl)
          try simp only [Act.put, List.getElem_toArray, List.getElem_cons_succ, List.getElem_cons_zero, List.setIfInBounds_toArray, List.set_cons_zero, List.set_cons_succ]
          refine' wpAnyH_take (i := 2) (v := _) rfl (by kernel_rfl) (by kernel_rfl) (by kernel_rfl) (fun _ _ _ h => h) (Or.inl ⟨by kernel_rfl, ?hy3⟩) (by assumption) ?rest3
          case hy3 => (intro w hSw; (try dsimp only at hSw); go_simp; try with_reducible rfl)
          try simp only [Act.put, List.getElem_toArray, List.getElem_cons_succ, List.getElem_cons_zero, List.setIfInBounds_toArray, List.set_cons_zero, List.set_cons_succ]
          refine' wpAnyH_take (i := 3) (v := _) rfl (by kernel_rfl) (by kernel_rfl) (by kernel_rfl) (fun _ _ _ h => h) (Or.inl ⟨by kernel_rfl, ?hy4⟩) (by assumption) ?rest4
          case hy4 => (intro w hSw; (try dsimp only at hSw); go_simp; try with_reducible rfl)
          try simp only [Act.put, List.getElem_toArray, List.getElem_cons_succ, List.getElem_cons_zero, List.setIfInBounds_toArray, List.set_cons_zero, List.set_cons_succ]
          refine' wpAnyH_take (i := 4) (v := _) rfl (by kernel_rfl) (by kernel_rfl) (by kernel_rfl) (fun _ _ _ h => h) (Or.inl ⟨by kernel_rfl, ?hy5⟩) (by assumption) ?rest5
          case hy5 => (intro w hSw; (try dsimp only at hSw); go_simp; try with_reducible rfl)
          try simp only [Act.put, List.getElem_toArray, List.getElem_cons_succ, List.getElem_cons_zero, List.setIfInBounds_toArray, List.set_cons_zero, List.set_cons_succ]
          refine' wpAnyH_take (i := 5) (v := _) rfl (by kernel_rfl) (by kernel_rfl) (by kernel_rfl) (fun _ _ _ h => h) (Or.inl ⟨by kernel_rfl, ?hy6⟩) (by assumption) ?rest6
          case hy6 => (intro w hSw; (try dsimp only at hSw); go_simp; try with_reducible rfl)
          try simp only [Act.put, List.getElem_toArray, List.getElem_cons_succ, List.getElem_cons_zero, List.setIfInBounds_toArray, List.set_cons_zero, List.set_cons_succ]
          refine' wpAnyH_take (i := 6) (v := _) rfl (by kernel_rfl) (by kernel_rfl) (by kernel_rfl) (fun _ _ _ h => h) (Or.inl ⟨by kernel_rfl, ?hy7⟩) (by assumption) ?rest7
          case hy7 => (intro w hSw; (try dsimp only at hSw); go_simp; try with_reducible rfl)
          try simp only [Act.put, List.getElem_toArray, List.getElem_cons_succ, List.getElem_cons_zero, List.setIfInBounds_toArray, List.set_cons_zero, List.set_cons_succ]
          refine' wpAnyH_take (i := 7) (v := _) rfl (by kernel_rfl) (by kernel_rfl) (by kernel_rfl) (fun _ _ _ h => h) (Or.inl ⟨by kernel_rfl, ?hy8⟩) (by assumption) ?rest8
          case hy8 => (intro w hSw; (try dsimp only at hSw); go_simp; try with_reducible rfl)
          try simp only [Act.put, List.getElem_toArray, List.getElem_cons_succ, List.getElem_cons_zero, List.setIfInBounds_toArray, List.set_cons_zero, List.set_cons_succ]
          refine' wpAnyH_take (i := 8) (v := _) rfl (by kernel_rfl) (by kernel_rfl) (by kernel_rfl) (fun _ _ _ h => h) (Or.inl ⟨by kernel_rfl, ?hy9⟩) (by assumption) ?rest9
          case hy9 => (intro w hSw; (try dsimp only at hSw); go_simp; try with_reducible rfl)
          try simp only [Act.put, List.getElem_toArray, List.getElem_cons_succ, List.getElem_cons_zero, List.setIfInBounds_toArray, List.set_cons_zero, List.set_cons_succ]
          refine' wpAnyH_take (i := 9) (v := _) rfl (by kernel_rfl) (by kernel_rfl) (by kernel_rfl) (fun _ _ _ h => h) (Or.inl ⟨by kernel_rfl, ?hy10⟩) (by assumption) ?rest10
          case hy10 => (intro w hSw; (try dsimp only at hSw); go_simp; try with_reducible rfl)
          try simp only [Act.put, List.getElem_toArray, List.getElem_cons_succ, List.getElem_cons_zero, List.setIfInBounds_toArray, List.set_cons_zero, List.set_cons_succ]
          refine' wpAnyH_take (i := 10) (v := _) rfl (by kernel_rfl) (by kernel_rfl) (by kernel_rfl) (fun _ _ _ h => h) (Or.inl ⟨by kernel_rfl, ?hy11⟩) (by assumption) ?rest11
          case hy11 => (intro w hSw; (try dsimp only at hSw); go_simp; try with_reducible rfl)
          try simp only [Act.put, List.getElem_toArray, List.getElem_cons_succ, List.getElem_cons_zero, List.setIfInBounds_toArray, List.set_cons_zero, List.set_cons_succ]
          refine wpAnyH_ready (rs := [11]) (by kernel_rfl) (by simp) ?_
          refine AllReadyH.cons rfl (fun K hK => ?_) ?_
          rotate_left
          · exact AllReadyH.nil
          go_simp
          go_at_call 31
          refine (HSA.out ro' _ (Mv.refl ro' [] wN).drew).mono ?_
          rintro e wA ⟨rfl, roA, mA⟩
          have nA : Mv ro' [] wN roA wA := (Mv.refl ro' [] wN).drew.trans mA
          dsimp only
          refine hK.out _ _ (HPC.out _ _ nA) (fun hHeld => ?_)
          clear hK K
          refine' wpAnyH_take (i := 12) (v := _) rfl (by kernel_rfl) (by kernel_rfl) (by kernel_rfl) (fun _ _ _ h => h) (Or.inl ⟨by kernel_rfl, ?hy12⟩) (by assumption) ?rest12
          case hy12 => (intro w hSw; (try dsimp only at hSw); go_simp; try with_reducible rfl)
          try simp only [Act.put, List.getElem_toArray, List.getElem_cons_succ, List.getElem_cons_zero, List.setIfInBounds_toArray, List.set_cons_zero, List.set_cons_succ]
          refine' wpAnyH_take (i := 13) (v := _) rfl (by kernel_rfl) (by kernel_rfl) (by kernel_rfl) (fun _ _ _ h => h) (Or.inl ⟨by kernel_rfl, ?hy13⟩) (by assumption) ?rest13
          case hy13 => (intro w hSw; (try dsimp only at hSw); go_simp; try with_reducible rfl)
          try simp only [Act.put, List.getElem_toArray, List.getElem_cons_succ, List.getElem_cons_zero, List.setIfInBounds_toArray, List.set_cons_zero, List.set_cons_succ]
          refine' wpAnyH_take (i := 14) (v := _) rfl (by kernel_rfl) (by kernel_rfl) (by kernel_rfl) (fun _ _ _ h => h) (Or.inl ⟨by kernel_rfl, ?hy14⟩) (by assumption) ?rest14
          case hy14 => (intro w hSw; (try dsimp only at hSw); go_simp; try with_reducible rfl)
          try simp only [Act.put, List.getElem_toArray, List.getElem_cons_succ, List.getElem_cons_zero, List.setIfInBounds_toArray, List.set_cons_zero, List.set_cons_succ]
          refine' wpAnyH_take (i := 15) (v := _) rfl (by kernel_rfl) (by kernel_rfl) (by kernel_rfl) (fun _ _ _ h => h) (Or.inl ⟨by kernel_rfl, ?hy15⟩) (by assumption) ?rest15
          case hy15 => (intro w hSw; (try dsimp only at hSw); go_simp; try with_reducible rfl)
          try simp only [Act.put, List.getElem_toArray, List.getElem_cons_succ, List.getElem_cons_zero, List.setIfInBounds_toArray, List.set_cons_zero, List.set_cons_succ]
          refine' wpAnyH_take (i := 16) (v := _) rfl (by kernel_rfl) (by kernel_rfl) (by kernel_rfl) (fun _ _ _ h => h) (Or.inl ⟨by kernel_rfl, ?hy16⟩) (by assumption) ?rest16
          case hy16 => (intro w hSw; (try dsimp only at hSw); go_simp; try with_reducible rfl)
          try simp only [Act.put, List.getElem_toArray, List.getElem_cons_succ, List.getElem_cons_zero, List.setIfInBounds_toArray, List.set_cons_zero, List.set_cons_succ]
          refine' wpAnyH_take (i := 17) (v := _) rfl (by kernel_rfl) (by kernel_rfl) (by kernel_rfl) (fun _ _ _ h => h) (Or.inl ⟨by kernel_rfl, ?hy17⟩) (by assumption) ?rest17
          case hy17 => (intro w hSw; (try dsimp only at hSw); go_simp; try with_reducible rfl)
          try simp only [Act.put, List.getElem_toArray, List.getElem_cons_succ, List.getElem_cons_zero, List.setIfInBounds_toArray, List.set_cons_zero, List.set_cons_succ]
          refine' wpAnyH_take (i := 19) (v := _) rfl (by kernel_rfl) (by kernel_rfl) (by kernel_rfl) (fun _ _ _ h => h) (Or.inl ⟨by kernel_rfl, ?hy18⟩) (by assumption) ?rest18
          case hy18 => (intro w hSw; (try dsimp only at hSw); go_simp; try with_reducible rfl)
          try simp only [Act.put, List.getElem_toArray, List.getElem_cons_succ, List.getElem_cons_zero, List.setIfInBounds_toArray, List.set_cons_zero, List.set_cons_succ]
          refine' wpAnyH_take (i := 20) (v := _) rfl (by kernel_rfl) (by kernel_rfl) (by kernel_rfl) (fun _ _ _ h => h) (Or.inl ⟨by kernel_rfl, ?hy19⟩) (by assumption) ?rest19
          case hy19 => (intro w hSw; (try dsimp only at hSw); go_simp; try with_reducible rfl)
          try simp only [Act.put, List.getElem_toArray, List.getElem_cons_succ, List.getElem_cons_zero, List.setIfInBounds_toArray, List.set_cons_zero, List.set_cons_succ]
          refine' wpAnyH_take (i := 21) (v := _) rfl (by kernel_rfl) (by kernel_rfl) (by kernel_rfl) (fun _ _ _ h => h) (Or.inl ⟨by kernel_rfl, ?hy20⟩) (by assumption) ?rest20
          case hy20 => (intro w hSw; (try dsimp only at hSw); go_simp; try with_reducible rfl)
          try simp only [Act.put, List.getElem_toArray, List.getElem_cons_succ, List.getElem_cons_zero, List.setIfInBounds_toArray, List.set_cons_zero, List.set_cons_succ]
          refine' wpAnyH_take (i := 22) (v := _) rfl (by kernel_rfl) (by kernel_rfl) (by kernel_rfl) (fun _ _ _ h => h) (Or.inl ⟨by kernel_rfl, ?hy21⟩) (by assumption) ?rest21
          case hy21 => (intro w hSw; (try dsimp only at hSw); go_simp; try with_reducible rfl)
          try simp only [Act.put, List.getElem_toArray, List.getElem_cons_succ, List.getElem_cons_zero, List.setIfInBounds_toArray, List.set_cons_zero, List.set_cons_succ]
          refine wpAnyH_ready (rs := [18]) (by kernel_rfl) (by simp) ?_
          refine AllReadyH.cons rfl (fun K hK => ?_) ?_
          rotate_left
          · exact AllReadyH.nil
          go_simp
          go_at_call 21
          refine (HPH.out _ _ nA).mono ?_
          rintro e wB ⟨rfl, rfl⟩
          dsimp only
          refine hK.out _ _ (HPC.out _ _ nA) (fun hHeld => ?_)
          clear hK K
          refine' wpAnyH_take (i := 23) (v := _) rfl (by kernel_rfl) (by kernel_rfl) (by kernel_rfl) (fun _ _ _ h => h) (Or.inl ⟨by kernel_rfl, ?hy22⟩) (by assumption) ?rest22
          case hy22 => (intro w hSw; (try dsimp only at hSw); go_simp; try with_reducible rfl)
          try simp only [Act.put, List.getElem_toArray, List.getElem_cons_succ, List.getElem_cons_zero, List.setIfInBounds_toArray, List.set_cons_zero, List.set_cons_succ]
          refine' wpAnyH_take (i := 24) (v := _) rfl (by kernel_rfl) (by kernel_rfl) (by kernel_rfl) (fun _ _ _ h => h) (Or.inl ⟨by kernel_rfl, ?hy23⟩) (by assumption) ?rest23
          case hy23 => (intro w hSw; (try dsimp only at hSw); go_simp; try with_reducible rfl)
          try simp only [Act.put, List.getElem_toArray, List.getElem_cons_succ, List.getElem_cons_zero, List.setIfInBounds_toArray, List.set_cons_zero, List.set_cons_succ]
          refine' wpAnyH_take (i := 25) (v := _) rfl (by kernel_rfl) (by kernel_rfl) (by kernel_rfl) (fun _ _ _ h => h) (Or.inl ⟨by kernel_rfl, ?hy24⟩) (by assumption) ?rest24
          case hy24 => (intro w hSw; (try dsimp only at hSw); go_simp; try with_reducible rfl)
          try simp only [Act.put, List.getElem_toArray, List.getElem_cons_succ, List.getElem_cons_zero, List.setIfInBounds_toArray, List.set_cons_zero, List.set_cons_succ]
          refine' wpAnyH_take (i := 26) (v := _) rfl (by kernel_rfl) (by kernel_rfl) (by kernel_rfl) (fun _ _ _ h => h) (Or.inl ⟨by kernel_rfl, ?hy25⟩) (by assumption) ?rest25
          case hy25 => (intro w hSw; (try dsimp only at hSw); go_simp; try with_reducible rfl)
          try simp only [Act.put, List.getElem_toArray, List.getElem_cons_succ, List.getElem_cons_zero, List.setIfInBounds_toArray, List.set_cons_zero, List.set_cons_succ]
          refine' wpAnyH_take (i := 28) (v := _) rfl (by kernel_rfl) (by kernel_rfl) (by kernel_rfl) (fun _ _ _ h => h) (Or.inl ⟨by kernel_rfl, ?hy26⟩) (by assumption) ?rest26
          case hy26 => (intro w hSw; (try dsimp only at hSw); go_simp; try with_reducible rfl)
          try simp only [Act.put, List.getElem_toArray, List.getElem_cons_succ, List.getElem_cons_zero, List.setIfInBounds_toArray, List.set_cons_zero, List.set_cons_succ]
          refine wpAnyH_ready (rs := [27]) (by kernel_rfl) (by simp) ?_
          refine AllReadyH.cons rfl (fun K hK => ?_) ?_
          rotate_left
          · exact AllReadyH.nil
          go_simp
          go_at_call 22
          refine (HRD.out _ _ _ (HR9.out.keep nA (by simp))).mono ?_
          rintro e wC ⟨roC, xa, xr, xw, xo, rfl, o1, o2, o3, o4, mC⟩
          have nC := nA.trans mC
          dsimp only
          refine hK.out _ _ (HPC.out _ _ nC) (fun hHeld => ?_)
          clear hK K
          refine wpAnyH_ready (rs := [29]) (by kernel_rfl) (by simp) ?_
          refine AllReadyH.cons rfl (fun K hK => ?_) ?_
          rotate_left
          · exact AllReadyH.nil
          go_simp
          go_at_call 33
          refine (HDD.out _ _ nC).mono ?_
          rintro e wD ⟨rfl, roD, mD⟩
          have nD := nC.trans mD
          dsimp only
          refine hK.out _ _ (HPC.out _ _ nD) (fun hHeld => ?_)
          clear hK K
          refine wpAnyH_ready (rs := [30]) (by kernel_rfl) (by simp) ?_
          refine AllReadyH.cons rfl (fun K hK => ?_) ?_
          rotate_left
          · exact AllReadyH.nil
          go_simp
          go_at_call 32
          refine (HTK.out roC roD _ xa xr xw xo _ mD nD o1 o2 o3 o4).mono ?_
          rintro e wE ⟨rfl, roE, mE⟩
          have nE : Mv ro' [70, 70 + 1, 70 + 2, 70 + 3] wN roE wE := (nD.mono (by simp)).trans mE
          dsimp only
          refine hK.out _ _ (HPC2.out _ _ nE) (fun hHeld => ?_)
          clear hK K
          refine' wpAnyH_take (i := 31) (v := _) rfl (by kernel_rfl) (by kernel_rfl) (by kernel_rfl) (fun _ _ _ h => h) (Or.inl ⟨by kernel_rfl, ?hy27⟩) (by assumption) ?rest27
          case hy27 => (intro w hSw; (try dsimp only at hSw); go_simp; try with_reducible rfl)
          try simp only [Act.put, List.getElem_toArray, List.getElem_cons_succ, List.getElem_cons_zero, List.setIfInBounds_toArray, List.set_cons_zero, List.set_cons_succ]
          refine' wpAnyH_take (i := 32) (v := _) rfl (by kernel_rfl) (by kernel_rfl) (by kernel_rfl) (fun _ _ _ h => h) (Or.inl ⟨by kernel_rfl, ?hy28⟩) (by assumption) ?rest28
          case hy28 => (intro w hSw; (try dsimp only at hSw); go_simp; try with_reducible rfl)
          try simp only [Act.put, List.getElem_toArray, List.getElem_cons_succ, List.getElem_cons_zero, List.setIfInBounds_toArray, List.set_cons_zero, List.set_cons_succ]
          refine wpAnyH_done (by kernel_rfl) ?_ _
          refine NoPanic.normal ?_
          have NE := Lib.hid nE
          clear nE mE nD mD nC mC o1 o2 o3 o4 nA mA

          have hcE := HPC2.out _ _ NE.out
          rw [HP9.out] at hcE
          go_wp2
          go_ret
          have mm := ((HMV.out.mono (R' := ([46, 61] ++ ([45, 46] ++ rR 10) ++ [50, 54, 58, 60, 61] ++ [70, 71, 72, 73])) (by simp)).trans (HM9.out.trans (NE.out.mono (by simp)))).fresh (fun y hy j hj => by have := bigR y hy; show (0 : Nat) ≠ y; omega)
          exact ⟨rfl, below_of_chg (Q2.out.trans mm.chg)⟩

        · skip
          have GW := fun (WG : World) (roG : Nat → Nat) (pG : Dq) (mG : Ms) (hG : DRI roG 50 WG B x.C x.th x.tag (.slice a2 n2 c2) x.args d mG M vd pG) => great_walk hG
          rw [hgb] at GW
          simp only [ptr] at GW
          have HGW := Lib.hid GW
          clear GW

          go_wp2_with     (first
            | (go_at_call 24; refine (MW _).mono ?_; rintro e w5 ⟨rfl, b5⟩; have M5 := Lib.hid (Mv.of_below (R := []) (ro := ro') b5); have x5 := HXB.out.keep M5.out (by simp); have hc5 := x5.cell; unfold rideC at hc5; have X5 := Lib.hid x5; clear b5 hc x5)
            | (go_at_call 25; refine (HPK.out _ M5.out).mono ?_; rintro e w6 ⟨rfl, q6, d6, m6⟩; have Q6 := Lib.hid q6; have D6 := Lib.hid d6; have M6 := Lib.hid (show Mv ro' [46, 61] wr ro' w6 from (M5.out.mono (by simp)).trans (m6.mono (by simp))); have R6 := Lib.hid (HR.out.keep M6.out (by simp)); have E6 := Lib.hid (HD.out.keep M6.out (by simp)); have X6 := Lib.hid (HXB.out.keep M6.out (by simp)); clear q6 d6 m6 hc5)
            | (go_at_call 18; refine (rstep_over R6.out Q6.out (by rw [HPL.out]; exact HWL.out) HP.out).mono ?_; rintro e w8 ⟨rfl, n8, rfl⟩)
            | (go_at_call 29; refine (dstep_over (E6.out.keep ((Mv.refl _ [] _).drewN n8) (by simp)) (D6.out.keep ((Mv.refl _ [] _).drewN n8) (by simp) (by simp)) HC.out (by rw [HPL.out]; exact HWL.out) (by rw [HSIM.out.part]; exact HP.out)).mono ?_; rintro e w9 ⟨rfl, n9, rfl⟩; have M9 := Lib.hid (show Mv ro' ([46, 61] ++ ([45, 46] ++ rR 10) ++ [50, 54, 58, 60, 61] ++ [70, 71, 72, 73]) wr ro' ((w6.drewN n8).drewN n9) from ((M6.out.mono (by simp)).drewN n8).drewN n9); have z9 : Mv ro' [] w6 ro' ((w6.drewN n8).drewN n9) := ((Mv.refl ro' [] w6).drewN n8).drewN n9; have R9 := Lib.hid (R6.out.keep z9 (by simp)); have E9 := Lib.hid (E6.out.keep z9 (by simp)); have Q9 := Lib.hid (Q6.out.keep z9 (by simp) (by simp)); have D9 := Lib.hid (D6.out.keep z9 (by simp) (by simp)); have X9 := Lib.hid (X6.out.keep z9 (by simp)); generalize (w6.drewN n8).drewN n9 = w9 at *; clear z9 R6 E6 Q6 D6 X6)
            | (go_at_call 30; refine (HGW.out _ _ _ _ E9.out).mono ?_; rintro e wg ⟨rfl, qg, rfl⟩))

          go_ret
          have mm := ((HMV.out.mono (R' := ([46, 61] ++ ([45, 46] ++ rR 10) ++ [50, 54, 58, 60, 61] ++ [70, 71, 72, 73])) (by simp)).trans (M9.out.drewN qg)).fresh (fun y hy j hj => by have := bigR y hy; show (0 : Nat) ≠ y; omega)
          exact ⟨rfl, below_of_chg (Q2.out.trans mm.chg)⟩

      · skip
        have S := rdr_step_ok (C := x.C) (tag := x.tag) (th := x.th) HWF.out hp HPF.out
        have hp3 : s.part ≤ 3 := by omega
        obtain ⟨y1, y2, y3, y4⟩ := sim_step (tag := x.tag) (th := x.th) (words := wk) HWF.out HSIM.out hp3
        have fx9 := rs_fix (C := x.C) (tag := x.tag) (code := x.code) (th := x.th) (words := wk) HFX.out
        have hlen : (wk.length : Int) = 3 + x.C.threads + 3 * x.C.cells := by rw [HPL.out]; exact HWL.out
        have hst := HSTE.out
        have hd0 : 0 ≤ d.steps := by rw [HSIM.out.steps]; omega
        have hd1 : d.steps ≤ 1000000 := by rw [HSIM.out.steps]; omega
        have cc2 := step_cnt (cnt := cnt) (b := (s.step x.C x.tag x.code x.th wk).2.2)
        have STW := fun bb (hbb : ((s.step x.C x.tag x.code x.th wk).1.part == 4) = bb) W6 (hr : RIs ro' 10 W6 X x.C x.th x.tag x.code x.args s q') (hq : MemIs ro' 45 W6 MB v wk op cnt) => runP_val (readerstep_walk HC.out hr hq (by decide) hlen t0 t1 c0 (by omega) (by omega) (by omega) HWF.out hp) (show Value.tuple #[.bool bb, .int .i64 0] = _ by rw [hbb])
        have DSW := fun ro8 w8 (h : DRI ro8 50 w8 B x.C x.th x.tag (.slice a2 n2 c2) x.args d s.m M vd p') (hq : WrdIs ro8 60 w8 WB v2 wk cnt) (hcode : ∀ ro'' W', Mv ro8 (dS 50 60) w8 ro'' W' → RdC W' (.slice a2 n2 c2) x.code) => (rdstep_walk h hq (by decide) HC.out hlen c0 (by omega) hd0 hd1 t0 t1 HWF.out HSIM.out hp3 HFX.out hcode (fun hb => by have := HWF.out.len hb; omega))
        unfold RunP at STW
        unfold RdP at DSW
        simp only [y2, y3, y4, y1.part] at DSW
        simp only [ptr] at STW DSW
        have hsl : (((s.step x.C x.tag x.code x.th wk).2.1).length : Int) = 3 + x.C.threads + 3 * x.C.cells := by rw [S.len]; exact hlen
        have hk1 : (s.step x.C x.tag x.code x.th wk).1.steps = (k : Int) + 1 := by rw [S.steps, hst]
        have HLEN := Lib.hid hsl
        have HK1 := Lib.hid hk1
        have HSV := Lib.hid S.left
        have HSF := Lib.hid S.fit
        have HW9 := Lib.hid S.rwf
        have HSM := Lib.hid y1
        have HFX9 := Lib.hid fx9
        have hcn : 0 ≤ (if (s.step x.C x.tag x.code x.th wk).2.2 then cnt + 1 else cnt) := by split <;> omega
        clear S y1 y2 y3 y4 fx9 hlen hst hsl hk1
        generalize hST : s.step x.C x.tag x.code x.th wk = st at *
        generalize hcn7 : (if st.2.2 then cnt + 1 else cnt) = cnt7 at *
        generalize hDT : (d.step x.C x.tag x.code x.th wk s.m).1 = dt at *
        obtain ⟨c2a, c2b⟩ := cc2
        clear hST hcn7 hDT hp

        by_cases hov : st.1.part = 4
        · have hov4 : (st.1.part == 4) = true := by rw [hov]; rfl
          have HP9 := Lib.hid hov
          clear hov
          have HST := Lib.hid (STW true hov4)
          simp only [hov4] at DSW
          have HDS := Lib.hid DSW
          clear STW DSW
          have HV4 := Lib.hid hov4
          clear hov4
          rcases hgb : greatS dt with _ | _
          · skip
            have GW := fun (WG : World) (roG : Nat → Nat) (pG : Dq) (mG : Ms) (hG : DRI roG 50 WG B x.C x.th x.tag (.slice a2 n2 c2) x.args dt mG M vd pG) => great_walk hG
            rw [hgb] at GW
            simp only [ptr] at GW
            have HGW := Lib.hid GW
            clear GW

            go_wp2_with   (first
              | (go_at_call 24; refine (MW _).mono ?_; rintro e w5 ⟨rfl, b5⟩; have M5 := Lib.hid (Mv.of_below (R := []) (ro := ro') b5); have x5 := HXB.out.keep M5.out (by simp); have hc5 := x5.cell; unfold rideC at hc5; have X5 := Lib.hid x5; clear b5 hc x5)
              | (go_at_call 25; refine (HPK.out _ M5.out).mono ?_; rintro e w6 ⟨rfl, q6, d6, m6⟩; have Q6 := Lib.hid q6; have D6 := Lib.hid d6; have M6 := Lib.hid (show Mv ro' [46, 61] wr ro' w6 from (M5.out.mono (by simp)).trans (m6.mono (by simp))); have R6 := Lib.hid (HR.out.keep M6.out (by simp)); have E6 := Lib.hid (HD.out.keep M6.out (by simp)); have X6 := Lib.hid (HXB.out.keep M6.out (by simp)); clear q6 d6 m6 hc5)
              | (go_at_call 18; refine (HST.out _ R6.out Q6.out).mono ?_; rintro e w8 ⟨rfl, ro8, q8, r8, n8, m8⟩; have R8 := Lib.hid r8; have N8 := Lib.hid n8; have M8 := Lib.hid m8; have E8 := Lib.hid (E6.out.keep m8 (by simp [rR])); have D8 := Lib.hid (D6.out.keep m8 (by simp [rR]) (by simp [rR])); have X8 := Lib.hid (X6.out.keep m8 (by simp [rR])); clear r8 n8 m8)
              | (go_at_call 29; refine (HDS.out ro8 w8 E8.out D8.out (fun ro_ W_ mv => old_code HIN.out.code Q2.out HMV.out (((M6.out.mono (R' := ([46, 61] ++ ([45, 46] ++ rR 10) ++ [50, 54, 58, 60, 61] ++ [70, 71, 72, 73])) (by simp)).trans (M8.out.mono (by simp +contextual [rR]))).trans (mv.mono (by simp [dS]))) bigR)).mono ?_; rintro e w9 ⟨rfl, ro9, p9, e9, d9, m9⟩; have M9 := Lib.hid (show Mv ro' ([46, 61] ++ ([45, 46] ++ rR 10) ++ [50, 54, 58, 60, 61] ++ [70, 71, 72, 73]) wr ro9 w9 from ((M6.out.mono (by simp)).trans (M8.out.mono (by simp +contextual [rR]))).trans (m9.mono (by simp [dS]))); have R9 := Lib.hid (R8.out.keep m9 (by simp [dS])); have E9 := Lib.hid e9; have Q9 := Lib.hid (N8.out.keep m9 (by simp [dS]) (by simp [dS])); have D9 := Lib.hid d9; have X9 := Lib.hid (X8.out.keep m9 (by simp [dS])); clear e9 d9 m9)
              | (go_at_call 30; refine (HGW.out _ _ _ _ E9.out).mono ?_; rintro e wg ⟨rfl, qg, rfl⟩))

            have hu := HW9.out.wf.used1
            have hrl := HW9.out.wf.reads
            have h65 : st.1.m.reads.length ≤ 65536 := by omega
            have h66 : st.1.m.writes.length ≤ 65536 := by have := HW9.out.wf.writesL; omega
            have h67 : st.1.m.out.length ≤ 65536 := by have := HW9.out.wf.out; omega
            have hE9 := E9.out.keep ((Mv.refl ro9 [] w9).drewN qg) (by simp)
            have HR9 := Lib.hid (R9.out.keep ((Mv.refl ro9 [] w9).drewN qg) (by simp))
            have HX9 := Lib.hid (X9.out.keep ((Mv.refl ro9 [] w9).drewN qg) (by simp))
            have HM9 := Lib.hid (M9.out.drewN qg)
            have SAW := fun roN WN (mn : Mv ro9 [] (w9.drewN qg) roN WN) => samewords_walk 80 ((Q9.out.keep ((Mv.refl ro9 [] w9).drewN qg) (by simp) (by simp)).keep mn (by simp) (by simp)) ((D9.out.keep ((Mv.refl ro9 [] w9).drewN qg) (by simp) (by simp)).keep mn (by simp) (by simp)) (by have := HLEN.out; omega) (by have := HLEN.out; omega)
            have PHW := fun roN WN (mn : Mv ro9 [] (w9.drewN qg) roN WN) => phase_walk (HR9.out.keep mn (by simp))
            have RDW := fun ro7 q7 w7 (h : RIs ro7 10 w7 X x.C x.th x.tag x.code x.args st.1 q7) => rdeed_walk 70 h h8 h65 h66 h67
            have DDW := fun roN WN (mn : Mv ro9 [] (w9.drewN qg) roN WN) => ddeed_walk (hE9.keep mn (by simp)) (by rw [HSM.out.part]; exact HW9.out.part1) (by rw [HSM.out.part]; exact HW9.out.part4)
            have TKW := fun roC roD WD xa xr xw xo (WC : World) (mD : Mv roC [] WC roD WD) (nD : Mv ro9 [] (w9.drewN qg) roD WD) (o1 : OwnL cF roC 70 WC 74 1 xa (x.args.map fx)) (o2 : OwnL cT roC (70 + 1) WC 76 2 xr st.1.m.reads) (o3 : OwnL cT roC (70 + 2) WC 76 2 xw st.1.m.writes) (o4 : OwnL cF roC (70 + 3) WC 74 1 xo st.1.m.out) => taken_walk 70 WD x.tag st.1.mark st.1.steps (if st.1.part = 4 then st.1.m.how else 0) (if st.1.part = 4 then st.1.m.ecode else 0) (if st.1.part = 4 then st.1.m.err else 0) xa xr xw xo _ _ _ _ (x.args.map fx) st.1.m.out st.1.m.reads st.1.m.writes (o1.keep mD (by simp)) (o2.keep mD (by simp)) (o3.keep mD (by simp)) (o4.keep mD (by simp)) (hE9.keep nD (by simp)).args.rd (hE9.keep nD (by simp)).mach.reads.rd (hE9.keep nD (by simp)).mach.writes.rd (hE9.keep nD (by simp)).mach.out.rd (by rw [List.length_map]; omega) (by omega) (by omega) (by omega)
            have PCW := fun roN WN (mn : Mv ro9 [] (w9.drewN qg) roN WN) => (show WN.cell? ⟨B, 10, none⟩ = some (.int .i64 st.1.part) from by rw [(hE9.keep mn (by simp)).blk.cell]; show some (Value.int .i64 dt.part) = _; rw [HSM.out.part])
            have PC2W := fun roN WN (mn : Mv ro9 [70, 70 + 1, 70 + 2, 70 + 3] (w9.drewN qg) roN WN) => (show WN.cell? ⟨B, 10, none⟩ = some (.int .i64 st.1.part) from by rw [(hE9.keep mn (by simp)).blk.cell]; show some (Value.int .i64 dt.part) = _; rw [HSM.out.part])
            rw [sim_mark HSM.out, HSM.out.steps, HSM.out.part] at DDW
            unfold DeedP at RDW
            simp only [ptr] at SAW PHW RDW DDW
            have HSA := Lib.hid SAW
            have HPH := Lib.hid PHW
            have HRD := Lib.hid RDW
            have HDD := Lib.hid DDW
            have HTK := Lib.hid TKW
            have HPC := Lib.hid PCW
            have HPC2 := Lib.hid PC2W
            have HE9 := Lib.hid hE9
            have HQ9 := Lib.hid (Q9.out.keep ((Mv.refl ro9 [] w9).drewN qg) (by simp) (by simp))
            have HD9 := Lib.hid (D9.out.keep ((Mv.refl ro9 [] w9).drewN qg) (by simp) (by simp))
            clear SAW PHW RDW DDW TKW PCW PC2W hE9
            generalize w9.drewN qg = wN at *

            refine wp_region_noPanic ?_
            refine wp_region_held_drew (S := fun W => W.cell? ⟨B, 10, none⟩ = some (.int .i64 st.1.part)) (by kernel_rfl) (HPC.out ro9 _ (Mv.refl ro9 [] wN).drew) (fun hHeld => ?_)
            refine' wpAnyH_take (i := 0) (v := _) rfl (by kernel_rfl) (by kernel_rfl) (by kernel_rfl) (fun _ _ _ h => h) (Or.inl ⟨by kernel_rfl, ?hy29⟩) (by assumption) ?rest29
            case hy29 => (intro w hSw; (try dsimp only at hSw); go_simp; try with_reducible rfl)
            try simp only [Act.put, List.getElem_toArray, List.getElem_cons_succ, List.getElem_cons_zero, List.setIfInBounds_toArray, List.set_cons_zero, List.set_cons_succ]
            refine' wpAnyH_take (i := 1) (v := _) rfl (by kernel_rfl) (by kernel_rfl) (by kernel_rfl) (fun _ _ _ h => h) (Or.inl ⟨by kernel_rfl, ?hy30⟩) (by assumption) ?rest30
            case hy30 => (intro w hSw; (try dsimp only at hSw); go_simp; try with_reducible rfl)
            try simp only [Act.put, List.getElem_toArray, List.getElem_cons_succ, List.getElem_cons_zero, List.setIfInBounds_toArray, List.set_cons_zero, List.set_cons_succ]
            refine' wpAnyH_take (i := 2) (v := _) rfl (by kernel_rfl) (by kernel_rfl) (by kernel_rfl) (fun _ _ _ h => h) (Or.inl ⟨by kernel_rfl, ?hy31⟩) (by assumption) ?rest31
            case hy31 => (intro w hSw; (try dsimp only at hSw); go_simp; try with_reducible rfl)
            try simp only [Act.put, List.getElem_toArray, List.getElem_cons_succ, List.getElem_cons_zero, List.setIfInBounds_toArray, List.set_cons_zero, List.set_cons_succ]
            refine' wpAnyH_take (i := 3) (v := _) rfl (by kernel_rfl) (by kernel_rfl) (by kernel_rfl) (fun _ _ _ h => h) (Or.inl ⟨by kernel_rfl, ?hy32⟩) (by assumption) ?rest32
            case hy32 => (intro w hSw; (try dsimp only at hSw); go_simp; try with_reducible rfl)
            try simp only [Act.put, List.getElem_toArray, List.getElem_cons_succ, List.getElem_cons_zero, List.setIfInBounds_toArray, List.set_cons_zero, List.set_cons_succ]
            refine' wpAnyH_take (i := 4) (v := _) rfl (by kernel_rfl) (by kernel_rfl) (by kernel_rfl) (fun _ _ _ h => h) (Or.inl ⟨by kernel_rfl, ?hy33⟩) (by assumption) ?rest33
            case hy33 => (intro w hSw; (try dsimp only at hSw); go_simp; try with_reducible rfl)
            try simp only [Act.put, List.getElem_toArray, List.getElem_cons_succ, List.getElem_cons_zero, List.setIfInBounds_toArray, List.set_cons_zero, List.set_cons_succ]
            refine' wpAnyH_take (i := 5) (v := _) rfl (by kernel_rfl) (by kernel_rfl) (by kernel_rfl) (fun _ _ _ h => h) (Or.inl ⟨by kernel_rfl, ?hy34⟩) (by assumption) ?rest34
            case hy34 => (intro w hSw; (try dsimp only at hSw); go_simp; try with_reducible rfl)
            try simp only [Act.put, List.getElem_toArray, List.getElem_cons_succ, List.getElem_cons_zero, List.setIfInBounds_toArray, List.set_cons_zero, List.set_cons_succ]
            refine' wpAnyH_take (i := 6) (v := _) rfl (by kernel_rfl) (by kernel_rfl) (by kernel_rfl) (fun _ _ _ h => h) (Or.inl ⟨by kernel_rfl, ?hy35⟩) (by assumption) ?rest35
            case hy35 => (intro w hSw; (try dsimp only at hSw); go_simp; try with_reducible rfl)
            try simp only [Act.put, List.getElem_toArray, List.getElem_cons_succ, List.getElem_cons_zero, List.setIfInBounds_toArray, List.set_cons_zero, List.set_cons_succ]
            refine' wpAnyH_take (i := 7) (v := _) rfl (by kernel_rfl) (by kernel_rfl) (by kernel_rfl) (fun _ _ _ h => h) (Or.inl ⟨by kernel_rfl, ?hy36⟩) (by assumption) ?rest36
            case hy36 => (intro w hSw; (try dsimp only at hSw); go_simp; try with_reducible rfl)
            try simp only [Act.put, List.getElem_toArray, List.getElem_cons_succ, List.getElem_cons_zero, List.setIfInBounds_toArray, List.set_cons_zero, List.set_cons_succ]
            refine' wpAnyH_take (i := 8) (v := _) rfl (by kernel_rfl) (by kernel_rfl) (by kernel_rfl) (fun _ _ _ h => h) (Or.inl ⟨by kernel_rfl, ?hy37⟩) (by assumption) ?rest37
            case hy37 => (intro w hSw; (try dsimp only at hSw); go_simp; try with_reducible rfl)
            try simp only [Act.put, List.getElem_toArray, List.getElem_cons_succ, List.getElem_cons_zero, List.setIfInBounds_toArray, List.set_cons_zero, List.set_cons_succ]
            refine' wpAnyH_take (i := 9) (v := _) rfl (by kernel_rfl) (by kernel_rfl) (by kernel_rfl) (fun _ _ _ h => h) (Or.inl ⟨by kernel_rfl, ?hy38⟩) (by assumption) ?rest38
            case hy38 => (intro w hSw; (try dsimp only at hSw); go_simp; try with_reducible rfl)
            try simp only [Act.put, List.getElem_toArray, List.getElem_cons_succ, List.getElem_cons_zero, List.setIfInBounds_toArray, List.set_cons_zero, List.set_cons_succ]
            refine' wpAnyH_take (i := 10) (v := _) rfl (by kernel_rfl) (by kernel_rfl) (by kernel_rfl) (fun _ _ _ h => h) (Or.inl ⟨by kernel_rfl, ?hy39⟩) (by assumption) ?rest39
            case hy39 => (intro w hSw; (try dsimp only at hSw); go_simp; try with_reducible rfl)
            try simp only [Act.put, List.getElem_toArray, List.getElem_cons_succ, List.getElem_cons_zero, List.setIfInBounds_toArray, List.set_cons_zero, List.set_cons_succ]
            refine wpAnyH_ready (rs := [11]) (by kernel_rfl) (by simp) ?_
            refine AllReadyH.cons rfl (fun K hK => ?_) ?_
            rotate_left
            · exact AllReadyH.nil
            go_simp
            go_at_call 31
            refine (HSA.out ro9 _ (Mv.refl ro9 [] wN).drew).mono ?_
            rintro e wA ⟨rfl, roA, mA⟩
            have nA : Mv ro9 [] wN roA wA := (Mv.refl ro9 [] wN).drew.trans mA
            dsimp only
            refine hK.out _ _ (HPC.out _ _ nA) (fun hHeld => ?_)
            clear hK K
            refine' wpAnyH_take (i := 12) (v := _) rfl (by kernel_rfl) (by kernel_rfl) (by kernel_rfl) (fun _ _ _ h => h) (Or.inl ⟨by kernel_rfl, ?hy40⟩) (by assumption) ?rest40
            case hy40 => (intro w hSw; (try dsimp only at hSw); go_simp; try with_reducible rfl)
            try simp only [Act.put, List.getElem_toArray, List.getElem_cons_succ, List.getElem_cons_zero, List.setIfInBounds_toArray, List.set_cons_zero, List.set_cons_succ]
            refine' wpAnyH_take (i := 13) (v := _) rfl (by kernel_rfl) (by kernel_rfl) (by kernel_rfl) (fun _ _ _ h => h) (Or.inl ⟨by kernel_rfl, ?hy41⟩) (by assumption) ?rest41
            case hy41 => (intro w hSw; (try dsimp only at hSw); go_simp; try with_reducible rfl)
            try simp only [Act.put, List.getElem_toArray, List.getElem_cons_succ, List.getElem_cons_zero, List.setIfInBounds_toArray, List.set_cons_zero, List.set_cons_succ]
            refine' wpAnyH_take (i := 14) (v := _) rfl (by kernel_rfl) (by kernel_rfl) (by kernel_rfl) (fun _ _ _ h => h) (Or.inl ⟨by kernel_rfl, ?hy42⟩) (by assumption) ?rest42
            case hy42 => (intro w hSw; (try dsimp only at hSw); go_simp; try with_reducible rfl)
            try simp only [Act.put, List.getElem_toArray, List.getElem_cons_succ, List.getElem_cons_zero, List.setIfInBounds_toArray, List.set_cons_zero, List.set_cons_succ]
            refine' wpAnyH_take (i := 15) (v := _) rfl (by kernel_rfl) (by kernel_rfl) (by kernel_rfl) (fun _ _ _ h => h) (Or.inl ⟨by kernel_rfl, ?hy43⟩) (by assumption) ?rest43
            case hy43 => (intro w hSw; (try dsimp only at hSw); go_simp; try with_reducible rfl)
            try simp only [Act.put, List.getElem_toArray, List.getElem_cons_succ, List.getElem_cons_zero, List.setIfInBounds_toArray, List.set_cons_zero, List.set_cons_succ]
            refine' wpAnyH_take (i := 16) (v := _) rfl (by kernel_rfl) (by kernel_rfl) (by kernel_rfl) (fun _ _ _ h => h) (Or.inl ⟨by kernel_rfl, ?hy44⟩) (by assumption) ?rest44
            case hy44 => (intro w hSw; (try dsimp only at hSw); go_simp; try with_reducible rfl)
            try simp only [Act.put, List.getElem_toArray, List.getElem_cons_succ, List.getElem_cons_zero, List.setIfInBounds_toArray, List.set_cons_zero, List.set_cons_succ]
            refine' wpAnyH_take (i := 17) (v := _) rfl (by kernel_rfl) (by kernel_rfl) (by kernel_rfl) (fun _ _ _ h => h) (Or.inl ⟨by kernel_rfl, ?hy45⟩) (by assumption) ?rest45
            case hy45 => (intro w hSw; (try dsimp only at hSw); go_simp; try with_reducible rfl)
            try simp only [Act.put, List.getElem_toArray, List.getElem_cons_succ, List.getElem_cons_zero, List.setIfInBounds_toArray, List.set_cons_zero, List.set_cons_succ]
            refine' wpAnyH_take (i := 19) (v := _) rfl (by kernel_rfl) (by kernel_rfl) (by kernel_rfl) (fun _ _ _ h => h) (Or.inl ⟨by kernel_rfl, ?hy46⟩) (by assumption) ?rest46
            case hy46 => (intro w hSw; (try dsimp only at hSw); go_simp; try with_reducible rfl)
            try simp only [Act.put, List.getElem_toArray, List.getElem_cons_succ, List.getElem_cons_zero, List.setIfInBounds_toArray, List.set_cons_zero, List.set_cons_succ]
            refine' wpAnyH_take (i := 20) (v := _) rfl (by kernel_rfl) (by kernel_rfl) (by kernel_rfl) (fun _ _ _ h => h) (Or.inl ⟨by kernel_rfl, ?hy47⟩) (by assumption) ?rest47
            case hy47 => (intro w hSw; (try dsimp only at hSw); go_simp; try with_reducible rfl)
            try simp only [Act.put, List.getElem_toArray, List.getElem_cons_succ, List.getElem_cons_zero, List.setIfInBounds_toArray, List.set_cons_zero, List.set_cons_succ]
            refine' wpAnyH_take (i := 21) (v := _) rfl (by kernel_rfl) (by kernel_rfl) (by kernel_rfl) (fun _ _ _ h => h) (Or.inl ⟨by kernel_rfl, ?hy48⟩) (by assumption) ?rest48
            case hy48 => (intro w hSw; (try dsimp only at hSw); go_simp; try with_reducible rfl)
            try simp only [Act.put, List.getElem_toArray, List.getElem_cons_succ, List.getElem_cons_zero, List.setIfInBounds_toArray, List.set_cons_zero, List.set_cons_succ]
            refine' wpAnyH_take (i := 22) (v := _) rfl (by kernel_rfl) (by kernel_rfl) (by kernel_rfl) (fun _ _ _ h => h) (Or.inl ⟨by kernel_rfl, ?hy49⟩) (by assumption) ?rest49
            case hy49 => (intro w hSw; (try dsimp only at hSw); go_simp; try with_reducible rfl)
            try simp only [Act.put, List.getElem_toArray, List.getElem_cons_succ, List.getElem_cons_zero, List.setIfInBounds_toArray, List.set_cons_zero, List.set_cons_succ]
            refine wpAnyH_ready (rs := [18]) (by kernel_rfl) (by simp) ?_
            refine AllReadyH.cons rfl (fun K hK => ?_) ?_
            rotate_left
            · exact AllReadyH.nil
            go_simp
            go_at_call 21
            refine (HPH.out _ _ nA).mono ?_
            rintro e wB ⟨rfl, rfl⟩
            dsimp only
            refine hK.out _ _ (HPC.out _ _ nA) (fun hHeld => ?_)
            clear hK K
            refine' wpAnyH_take (i := 23) (v := _) rfl (by kernel_rfl) (by kernel_rfl) (by kernel_rfl) (fun _ _ _ h => h) (Or.inl ⟨by kernel_rfl, ?hy50⟩) (by assumption) ?rest50
            case hy50 => (intro w hSw; (try dsimp only at hSw); go_simp; try with_reducible rfl)
            try simp only [Act.put, List.getElem_toArray, List.getElem_cons_succ, List.getElem_cons_zero, List.setIfInBounds_toArray, List.set_cons_zero, List.set_cons_succ]
            refine' wpAnyH_take (i := 24) (v := _) rfl (by kernel_rfl) (by kernel_rfl) (by kernel_rfl) (fun _ _ _ h => h) (Or.inl ⟨by kernel_rfl, ?hy51⟩) (by assumption) ?rest51
            case hy51 => (intro w hSw; (try dsimp only at hSw); go_simp; try with_reducible rfl)
            try simp only [Act.put, List.getElem_toArray, List.getElem_cons_succ, List.getElem_cons_zero, List.setIfInBounds_toArray, List.set_cons_zero, List.set_cons_succ]
            refine' wpAnyH_take (i := 25) (v := _) rfl (by kernel_rfl) (by kernel_rfl) (by kernel_rfl) (fun _ _ _ h => h) (Or.inl ⟨by kernel_rfl, ?hy52⟩) (by assumption) ?rest52
            case hy52 => (intro w hSw; (try dsimp only at hSw); go_simp; try with_reducible rfl)
            try simp only [Act.put, List.getElem_toArray, List.getElem_cons_succ, List.getElem_cons_zero, List.setIfInBounds_toArray, List.set_cons_zero, List.set_cons_succ]
            refine' wpAnyH_take (i := 26) (v := _) rfl (by kernel_rfl) (by kernel_rfl) (by kernel_rfl) (fun _ _ _ h => h) (Or.inl ⟨by kernel_rfl, ?hy53⟩) (by assumption) ?rest53
            case hy53 => (intro w hSw; (try dsimp only at hSw); go_simp; try with_reducible rfl)
            try simp only [Act.put, List.getElem_toArray, List.getElem_cons_succ, List.getElem_cons_zero, List.setIfInBounds_toArray, List.set_cons_zero, List.set_cons_succ]
            refine' wpAnyH_take (i := 28) (v := _) rfl (by kernel_rfl) (by kernel_rfl) (by kernel_rfl) (fun _ _ _ h => h) (Or.inl ⟨by kernel_rfl, ?hy54⟩) (by assumption) ?rest54
            case hy54 => (intro w hSw; (try dsimp only at hSw); go_simp; try with_reducible rfl)
            try simp only [Act.put, List.getElem_toArray, List.getElem_cons_succ, List.getElem_cons_zero, List.setIfInBounds_toArray, List.set_cons_zero, List.set_cons_succ]
            refine wpAnyH_ready (rs := [27]) (by kernel_rfl) (by simp) ?_
            refine AllReadyH.cons rfl (fun K hK => ?_) ?_
            rotate_left
            · exact AllReadyH.nil
            go_simp
            go_at_call 22
            refine (HRD.out _ _ _ (HR9.out.keep nA (by simp))).mono ?_
            rintro e wC ⟨roC, xa, xr, xw, xo, rfl, o1, o2, o3, o4, mC⟩
            have nC := nA.trans mC
            dsimp only
            refine hK.out _ _ (HPC.out _ _ nC) (fun hHeld => ?_)
            clear hK K
            refine wpAnyH_ready (rs := [29]) (by kernel_rfl) (by simp) ?_
            refine AllReadyH.cons rfl (fun K hK => ?_) ?_
            rotate_left
            · exact AllReadyH.nil
            go_simp
            go_at_call 33
            refine (HDD.out _ _ nC).mono ?_
            rintro e wD ⟨rfl, roD, mD⟩
            have nD := nC.trans mD
            dsimp only
            refine hK.out _ _ (HPC.out _ _ nD) (fun hHeld => ?_)
            clear hK K
            refine wpAnyH_ready (rs := [30]) (by kernel_rfl) (by simp) ?_
            refine AllReadyH.cons rfl (fun K hK => ?_) ?_
            rotate_left
            · exact AllReadyH.nil
            go_simp
            go_at_call 32
            refine (HTK.out roC roD _ xa xr xw xo _ mD nD o1 o2 o3 o4).mono ?_
            rintro e wE ⟨rfl, roE, mE⟩
            have nE : Mv ro9 [70, 70 + 1, 70 + 2, 70 + 3] wN roE wE := (nD.mono (by simp)).trans mE
            dsimp only
            refine hK.out _ _ (HPC2.out _ _ nE) (fun hHeld => ?_)
            clear hK K
            refine' wpAnyH_take (i := 31) (v := _) rfl (by kernel_rfl) (by kernel_rfl) (by kernel_rfl) (fun _ _ _ h => h) (Or.inl ⟨by kernel_rfl, ?hy55⟩) (by assumption) ?rest55
            case hy55 => (intro w hSw; (try dsimp only at hSw); go_simp; try with_reducible rfl)
            try simp only [Act.put, List.getElem_toArray, List.getElem_cons_succ, List.getElem_cons_zero, List.setIfInBounds_toArray, List.set_cons_zero, List.set_cons_succ]
            refine' wpAnyH_take (i := 32) (v := _) rfl (by kernel_rfl) (by kernel_rfl) (by kernel_rfl) (fun _ _ _ h => h) (Or.inl ⟨by kernel_rfl, ?hy56⟩) (by assumption) ?rest56
            case hy56 => (intro w hSw; (try dsimp only at hSw); go_simp; try with_reducible rfl)
            try simp only [Act.put, List.getElem_toArray, List.getElem_cons_succ, List.getElem_cons_zero, List.setIfInBounds_toArray, List.set_cons_zero, List.set_cons_succ]
            refine wpAnyH_done (by kernel_rfl) ?_ _
            refine NoPanic.normal ?_
            have NE := Lib.hid nE
            clear nE mE nD mD nC mC o1 o2 o3 o4 nA mA

            have hcE := HPC2.out _ _ NE.out
            rw [HP9.out] at hcE
            go_wp2
            go_roundw
            case rel =>
              have mm := ((HMV.out.mono (R' := ([46, 61] ++ ([45, 46] ++ rR 10) ++ [50, 54, 58, 60, 61] ++ [70, 71, 72, 73])) (by simp)).trans (HM9.out.trans (NE.out.mono (by simp)))).fresh (fun y hy j hj => by have := bigR y hy; show (0 : Nat) ≠ y; omega)
              refine ⟨k + 1, st.1, dt, roE, q8, p9, st.2.1, _, cnt7, by go_num, HR9.out.keep NE.out (by simp), HE9.out.keep NE.out (by simp), HW9.out, HSM.out, HFX9.out, by rw [HK1.out]; simp, ?_, HQ9.out.keep NE.out (by simp) (by simp), HLEN.out, HSF.out, hcn, by omega, HD9.out.keep NE.out (by simp) (by simp), HX9.out.keep NE.out (by simp), mm⟩
              have h1 := HSV.out
              have h2 := HL.out
              show st.1.left x.C + ((k + 1 : Nat) : Int) ≤ _
              omega
            case measure => simp [intOf]; omega

          · skip
            have GW := fun (WG : World) (roG : Nat → Nat) (pG : Dq) (mG : Ms) (hG : DRI roG 50 WG B x.C x.th x.tag (.slice a2 n2 c2) x.args dt mG M vd pG) => great_walk hG
            rw [hgb] at GW
            simp only [ptr] at GW
            have HGW := Lib.hid GW
            clear GW

            go_wp2_with   (first
              | (go_at_call 24; refine (MW _).mono ?_; rintro e w5 ⟨rfl, b5⟩; have M5 := Lib.hid (Mv.of_below (R := []) (ro := ro') b5); have x5 := HXB.out.keep M5.out (by simp); have hc5 := x5.cell; unfold rideC at hc5; have X5 := Lib.hid x5; clear b5 hc x5)
              | (go_at_call 25; refine (HPK.out _ M5.out).mono ?_; rintro e w6 ⟨rfl, q6, d6, m6⟩; have Q6 := Lib.hid q6; have D6 := Lib.hid d6; have M6 := Lib.hid (show Mv ro' [46, 61] wr ro' w6 from (M5.out.mono (by simp)).trans (m6.mono (by simp))); have R6 := Lib.hid (HR.out.keep M6.out (by simp)); have E6 := Lib.hid (HD.out.keep M6.out (by simp)); have X6 := Lib.hid (HXB.out.keep M6.out (by simp)); clear q6 d6 m6 hc5)
              | (go_at_call 18; refine (HST.out _ R6.out Q6.out).mono ?_; rintro e w8 ⟨rfl, ro8, q8, r8, n8, m8⟩; have R8 := Lib.hid r8; have N8 := Lib.hid n8; have M8 := Lib.hid m8; have E8 := Lib.hid (E6.out.keep m8 (by simp [rR])); have D8 := Lib.hid (D6.out.keep m8 (by simp [rR]) (by simp [rR])); have X8 := Lib.hid (X6.out.keep m8 (by simp [rR])); clear r8 n8 m8)
              | (go_at_call 29; refine (HDS.out ro8 w8 E8.out D8.out (fun ro_ W_ mv => old_code HIN.out.code Q2.out HMV.out (((M6.out.mono (R' := ([46, 61] ++ ([45, 46] ++ rR 10) ++ [50, 54, 58, 60, 61] ++ [70, 71, 72, 73])) (by simp)).trans (M8.out.mono (by simp +contextual [rR]))).trans (mv.mono (by simp [dS]))) bigR)).mono ?_; rintro e w9 ⟨rfl, ro9, p9, e9, d9, m9⟩; have M9 := Lib.hid (show Mv ro' ([46, 61] ++ ([45, 46] ++ rR 10) ++ [50, 54, 58, 60, 61] ++ [70, 71, 72, 73]) wr ro9 w9 from ((M6.out.mono (by simp)).trans (M8.out.mono (by simp +contextual [rR]))).trans (m9.mono (by simp [dS]))); have R9 := Lib.hid (R8.out.keep m9 (by simp [dS])); have E9 := Lib.hid e9; have Q9 := Lib.hid (N8.out.keep m9 (by simp [dS]) (by simp [dS])); have D9 := Lib.hid d9; have X9 := Lib.hid (X8.out.keep m9 (by simp [dS])); clear e9 d9 m9)
              | (go_at_call 30; refine (HGW.out _ _ _ _ E9.out).mono ?_; rintro e wg ⟨rfl, qg, rfl⟩))

            go_ret
            have mm := ((HMV.out.mono (R' := ([46, 61] ++ ([45, 46] ++ rR 10) ++ [50, 54, 58, 60, 61] ++ [70, 71, 72, 73])) (by simp)).trans (M9.out.drewN qg)).fresh (fun y hy j hj => by have := bigR y hy; show (0 : Nat) ≠ y; omega)
            exact ⟨rfl, below_of_chg (Q2.out.trans mm.chg)⟩


        · have hov4 : (st.1.part == 4) = false := by simpa using hov
          clear hov
          have HST := Lib.hid (STW false hov4)
          simp only [hov4] at DSW
          have HDS := Lib.hid DSW
          clear STW DSW
          have HV4 := Lib.hid hov4
          clear hov4
          rcases hgb : greatS dt with _ | _
          · skip
            have GW := fun (WG : World) (roG : Nat → Nat) (pG : Dq) (mG : Ms) (hG : DRI roG 50 WG B x.C x.th x.tag (.slice a2 n2 c2) x.args dt mG M vd pG) => great_walk hG
            rw [hgb] at GW
            simp only [ptr] at GW
            have HGW := Lib.hid GW
            clear GW

            go_wp2_with   (first
              | (go_at_call 24; refine (MW _).mono ?_; rintro e w5 ⟨rfl, b5⟩; have M5 := Lib.hid (Mv.of_below (R := []) (ro := ro') b5); have x5 := HXB.out.keep M5.out (by simp); have hc5 := x5.cell; unfold rideC at hc5; have X5 := Lib.hid x5; clear b5 hc x5)
              | (go_at_call 25; refine (HPK.out _ M5.out).mono ?_; rintro e w6 ⟨rfl, q6, d6, m6⟩; have Q6 := Lib.hid q6; have D6 := Lib.hid d6; have M6 := Lib.hid (show Mv ro' [46, 61] wr ro' w6 from (M5.out.mono (by simp)).trans (m6.mono (by simp))); have R6 := Lib.hid (HR.out.keep M6.out (by simp)); have E6 := Lib.hid (HD.out.keep M6.out (by simp)); have X6 := Lib.hid (HXB.out.keep M6.out (by simp)); clear q6 d6 m6 hc5)
              | (go_at_call 18; refine (HST.out _ R6.out Q6.out).mono ?_; rintro e w8 ⟨rfl, ro8, q8, r8, n8, m8⟩; have R8 := Lib.hid r8; have N8 := Lib.hid n8; have M8 := Lib.hid m8; have E8 := Lib.hid (E6.out.keep m8 (by simp [rR])); have D8 := Lib.hid (D6.out.keep m8 (by simp [rR]) (by simp [rR])); have X8 := Lib.hid (X6.out.keep m8 (by simp [rR])); clear r8 n8 m8)
              | (go_at_call 29; refine (HDS.out ro8 w8 E8.out D8.out (fun ro_ W_ mv => old_code HIN.out.code Q2.out HMV.out (((M6.out.mono (R' := ([46, 61] ++ ([45, 46] ++ rR 10) ++ [50, 54, 58, 60, 61] ++ [70, 71, 72, 73])) (by simp)).trans (M8.out.mono (by simp +contextual [rR]))).trans (mv.mono (by simp [dS]))) bigR)).mono ?_; rintro e w9 ⟨rfl, ro9, p9, e9, d9, m9⟩; have M9 := Lib.hid (show Mv ro' ([46, 61] ++ ([45, 46] ++ rR 10) ++ [50, 54, 58, 60, 61] ++ [70, 71, 72, 73]) wr ro9 w9 from ((M6.out.mono (by simp)).trans (M8.out.mono (by simp +contextual [rR]))).trans (m9.mono (by simp [dS]))); have R9 := Lib.hid (R8.out.keep m9 (by simp [dS])); have E9 := Lib.hid e9; have Q9 := Lib.hid (N8.out.keep m9 (by simp [dS]) (by simp [dS])); have D9 := Lib.hid d9; have X9 := Lib.hid (X8.out.keep m9 (by simp [dS])); clear e9 d9 m9)
              | (go_at_call 30; refine (HGW.out _ _ _ _ E9.out).mono ?_; rintro e wg ⟨rfl, qg, rfl⟩))

            have hu := HW9.out.wf.used1
            have hrl := HW9.out.wf.reads
            have h65 : st.1.m.reads.length ≤ 65536 := by omega
            have h66 : st.1.m.writes.length ≤ 65536 := by have := HW9.out.wf.writesL; omega
            have h67 : st.1.m.out.length ≤ 65536 := by have := HW9.out.wf.out; omega
            have hE9 := E9.out.keep ((Mv.refl ro9 [] w9).drewN qg) (by simp)
            have HR9 := Lib.hid (R9.out.keep ((Mv.refl ro9 [] w9).drewN qg) (by simp))
            have HX9 := Lib.hid (X9.out.keep ((Mv.refl ro9 [] w9).drewN qg) (by simp))
            have HM9 := Lib.hid (M9.out.drewN qg)
            have SAW := fun roN WN (mn : Mv ro9 [] (w9.drewN qg) roN WN) => samewords_walk 80 ((Q9.out.keep ((Mv.refl ro9 [] w9).drewN qg) (by simp) (by simp)).keep mn (by simp) (by simp)) ((D9.out.keep ((Mv.refl ro9 [] w9).drewN qg) (by simp) (by simp)).keep mn (by simp) (by simp)) (by have := HLEN.out; omega) (by have := HLEN.out; omega)
            have PHW := fun roN WN (mn : Mv ro9 [] (w9.drewN qg) roN WN) => phase_walk (HR9.out.keep mn (by simp))
            have RDW := fun ro7 q7 w7 (h : RIs ro7 10 w7 X x.C x.th x.tag x.code x.args st.1 q7) => rdeed_walk 70 h h8 h65 h66 h67
            have DDW := fun roN WN (mn : Mv ro9 [] (w9.drewN qg) roN WN) => ddeed_walk (hE9.keep mn (by simp)) (by rw [HSM.out.part]; exact HW9.out.part1) (by rw [HSM.out.part]; exact HW9.out.part4)
            have TKW := fun roC roD WD xa xr xw xo (WC : World) (mD : Mv roC [] WC roD WD) (nD : Mv ro9 [] (w9.drewN qg) roD WD) (o1 : OwnL cF roC 70 WC 74 1 xa (x.args.map fx)) (o2 : OwnL cT roC (70 + 1) WC 76 2 xr st.1.m.reads) (o3 : OwnL cT roC (70 + 2) WC 76 2 xw st.1.m.writes) (o4 : OwnL cF roC (70 + 3) WC 74 1 xo st.1.m.out) => taken_walk 70 WD x.tag st.1.mark st.1.steps (if st.1.part = 4 then st.1.m.how else 0) (if st.1.part = 4 then st.1.m.ecode else 0) (if st.1.part = 4 then st.1.m.err else 0) xa xr xw xo _ _ _ _ (x.args.map fx) st.1.m.out st.1.m.reads st.1.m.writes (o1.keep mD (by simp)) (o2.keep mD (by simp)) (o3.keep mD (by simp)) (o4.keep mD (by simp)) (hE9.keep nD (by simp)).args.rd (hE9.keep nD (by simp)).mach.reads.rd (hE9.keep nD (by simp)).mach.writes.rd (hE9.keep nD (by simp)).mach.out.rd (by rw [List.length_map]; omega) (by omega) (by omega) (by omega)
            have PCW := fun roN WN (mn : Mv ro9 [] (w9.drewN qg) roN WN) => (show WN.cell? ⟨B, 10, none⟩ = some (.int .i64 st.1.part) from by rw [(hE9.keep mn (by simp)).blk.cell]; show some (Value.int .i64 dt.part) = _; rw [HSM.out.part])
            have PC2W := fun roN WN (mn : Mv ro9 [70, 70 + 1, 70 + 2, 70 + 3] (w9.drewN qg) roN WN) => (show WN.cell? ⟨B, 10, none⟩ = some (.int .i64 st.1.part) from by rw [(hE9.keep mn (by simp)).blk.cell]; show some (Value.int .i64 dt.part) = _; rw [HSM.out.part])
            rw [sim_mark HSM.out, HSM.out.steps, HSM.out.part] at DDW
            unfold DeedP at RDW
            simp only [ptr] at SAW PHW RDW DDW
            have HSA := Lib.hid SAW
            have HPH := Lib.hid PHW
            have HRD := Lib.hid RDW
            have HDD := Lib.hid DDW
            have HTK := Lib.hid TKW
            have HPC := Lib.hid PCW
            have HPC2 := Lib.hid PC2W
            have HE9 := Lib.hid hE9
            have HQ9 := Lib.hid (Q9.out.keep ((Mv.refl ro9 [] w9).drewN qg) (by simp) (by simp))
            have HD9 := Lib.hid (D9.out.keep ((Mv.refl ro9 [] w9).drewN qg) (by simp) (by simp))
            clear SAW PHW RDW DDW TKW PCW PC2W hE9
            generalize w9.drewN qg = wN at *

            refine wp_region_noPanic ?_
            refine wp_region_held_drew (S := fun W => W.cell? ⟨B, 10, none⟩ = some (.int .i64 st.1.part)) (by kernel_rfl) (HPC.out ro9 _ (Mv.refl ro9 [] wN).drew) (fun hHeld => ?_)
            refine' wpAnyH_take (i := 0) (v := _) rfl (by kernel_rfl) (by kernel_rfl) (by kernel_rfl) (fun _ _ _ h => h) (Or.inl ⟨by kernel_rfl, ?hy57⟩) (by assumption) ?rest57
            case hy57 => (intro w hSw; (try dsimp only at hSw); go_simp; try with_reducible rfl)
            try simp only [Act.put, List.getElem_toArray, List.getElem_cons_succ, List.getElem_cons_zero, List.setIfInBounds_toArray, List.set_cons_zero, List.set_cons_succ]
            refine' wpAnyH_take (i := 1) (v := _) rfl (by kernel_rfl) (by kernel_rfl) (by kernel_rfl) (fun _ _ _ h => h) (Or.inl ⟨by kernel_rfl, ?hy58⟩) (by assumption) ?rest58
            case hy58 => (intro w hSw; (try dsimp only at hSw); go_simp; try with_reducible rfl)
            try simp only [Act.put, List.getElem_toArray, List.getElem_cons_succ, List.getElem_cons_zero, List.setIfInBounds_toArray, List.set_cons_zero, List.set_cons_succ]
            refine' wpAnyH_take (i := 2) (v := _) rfl (by kernel_rfl) (by kernel_rfl) (by kernel_rfl) (fun _ _ _ h => h) (Or.inl ⟨by kernel_rfl, ?hy59⟩) (by assumption) ?rest59
            case hy59 => (intro w hSw; (try dsimp only at hSw); go_simp; try with_reducible rfl)
            try simp only [Act.put, List.getElem_toArray, List.getElem_cons_succ, List.getElem_cons_zero, List.setIfInBounds_toArray, List.set_cons_zero, List.set_cons_succ]
            refine' wpAnyH_take (i := 3) (v := _) rfl (by kernel_rfl) (by kernel_rfl) (by kernel_rfl) (fun _ _ _ h => h) (Or.inl ⟨by kernel_rfl, ?hy60⟩) (by assumption) ?rest60
            case hy60 => (intro w hSw; (try dsimp only at hSw); go_simp; try with_reducible rfl)
            try simp only [Act.put, List.getElem_toArray, List.getElem_cons_succ, List.getElem_cons_zero, List.setIfInBounds_toArray, List.set_cons_zero, List.set_cons_succ]
            refine' wpAnyH_take (i := 4) (v := _) rfl (by kernel_rfl) (by kernel_rfl) (by kernel_rfl) (fun _ _ _ h => h) (Or.inl ⟨by kernel_rfl, ?hy61⟩) (by assumption) ?rest61
            case hy61 => (intro w hSw; (try dsimp only at hSw); go_simp; try with_reducible rfl)
            try simp only [Act.put, List.getElem_toArray, List.getElem_cons_succ, List.getElem_cons_zero, List.setIfInBounds_toArray, List.set_cons_zero, List.set_cons_succ]
            refine' wpAnyH_take (i := 5) (v := _) rfl (by kernel_rfl) (by kernel_rfl) (by kernel_rfl) (fun _ _ _ h => h) (Or.inl ⟨by kernel_rfl, ?hy62⟩) (by assumption) ?rest62
            case hy62 => (intro w hSw; (try dsimp only at hSw); go_simp; try with_reducible rfl)
            try simp only [Act.put, List.getElem_toArray, List.getElem_cons_succ, List.getElem_cons_zero, List.setIfInBounds_toArray, List.set_cons_zero, List.set_cons_succ]
            refine' wpAnyH_take (i := 6) (v := _) rfl (by kernel_rfl) (by kernel_rfl) (by kernel_rfl) (fun _ _ _ h => h) (Or.inl ⟨by kernel_rfl, ?hy63⟩) (by assumption) ?rest63
            case hy63 => (intro w hSw; (try dsimp only at hSw); go_simp; try with_reducible rfl)
            try simp only [Act.put, List.getElem_toArray, List.getElem_cons_succ, List.getElem_cons_zero, List.setIfInBounds_toArray, List.set_cons_zero, List.set_cons_succ]
            refine' wpAnyH_take (i := 7) (v := _) rfl (by kernel_rfl) (by kernel_rfl) (by kernel_rfl) (fun _ _ _ h => h) (Or.inl ⟨by kernel_rfl, ?hy64⟩) (by assumption) ?rest64
            case hy64 => (intro w hSw; (try dsimp only at hSw); go_simp; try with_reducible rfl)
            try simp only [Act.put, List.getElem_toArray, List.getElem_cons_succ, List.getElem_cons_zero, List.setIfInBounds_toArray, List.set_cons_zero, List.set_cons_succ]
            refine' wpAnyH_take (i := 8) (v := _) rfl (by kernel_rfl) (by kernel_rfl) (by kernel_rfl) (fun _ _ _ h => h) (Or.inl ⟨by kernel_rfl, ?hy65⟩) (by assumption) ?rest65
            case hy65 => (intro w hSw; (try dsimp only at hSw); go_simp; try with_reducible rfl)
            try simp only [Act.put, List.getElem_toArray, List.getElem_cons_succ, List.getElem_cons_zero, List.setIfInBounds_toArray, List.set_cons_zero, List.set_cons_succ]
            refine' wpAnyH_take (i := 9) (v := _) rfl (by kernel_rfl) (by kernel_rfl) (by kernel_rfl) (fun _ _ _ h => h) (Or.inl ⟨by kernel_rfl, ?hy66⟩) (by assumption) ?rest66
            case hy66 => (intro w hSw; (try dsimp only at hSw); go_simp; try with_reducible rfl)
            try simp only [Act.put, List.getElem_toArray, List.getElem_cons_succ, List.getElem_cons_zero, List.setIfInBounds_toArray, List.set_cons_zero, List.set_cons_succ]
            refine' wpAnyH_take (i := 10) (v := _) rfl (by kernel_rfl) (by kernel_rfl) (by kernel_rfl) (fun _ _ _ h => h) (Or.inl ⟨by kernel_rfl, ?hy67⟩) (by assumption) ?rest67
            case hy67 => (intro w hSw; (try dsimp only at hSw); go_simp; try with_reducible rfl)
            try simp only [Act.put, List.getElem_toArray, List.getElem_cons_succ, List.getElem_cons_zero, List.setIfInBounds_toArray, List.set_cons_zero, List.set_cons_succ]
            refine wpAnyH_ready (rs := [11]) (by kernel_rfl) (by simp) ?_
            refine AllReadyH.cons rfl (fun K hK => ?_) ?_
            rotate_left
            · exact AllReadyH.nil
            go_simp
            go_at_call 31
            refine (HSA.out ro9 _ (Mv.refl ro9 [] wN).drew).mono ?_
            rintro e wA ⟨rfl, roA, mA⟩
            have nA : Mv ro9 [] wN roA wA := (Mv.refl ro9 [] wN).drew.trans mA
            dsimp only
            refine hK.out _ _ (HPC.out _ _ nA) (fun hHeld => ?_)
            clear hK K
            refine' wpAnyH_take (i := 12) (v := _) rfl (by kernel_rfl) (by kernel_rfl) (by kernel_rfl) (fun _ _ _ h => h) (Or.inl ⟨by kernel_rfl, ?hy68⟩) (by assumption) ?rest68
            case hy68 => (intro w hSw; (try dsimp only at hSw); go_simp; try with_reducible rfl)
            try simp only [Act.put, List.getElem_toArray, List.getElem_cons_succ, List.getElem_cons_zero, List.setIfInBounds_toArray, List.set_cons_zero, List.set_cons_succ]
            refine' wpAnyH_take (i := 13) (v := _) rfl (by kernel_rfl) (by kernel_rfl) (by kernel_rfl) (fun _ _ _ h => h) (Or.inl ⟨by kernel_rfl, ?hy69⟩) (by assumption) ?rest69
            case hy69 => (intro w hSw; (try dsimp only at hSw); go_simp; try with_reducible rfl)
            try simp only [Act.put, List.getElem_toArray, List.getElem_cons_succ, List.getElem_cons_zero, List.setIfInBounds_toArray, List.set_cons_zero, List.set_cons_succ]
            refine' wpAnyH_take (i := 14) (v := _) rfl (by kernel_rfl) (by kernel_rfl) (by kernel_rfl) (fun _ _ _ h => h) (Or.inl ⟨by kernel_rfl, ?hy70⟩) (by assumption) ?rest70
            case hy70 => (intro w hSw; (try dsimp only at hSw); go_simp; try with_reducible rfl)
            try simp only [Act.put, List.getElem_toArray, List.getElem_cons_succ, List.getElem_cons_zero, List.setIfInBounds_toArray, List.set_cons_zero, List.set_cons_succ]
            refine' wpAnyH_take (i := 15) (v := _) rfl (by kernel_rfl) (by kernel_rfl) (by kernel_rfl) (fun _ _ _ h => h) (Or.inl ⟨by kernel_rfl, ?hy71⟩) (by assumption) ?rest71
            case hy71 => (intro w hSw; (try dsimp only at hSw); go_simp; try with_reducible rfl)
            try simp only [Act.put, List.getElem_toArray, List.getElem_cons_succ, List.getElem_cons_zero, List.setIfInBounds_toArray, List.set_cons_zero, List.set_cons_succ]
            refine' wpAnyH_take (i := 16) (v := _) rfl (by kernel_rfl) (by kernel_rfl) (by kernel_rfl) (fun _ _ _ h => h) (Or.inl ⟨by kernel_rfl, ?hy72⟩) (by assumption) ?rest72
            case hy72 => (intro w hSw; (try dsimp only at hSw); go_simp; try with_reducible rfl)
            try simp only [Act.put, List.getElem_toArray, List.getElem_cons_succ, List.getElem_cons_zero, List.setIfInBounds_toArray, List.set_cons_zero, List.set_cons_succ]
            refine' wpAnyH_take (i := 17) (v := _) rfl (by kernel_rfl) (by kernel_rfl) (by kernel_rfl) (fun _ _ _ h => h) (Or.inl ⟨by kernel_rfl, ?hy73⟩) (by assumption) ?rest73
            case hy73 => (intro w hSw; (try dsimp only at hSw); go_simp; try with_reducible rfl)
            try simp only [Act.put, List.getElem_toArray, List.getElem_cons_succ, List.getElem_cons_zero, List.setIfInBounds_toArray, List.set_cons_zero, List.set_cons_succ]
            refine' wpAnyH_take (i := 19) (v := _) rfl (by kernel_rfl) (by kernel_rfl) (by kernel_rfl) (fun _ _ _ h => h) (Or.inl ⟨by kernel_rfl, ?hy74⟩) (by assumption) ?rest74
            case hy74 => (intro w hSw; (try dsimp only at hSw); go_simp; try with_reducible rfl)
            try simp only [Act.put, List.getElem_toArray, List.getElem_cons_succ, List.getElem_cons_zero, List.setIfInBounds_toArray, List.set_cons_zero, List.set_cons_succ]
            refine' wpAnyH_take (i := 20) (v := _) rfl (by kernel_rfl) (by kernel_rfl) (by kernel_rfl) (fun _ _ _ h => h) (Or.inl ⟨by kernel_rfl, ?hy75⟩) (by assumption) ?rest75
            case hy75 => (intro w hSw; (try dsimp only at hSw); go_simp; try with_reducible rfl)
            try simp only [Act.put, List.getElem_toArray, List.getElem_cons_succ, List.getElem_cons_zero, List.setIfInBounds_toArray, List.set_cons_zero, List.set_cons_succ]
            refine' wpAnyH_take (i := 21) (v := _) rfl (by kernel_rfl) (by kernel_rfl) (by kernel_rfl) (fun _ _ _ h => h) (Or.inl ⟨by kernel_rfl, ?hy76⟩) (by assumption) ?rest76
            case hy76 => (intro w hSw; (try dsimp only at hSw); go_simp; try with_reducible rfl)
            try simp only [Act.put, List.getElem_toArray, List.getElem_cons_succ, List.getElem_cons_zero, List.setIfInBounds_toArray, List.set_cons_zero, List.set_cons_succ]
            refine' wpAnyH_take (i := 22) (v := _) rfl (by kernel_rfl) (by kernel_rfl) (by kernel_rfl) (fun _ _ _ h => h) (Or.inl ⟨by kernel_rfl, ?hy77⟩) (by assumption) ?rest77
            case hy77 => (intro w hSw; (try dsimp only at hSw); go_simp; try with_reducible rfl)
            try simp only [Act.put, List.getElem_toArray, List.getElem_cons_succ, List.getElem_cons_zero, List.setIfInBounds_toArray, List.set_cons_zero, List.set_cons_succ]
            refine wpAnyH_ready (rs := [18]) (by kernel_rfl) (by simp) ?_
            refine AllReadyH.cons rfl (fun K hK => ?_) ?_
            rotate_left
            · exact AllReadyH.nil
            go_simp
            go_at_call 21
            refine (HPH.out _ _ nA).mono ?_
            rintro e wB ⟨rfl, rfl⟩
            dsimp only
            refine hK.out _ _ (HPC.out _ _ nA) (fun hHeld => ?_)
            clear hK K
            refine' wpAnyH_take (i := 23) (v := _) rfl (by kernel_rfl) (by kernel_rfl) (by kernel_rfl) (fun _ _ _ h => h) (Or.inl ⟨by kernel_rfl, ?hy78⟩) (by assumption) ?rest78
            case hy78 => (intro w hSw; (try dsimp only at hSw); go_simp; try with_reducible rfl)
            try simp only [Act.put, List.getElem_toArray, List.getElem_cons_succ, List.getElem_cons_zero, List.setIfInBounds_toArray, List.set_cons_zero, List.set_cons_succ]
            refine' wpAnyH_take (i := 24) (v := _) rfl (by kernel_rfl) (by kernel_rfl) (by kernel_rfl) (fun _ _ _ h => h) (Or.inl ⟨by kernel_rfl, ?hy79⟩) (by assumption) ?rest79
            case hy79 => (intro w hSw; (try dsimp only at hSw); go_simp; try with_reducible rfl)
            try simp only [Act.put, List.getElem_toArray, List.getElem_cons_succ, List.getElem_cons_zero, List.setIfInBounds_toArray, List.set_cons_zero, List.set_cons_succ]
            refine' wpAnyH_take (i := 25) (v := _) rfl (by kernel_rfl) (by kernel_rfl) (by kernel_rfl) (fun _ _ _ h => h) (Or.inl ⟨by kernel_rfl, ?hy80⟩) (by assumption) ?rest80
            case hy80 => (intro w hSw; (try dsimp only at hSw); go_simp; try with_reducible rfl)
            try simp only [Act.put, List.getElem_toArray, List.getElem_cons_succ, List.getElem_cons_zero, List.setIfInBounds_toArray, List.set_cons_zero, List.set_cons_succ]
            refine' wpAnyH_take (i := 26) (v := _) rfl (by kernel_rfl) (by kernel_rfl) (by kernel_rfl) (fun _ _ _ h => h) (Or.inl ⟨by kernel_rfl, ?hy81⟩) (by assumption) ?rest81
            case hy81 => (intro w hSw; (try dsimp only at hSw); go_simp; try with_reducible rfl)
            try simp only [Act.put, List.getElem_toArray, List.getElem_cons_succ, List.getElem_cons_zero, List.setIfInBounds_toArray, List.set_cons_zero, List.set_cons_succ]
            refine' wpAnyH_take (i := 28) (v := _) rfl (by kernel_rfl) (by kernel_rfl) (by kernel_rfl) (fun _ _ _ h => h) (Or.inl ⟨by kernel_rfl, ?hy82⟩) (by assumption) ?rest82
            case hy82 => (intro w hSw; (try dsimp only at hSw); go_simp; try with_reducible rfl)
            try simp only [Act.put, List.getElem_toArray, List.getElem_cons_succ, List.getElem_cons_zero, List.setIfInBounds_toArray, List.set_cons_zero, List.set_cons_succ]
            refine wpAnyH_ready (rs := [27]) (by kernel_rfl) (by simp) ?_
            refine AllReadyH.cons rfl (fun K hK => ?_) ?_
            rotate_left
            · exact AllReadyH.nil
            go_simp
            go_at_call 22
            refine (HRD.out _ _ _ (HR9.out.keep nA (by simp))).mono ?_
            rintro e wC ⟨roC, xa, xr, xw, xo, rfl, o1, o2, o3, o4, mC⟩
            have nC := nA.trans mC
            dsimp only
            refine hK.out _ _ (HPC.out _ _ nC) (fun hHeld => ?_)
            clear hK K
            refine wpAnyH_ready (rs := [29]) (by kernel_rfl) (by simp) ?_
            refine AllReadyH.cons rfl (fun K hK => ?_) ?_
            rotate_left
            · exact AllReadyH.nil
            go_simp
            go_at_call 33
            refine (HDD.out _ _ nC).mono ?_
            rintro e wD ⟨rfl, roD, mD⟩
            have nD := nC.trans mD
            dsimp only
            refine hK.out _ _ (HPC.out _ _ nD) (fun hHeld => ?_)
            clear hK K
            refine wpAnyH_ready (rs := [30]) (by kernel_rfl) (by simp) ?_
            refine AllReadyH.cons rfl (fun K hK => ?_) ?_
            rotate_left
            · exact AllReadyH.nil
            go_simp
            go_at_call 32
            refine (HTK.out roC roD _ xa xr xw xo _ mD nD o1 o2 o3 o4).mono ?_
            rintro e wE ⟨rfl, roE, mE⟩
            have nE : Mv ro9 [70, 70 + 1, 70 + 2, 70 + 3] wN roE wE := (nD.mono (by simp)).trans mE
            dsimp only
            refine hK.out _ _ (HPC2.out _ _ nE) (fun hHeld => ?_)
            clear hK K
            refine' wpAnyH_take (i := 31) (v := _) rfl (by kernel_rfl) (by kernel_rfl) (by kernel_rfl) (fun _ _ _ h => h) (Or.inl ⟨by kernel_rfl, ?hy83⟩) (by assumption) ?rest83
            case hy83 => (intro w hSw; (try dsimp only at hSw); go_simp; try with_reducible rfl)
            try simp only [Act.put, List.getElem_toArray, List.getElem_cons_succ, List.getElem_cons_zero, List.setIfInBounds_toArray, List.set_cons_zero, List.set_cons_succ]
            refine' wpAnyH_take (i := 32) (v := _) rfl (by kernel_rfl) (by kernel_rfl) (by kernel_rfl) (fun _ _ _ h => h) (Or.inl ⟨by kernel_rfl, ?hy84⟩) (by assumption) ?rest84
            case hy84 => (intro w hSw; (try dsimp only at hSw); go_simp; try with_reducible rfl)
            try simp only [Act.put, List.getElem_toArray, List.getElem_cons_succ, List.getElem_cons_zero, List.setIfInBounds_toArray, List.set_cons_zero, List.set_cons_succ]
            refine wpAnyH_done (by kernel_rfl) ?_ _
            refine NoPanic.normal ?_
            have NE := Lib.hid nE
            clear nE mE nD mD nC mC o1 o2 o3 o4 nA mA

            have hcE := HPC2.out _ _ NE.out
            have hov4 := HV4.out
            go_wp2
            go_roundw
            case rel =>
              have mm := ((HMV.out.mono (R' := ([46, 61] ++ ([45, 46] ++ rR 10) ++ [50, 54, 58, 60, 61] ++ [70, 71, 72, 73])) (by simp)).trans (HM9.out.trans (NE.out.mono (by simp)))).fresh (fun y hy j hj => by have := bigR y hy; show (0 : Nat) ≠ y; omega)
              refine ⟨k + 1, st.1, dt, roE, q8, p9, st.2.1, _, cnt7, by go_num, HR9.out.keep NE.out (by simp), HE9.out.keep NE.out (by simp), HW9.out, HSM.out, HFX9.out, by rw [HK1.out]; simp, ?_, HQ9.out.keep NE.out (by simp) (by simp), HLEN.out, HSF.out, hcn, by omega, HD9.out.keep NE.out (by simp) (by simp), HX9.out.keep NE.out (by simp), mm⟩
              have h1 := HSV.out
              have h2 := HL.out
              show st.1.left x.C + ((k + 1 : Nat) : Int) ≤ _
              omega
            case measure => simp [intOf]; omega

          · skip
            have GW := fun (WG : World) (roG : Nat → Nat) (pG : Dq) (mG : Ms) (hG : DRI roG 50 WG B x.C x.th x.tag (.slice a2 n2 c2) x.args dt mG M vd pG) => great_walk hG
            rw [hgb] at GW
            simp only [ptr] at GW
            have HGW := Lib.hid GW
            clear GW

            go_wp2_with   (first
              | (go_at_call 24; refine (MW _).mono ?_; rintro e w5 ⟨rfl, b5⟩; have M5 := Lib.hid (Mv.of_below (R := []) (ro := ro') b5); have x5 := HXB.out.keep M5.out (by simp); have hc5 := x5.cell; unfold rideC at hc5; have X5 := Lib.hid x5; clear b5 hc x5)
              | (go_at_call 25; refine (HPK.out _ M5.out).mono ?_; rintro e w6 ⟨rfl, q6, d6, m6⟩; have Q6 := Lib.hid q6; have D6 := Lib.hid d6; have M6 := Lib.hid (show Mv ro' [46, 61] wr ro' w6 from (M5.out.mono (by simp)).trans (m6.mono (by simp))); have R6 := Lib.hid (HR.out.keep M6.out (by simp)); have E6 := Lib.hid (HD.out.keep M6.out (by simp)); have X6 := Lib.hid (HXB.out.keep M6.out (by simp)); clear q6 d6 m6 hc5)
              | (go_at_call 18; refine (HST.out _ R6.out Q6.out).mono ?_; rintro e w8 ⟨rfl, ro8, q8, r8, n8, m8⟩; have R8 := Lib.hid r8; have N8 := Lib.hid n8; have M8 := Lib.hid m8; have E8 := Lib.hid (E6.out.keep m8 (by simp [rR])); have D8 := Lib.hid (D6.out.keep m8 (by simp [rR]) (by simp [rR])); have X8 := Lib.hid (X6.out.keep m8 (by simp [rR])); clear r8 n8 m8)
              | (go_at_call 29; refine (HDS.out ro8 w8 E8.out D8.out (fun ro_ W_ mv => old_code HIN.out.code Q2.out HMV.out (((M6.out.mono (R' := ([46, 61] ++ ([45, 46] ++ rR 10) ++ [50, 54, 58, 60, 61] ++ [70, 71, 72, 73])) (by simp)).trans (M8.out.mono (by simp +contextual [rR]))).trans (mv.mono (by simp [dS]))) bigR)).mono ?_; rintro e w9 ⟨rfl, ro9, p9, e9, d9, m9⟩; have M9 := Lib.hid (show Mv ro' ([46, 61] ++ ([45, 46] ++ rR 10) ++ [50, 54, 58, 60, 61] ++ [70, 71, 72, 73]) wr ro9 w9 from ((M6.out.mono (by simp)).trans (M8.out.mono (by simp +contextual [rR]))).trans (m9.mono (by simp [dS]))); have R9 := Lib.hid (R8.out.keep m9 (by simp [dS])); have E9 := Lib.hid e9; have Q9 := Lib.hid (N8.out.keep m9 (by simp [dS]) (by simp [dS])); have D9 := Lib.hid d9; have X9 := Lib.hid (X8.out.keep m9 (by simp [dS])); clear e9 d9 m9)
              | (go_at_call 30; refine (HGW.out _ _ _ _ E9.out).mono ?_; rintro e wg ⟨rfl, qg, rfl⟩))

            go_ret
            have mm := ((HMV.out.mono (R' := ([46, 61] ++ ([45, 46] ++ rR 10) ++ [50, 54, 58, 60, 61] ++ [70, 71, 72, 73])) (by simp)).trans (M9.out.drewN qg)).fresh (fun y hy j hj => by have := bigR y hy; show (0 : Nat) ≠ y; omega)
            exact ⟨rfl, below_of_chg (Q2.out.trans mm.chg)⟩


  · have BN := fun w (c : Chg [] W w) => begun_none w x _ _ _ _ (⟨hin.cells, hin.threads, hin.fuel, hin.writes, hin.th, hin.tag, hin.code.keep0 c, hin.codeX, hin.codeL, hin.args.keep0 c, hin.argsX, hin.argsL, hin.words.keep0 c, hin.wordsX, hin.wordsL, hin.pokes.keep0 c, hin.pokesX, hin.pokesL⟩ : RideIn w x _ _ _ _) hok
    unfold Ride.v at BN ⊢
    have HBN := Lib.hid BN
    clear BN hin
    go_enter Tryz.func6, Tryz.ntmps6
    go_wp2_with (first
      | (go_at_call 15; refine (LW _).mono ?_; rintro e w2 ⟨rfl, ro2, m2⟩; have q2 : Chg [] W w2 := ((Chg.refl [] W).alloc _).trans m2.chg; have hr := (m2.block _ (by simp) (by simp)).trans (heap_alloc_new _ _); have hc2 := fun o => cell_of_row w2 _ o _ _ _ hr; have Q2 := Lib.hid q2; clear m2 q2 hr)
      | (go_at_call 16; refine (HBN.out _ Q2.out).mono ?_; rintro e w3 ⟨rfl, ro3, m3⟩; have Q3 := Lib.hid (Q2.out.trans m3.chg); clear m3 hc2))
    go_ret
    exact ⟨rfl, below_of_chg Q3.out⟩
end Go.Proofs.YtphaeodcomgffaaGreat
