import Derived.Test.YtphaeodcomgffaaGreatVV
import Derived.Test.YtphaeodcomgffaaGreatLH
set_option linter.unusedVariables false
set_option linter.unusedSimpArgs false
namespace Go.Proofs.YtphaeodcomgffaaGreat
open Go.RowKit

theorem deed_mark (u0 u1 u2 u3 u4 u5 u6 u7 u8 u9 u10 u11 u12 u13 u14 u15 u16 u17 u18 : Value) (W : World) : (Instr.field 63 (.agg #[u0, u1, u2, u3, u4, u5, u6, u7, u8, u9, u10, u11, u12, u13, u14, u15, u16, u17, u18]) 5).run Tryz.prog W = .ok u5 W := by kernel_rfl
set_option maxRecDepth 100000 in
set_option maxHeartbeats 8000000 in
theorem wsmall_all (W : World) (x : Ride) (vc va vw vp : Value) (ns : Int) (hin : RideIn W x vc va vw vp) (k : Int) (hk : -9223372036854775808 ≤ k ∧ k ≤ 9223372036854775807) : Calls Tryz.prog 7 #[x.v5 vc va vw vp ns, .int .i64 k] W fun e W' => e = .returned (.bool true) ∧ Below W.heap.size W W' := by
  obtain ⟨a1, n1, c1, rfl⟩ : ∃ a n c, va = .slice a n c := by obtain ⟨a, c, e⟩ := hin.args.slice; exact ⟨_, _, _, e⟩
  obtain ⟨a2, n2, c2, rfl⟩ : ∃ a n c, vc = .slice a n c := by obtain ⟨a, c, e⟩ := hin.code.slice; exact ⟨_, _, _, e⟩
  obtain ⟨a3, n3, c3, rfl⟩ : ∃ a n c, vw = .slice a n c := by obtain ⟨a, c, e⟩ := hin.words.slice; exact ⟨_, _, _, e⟩
  obtain ⟨a4, n4, c4, rfl⟩ : ∃ a n c, vp = .slice a n c := by obtain ⟨a, c, e⟩ := hin.pokes.slice; exact ⟨_, _, _, e⟩
  have LW := fun w => wlive_walk w
  have HIN := Lib.hid hin
  by_cases hok : rOk x.C x.args.length x.th
  · have BW := fun w (c : Chg [] W w) => begun5_ok w x _ _ _ _ ns (⟨hin.cells, hin.threads, hin.fuel, hin.writes, hin.th, hin.tag, hin.code.keep0 c, hin.codeX, hin.codeL, hin.args.keep0 c, hin.argsX, hin.argsL, hin.words.keep0 c, hin.wordsX, hin.wordsL, hin.pokes.keep0 c, hin.pokesX, hin.pokesL⟩ : RideIn w x _ _ _ _) hok
    unfold Begun5P at BW
    unfold Ride.v5 at BW ⊢
    simp only [ptr] at BW
    have HBW := Lib.hid BW
    have HOK := Lib.hid hok
    obtain ⟨hC, h8, t0, t1⟩ := hok
    obtain ⟨C1', C2', C3', C4', C5', C6', C7', C8'⟩ := id hC
    have HC := Lib.hid hC
    clear BW hin hC
    obtain ⟨u1, hu1⟩ : ∃ u, u = k.tmod (3 + x.C.threads + 3 * x.C.cells) := ⟨_, rfl⟩
    have hu1a : -(3 + x.C.threads + 3 * x.C.cells) < u1 := by rw [hu1]; exact Int.lt_tmod_of_pos _ (by omega)
    have hu1b : u1 < 3 + x.C.threads + 3 * x.C.cells := by rw [hu1]; exact Int.tmod_lt_of_pos _ (by omega)
    obtain ⟨u2, hu2⟩ : ∃ u, u = (u1 + (3 + x.C.threads + 3 * x.C.cells)).tmod (3 + x.C.threads + 3 * x.C.cells) := ⟨_, rfl⟩
    have hu2a : 0 ≤ u2 := by rw [hu2]; exact Int.tmod_nonneg _ (by omega)
    have hu2b : u2 < 3 + x.C.threads + 3 * x.C.cells := by rw [hu2]; exact Int.tmod_lt_of_pos _ (by omega)
    have hv1 := hu1.symm
    have hv2 := hu2.symm
    have hn0 : ¬ 3 + x.C.threads + 3 * x.C.cells = 0 := by omega
    clear hu1 hu2
    have NW := fun ro w => memnew_walk ro 45 (1 + u2) w (by omega) (by omega)
    unfold MemNewP at NW
    simp only [ptr] at NW
    go_enter Tryz.func7, Tryz.ntmps7
    go_wp2_with (first
      | (go_at_call 34; refine (LW _).mono ?_; rintro e w2 ⟨rfl, ro2, m2⟩; have q2 : Chg [] W w2 := ((Chg.refl [] W).alloc _).trans m2.chg; have hr := (m2.block _ (by simp) (by simp)).trans (heap_alloc_new _ _); have hc2 := fun o => cell_of_row w2 _ o _ _ _ hr; have X2 := Lib.hid (show Blk (fun _ => 0) 0 w2 W.heap.size (rideC5 x _ _ _ _ ns) 85 from ⟨hr, rfl⟩); have Q2 := Lib.hid q2; clear m2 q2 hr)
      | (go_at_call 35; refine (HBW.out _ Q2.out).mono ?_; rintro e w3 ⟨X, B, ro3, q, M, vd, p, rfl, r3, d3, m3⟩; have R3 := Lib.hid r3; have D3 := Lib.hid d3; have M3 := Lib.hid m3; have x3 := X2.out.keep m3 (by simp); have hc3 := x3.cell; unfold rideC5 at hc3; have X3 := Lib.hid x3; have db3 := D3.out.blk.cell; unfold dwcells at db3; clear r3 d3 m3 x3 hc2))
    go_quiet (fail)
    have fl13 := deed_steps
    have fl5 := deed_mark
    have RDW := fun ro w q (h : WIs ro 10 w X x.C x.tag x.code x.args (newWr (badS x.tag x.code) x.args) q) => wdeed_walk 70 h (by show (1 : Int) ≤ 1; decide) (by show (1 : Int) ≤ 9; decide) h8 (Nat.zero_le _) (Nat.zero_le _) (Nat.zero_le _)
    have RDW2 := fun ws ro w q (h : WIs ro 10 w X x.C x.tag x.code x.args ({ (newWr (badS x.tag x.code) x.args).more with ticket := List.getD ws 0 0, part := 2 } : Wr) q) => wdeed_walk 70 h (by show (1 : Int) ≤ 2; decide) (by show (2 : Int) ≤ 9; decide) h8 (Nat.zero_le _) (Nat.zero_le _) (Nat.zero_le _)
    have e0 : (newWr (badS x.tag x.code) x.args).steps = 0 := rfl
    have e1 : (newWr (badS x.tag x.code) x.args).part = 1 := rfl
    have hmk : ∀ n : Nat, ({ (newWr (badS x.tag x.code) x.args).more with ticket := (List.replicate n 0).getD 0 0, part := 2 } : Wr).mark = 0 := fun n => by
      have h0 : (List.replicate n 0).getD 0 0 = 0 := by cases n <;> rfl
      rw [h0]; rfl
    have hlen : ((List.replicate (1 + u2).toNat 0).length : Int) = 1 + u2 := by simp; omega
    have hlp : 0 < (List.replicate (1 + u2).toNat 0).length := by omega
    have RDW2 := RDW2 (List.replicate (1 + u2).toNat 0)
    unfold WDeedP deedW at RDW RDW2
    simp only [e0, ptr] at RDW
    rw [hmk] at RDW2
    simp only [ptr] at RDW2
    have HRD := Lib.hid RDW
    have HRD2 := Lib.hid RDW2
    have HE1 := Lib.hid e1
    have HLEN := Lib.hid hlen
    have HLP := Lib.hid hlp
    clear RDW RDW2 hmk e0 e1 hlen hlp hv1 hv2
    by_cases hs : 1 + u2 < 3 + x.C.threads + 3 * x.C.cells
    · go_wp2_with (first
        | (go_at_call 17; refine (NW ro3 _).mono ?_; rintro e w4 ⟨MB, v, ro4, rfl, q4, m4⟩; have Q4 := Lib.hid q4; have R4 := Lib.hid ((R3.out.keep ((Mv.refl ro3 [] _).drewN _) (by simp)).keep m4 (by simp)); have db4 := ((D3.out.blk.keep ((Mv.refl ro3 [] _).drewN _) (by simp)).keep m4 (by simp)); have DB4 := Lib.hid db4; have M4 := Lib.hid ((M3.out.drewN _).trans m4); clear q4 m4 db3 hc3)
        | (go_at_call 36; refine (wst_small R4.out Q4.out (by rw [HLEN.out]; exact hs)).mono ?_; rintro e w5 ⟨rfl, nq5, e5⟩; have M5 := Lib.hid (show Mv ro4 [] w4 ro4 w5 by rw [e5]; exact (Mv.refl _ _ _).drewN _); clear e5)
        | (go_at_call 19; refine (load_no (Q4.out.keep M5.out (by simp) (by simp)) 0 (by rw [stop_spent _ HLP.out]; decide)).mono ?_; rintro e w6 ⟨e6, m6⟩; rw [stop_spent _ HLP.out] at e6; subst e6; have M6 := Lib.hid (M5.out.trans m6); have db6 := (DB4.out.keep M6.out (by simp)).cell; unfold dwcells at db6; have CW := Lib.hid (mcount_walk (Q4.out.keep M6.out (by simp) (by simp))); have R6 := Lib.hid (R4.out.keep M6.out (by simp)); have FW := Lib.hid (wphase_walk (R4.out.keep M6.out (by simp))); clear m6)
        | (go_at_call 20; refine CW.out.mono ?_; rintro e w7 ⟨rfl, rfl⟩)
        | (go_at_call 37; refine FW.out.mono ?_; rintro e w7 ⟨e7, rfl⟩; rw [HE1.out] at e7; subst e7)
        | (go_at_call 38; refine (HRD.out _ _ _ R6.out).mono ?_; rintro e w10 ⟨ro10, va10, vr10, vw10, vo10, rfl, o1, o2, o3, o4, m10⟩; have M10 := Lib.hid m10; clear o1 o2 o3 o4 m10))
      all_goals
        go_ret
        exact ⟨rfl, below_of_chg (Q2.out.trans ((M4.out.trans (M6.out.trans M10.out)).chg))⟩
    · have hs' : (( List.replicate (1 + u2).toNat 0).length : Int) = 3 + x.C.threads + 3 * x.C.cells := by rw [HLEN.out]; omega
      have HS' := Lib.hid hs'
      have NWF : Wwf x.C x.code (newWr (badS x.tag x.code) x.args) := new_wwf HC.out (fun hb => by
        have hb' : ¬ (checkS x.tag x.code != 0) = true := by have : (checkS x.tag x.code != 0) = false := hb; rw [this]; decide
        unfold checkS at hb'
        split at hb'
        · rename_i ho; exact ⟨ho.2.2.2, ho.2.2.1, HIN.out.codeX⟩
        · exact absurd (by decide) hb') HIN.out.argsX
      have SW := fun ro4 w4 q MB v (r : WIs ro4 10 w4 X x.C x.tag x.code x.args (newWr (badS x.tag x.code) x.args) q) (m : MemIs ro4 45 w4 MB v (List.replicate (1 + u2).toNat 0) false 0) => (show Calls Tryz.prog 36 #[ptr X, ptr MB] w4 (WrP ro4 10 45 w4 X x.C x.tag x.code x.args ({ (newWr (badS x.tag x.code) x.args).more with ticket := (List.replicate (1 + u2).toNat 0).getD 0 0, part := 2 } : Wr) MB v ((List.replicate (1 + u2).toNat 0).set 0 (inc64 ((List.replicate (1 + u2).toNat 0).getD 0 0))) false (0 + 1) (.tuple #[.bool false, .int .i64 0])) from writerstep_walk HC.out r m (by decide) hs' (by decide) (by decide) (by show (0 : Int) ≤ 1000000; decide) NWF (by show (1 : Int) ≤ 8; decide))
      unfold WrP at SW
      simp only [ptr] at SW
      have HSW := Lib.hid SW
      have HLP2 := Lib.hid (show 0 < ((List.replicate (1 + u2).toNat 0).set 0 (inc64 ((List.replicate (1 + u2).toNat 0).getD 0 0))).length by rw [List.length_set]; exact HLP.out)
      clear SW NWF
      clear hs'
      go_wp2_with (first
        | (go_at_call 17; refine (NW ro3 _).mono ?_; rintro e w4 ⟨MB, v, ro4, rfl, q4, m4⟩; have Q4 := Lib.hid q4; have R4 := Lib.hid ((R3.out.keep ((Mv.refl ro3 [] _).drewN _) (by simp)).keep m4 (by simp)); have db4 := ((D3.out.blk.keep ((Mv.refl ro3 [] _).drewN _) (by simp)).keep m4 (by simp)); have DB4 := Lib.hid db4; have M4 := Lib.hid ((M3.out.drewN _).trans m4); clear q4 m4 db3 hc3)
        | (go_at_call 36; refine (HSW.out ro4 w4 _ MB v R4.out Q4.out).mono ?_; rintro e w5 ⟨rfl, ro5, q5, r5, n5, m5⟩; have N5 := Lib.hid n5; have M5 := Lib.hid m5; have R5 := Lib.hid r5; clear r5 n5 m5)
        | (go_at_call 19; refine (load_no N5.out 0 (by rw [stop_spent _ HLP2.out]; decide)).mono ?_; rintro e w6 ⟨e6, m6⟩; rw [stop_spent _ HLP2.out] at e6; subst e6; have M6 := Lib.hid m6; have db6 := ((DB4.out.keep M5.out (by simp [wR])).keep M6.out (by simp)).cell; unfold dwcells at db6; have CW := Lib.hid (mcount_walk (N5.out.keep M6.out (by simp) (by simp))); have R6 := Lib.hid (R5.out.keep M6.out (by simp)); clear m6)
        | (go_at_call 20; refine CW.out.mono ?_; rintro e w7 ⟨rfl, rfl⟩)
        | (go_at_call 38; refine (HRD2.out _ _ _ R6.out).mono ?_; rintro e w10 ⟨ro10, va10, vr10, vw10, vo10, rfl, o1, o2, o3, o4, m10⟩; have M10 := Lib.hid m10; clear o1 o2 o3 o4 m10))
      all_goals
        go_ret
        have mm := ((((M4.out.mono (R' := 45 :: (45 + 1) :: wR 10) (by simp)).trans M5.out).trans (M6.out.mono (by simp))).trans (M10.out.mono (by simp))).fresh (by intro y hy j hj; simp [wR] at hy; show (0 : Nat) ≠ y; omega)
        exact ⟨rfl, below_of_chg (Q2.out.trans mm.chg)⟩
  · have BN := fun w (c : Chg [] W w) => begun5_none w x _ _ _ _ ns (⟨hin.cells, hin.threads, hin.fuel, hin.writes, hin.th, hin.tag, hin.code.keep0 c, hin.codeX, hin.codeL, hin.args.keep0 c, hin.argsX, hin.argsL, hin.words.keep0 c, hin.wordsX, hin.wordsL, hin.pokes.keep0 c, hin.pokesX, hin.pokesL⟩ : RideIn w x _ _ _ _) hok
    unfold Ride.v5 at BN ⊢
    have HBN := Lib.hid BN
    clear BN hin
    go_enter Tryz.func7, Tryz.ntmps7
    go_wp2_with (first
      | (go_at_call 34; refine (LW _).mono ?_; rintro e w2 ⟨rfl, ro2, m2⟩; have q2 : Chg [] W w2 := ((Chg.refl [] W).alloc _).trans m2.chg; have hr := (m2.block _ (by simp) (by simp)).trans (heap_alloc_new _ _); have hc2 := fun o => cell_of_row w2 _ o _ _ _ hr; have Q2 := Lib.hid q2; clear m2 q2 hr)
      | (go_at_call 35; refine (HBN.out _ Q2.out).mono ?_; rintro e w3 ⟨rfl, ro3, m3⟩; have Q3 := Lib.hid (Q2.out.trans m3.chg); clear m3 hc2))
    go_ret
    exact ⟨rfl, below_of_chg Q3.out⟩
end Go.Proofs.YtphaeodcomgffaaGreat
