import Derived.Test.YtphaeodcomgffaaGreatE9
import Derived.Deep.RegionHeldLaw
set_option linter.unusedVariables false
set_option linter.unusedSimpArgs false
namespace Go.Proofs.YtphaeodcomgffaaGreat
open Go.RowKit

theorem Mv.fresh {ro ro1 : Nat → Nat} {R : List Nat} {a b : World} (h : Mv ro R a ro1 b) (hr : ∀ x ∈ R, ∀ k, k < a.heap.size → ro k ≠ x) : Mv ro [] a ro1 b :=
  ⟨h.ext, h.os, h.tape, h.output, h.size, fun k hk _ => h.block k hk fun hx => hr _ hx k hk rfl⟩
/-- What reader.New leaves. -/
def RNewP (ro : Nat → Nat) (r : Nat) (w : World) (C : Cfg) (th tag : Int) (code : List Ins) (args : List Nat) (e : Ending) (w' : World) : Prop :=
  ∃ X ro' q', e = .returned (ptr X) ∧ RIs ro' r w' X C th tag code args (newRs (badS tag code) args) q' ∧ Mv ro [] w ro' w'

set_option maxRecDepth 100000 in
set_option maxHeartbeats 8000000 in
theorem rnew_walk (ro : Nat → Nat) (r : Nat) (C : Cfg) (th tag : Int) (vc va : Value) (code : List Ins) (args : List Nat) (w : World) (hfr : ∀ k, k < w.heap.size → ro k ≠ r + 23) (hC : C.ok) (h8 : args.length ≤ 8) (h0 : 0 ≤ th) (h1 : th < C.threads) (hcode : RdC w vc code) (hargs : Rd w 1 va (args.map cF)) (hlen : code.length * 24 ≤ 140737488355328) :
    Calls Tryz.prog 59 #[cfgV C, .int .i64 th, .agg #[.int .i64 tag, vc], va] w (RNewP ro r w C th tag code args) := by
  have MW := fun W (q : Chg [] w W) => mnew_walk ro r C tag vc va code args W hC h8 (hcode.keep0 q) (hargs.keep0 q) hlen
  have CW := fun ro' W => newcome_walk ro' (r + 21) C th W
  obtain ⟨va1, va2, rfl⟩ := hargs.slice
  have PW := mplace_walk C
  unfold planE at PW
  rw [if_pos hC] at PW
  unfold planV cfgV at PW
  unfold planV at CW
  unfold NewP at MW
  unfold cfgV at MW ⊢
  simp only [ptr, List.length_map] at MW CW hargs ⊢
  have e0 : ¬ th < 0 := by omega
  have e1 : ¬ C.threads ≤ th := by omega
  have HA := Lib.hid hargs
  clear hC hcode hlen hargs
  go_enter Tryz.func59, Tryz.ntmps59
  go_wp2_with (first
    | (go_at_call 102; refine (PW _).mono ?_; rintro e w1 ⟨rfl, b1⟩; have q1 : Chg [] _ w1 := Chg.of_below b1; obtain ⟨z1, z2⟩ := two_kept q1; have hc1 := fun o => cell_of_row w1 _ o _ _ _ z1; have hc2 := fun o => cell_of_row w1 _ o _ _ _ z2; have Z1 := Lib.hid z1; have Z2 := Lib.hid z2; have L1 := lt_of_heap z1; have L2 := lt_of_heap z2; have Q1 := Lib.hid (two_chg q1); have M1 := Lib.hid (((Mv.refl ro [] w).alloc _).alloc _ |>.then_below b1); clear b1 z1 z2 q1)
    | (go_at_call 94; refine (MW _ (Q1.out.alloc _)).mono ?_; rintro e w2 ⟨M, ro2, p2, rfl, m2, b2⟩; have q2 : Chg [] w1 w2 := ((Chg.refl [] w1).alloc _).trans b2.chg; have hd1 := fun o => cell_of_row w2 _ o _ _ _ ((q2.block _ L1 (by simp)).trans Z1.out); have z2 := (q2.block _ L2 (by simp)).trans Z2.out; have z3 := (b2.chg.block w1.heap.size (by simp) (by simp)).trans (heap_alloc_new _ _); have Z22 := Lib.hid z2; have Z33 := Lib.hid z3; have M2 := Lib.hid ((M1.out.alloc _).trans b2); have G2 := Lib.hid m2; clear b2 m2 q2 z2 z3))
  have z2 := Z22.out
  have z3 := Z33.out
  have hd2 := fun o => cell_of_row w2 _ o _ _ _ z2
  have hd3 := fun o => cell_of_row w2 _ o _ _ _ z3
  clear hc1 hc2 hd1 PW MW z2 z3
  refine wp_region_noPanic ?_
  go_region_law (go_simp; go_at_call 103; refine (CW ro2 _).mono ?_; rintro e w5 ⟨CB, ro5, rfl, b5, m5⟩; have m25 : Mv ro2 [] w2 ro5 w5 := (Mv.refl ro2 [] w2).drew.trans m5; have z2 := (m25.block _ (lt_of_heap Z22.out) (by simp)).trans Z22.out; have z3 := (m25.block _ (lt_of_heap Z33.out) (by simp)).trans Z33.out; have he2 := fun o => cell_of_row w5 _ o _ _ _ z2; have he3 := fun o => cell_of_row w5 _ o _ _ _ z3; clear z2 z3 m5)
  all_goals
    refine NoPanic.normal ?_
    have m2 := M2.out
    have g2 := G2.out
    clear hd2 hd3 Z1 Z2 CW M1 Q1 Z22 Z33 M2 G2 he2 he3
    go_wp2
    have m8 : Mv ro5 [] w5 (setRo ro5 w5.heap.size (r + 20)) (w5.alloc (.cells (xcells C th tag (newRs (badS tag code) args) ⟨M, CB, 0, .slice none 0 0, p2⟩) 58)) := ((Mv.refl _ _ _).alloc _).give (Nat.le_refl _)
    have H8 : RIs (setRo ro5 w5.heap.size (r + 20)) r (w5.alloc (.cells (xcells C th tag (newRs (badS tag code) args) ⟨M, CB, 0, .slice none 0 0, p2⟩) 58)) w5.heap.size C th tag code (args.take 0) (newRs (badS tag code) args) ⟨M, CB, 0, .slice none 0 0, p2⟩ :=
      ⟨⟨heap_alloc_new _ _, setRo_at _ _ _⟩, g2.keep (m25.trans m8) (by simp), b5.keep m8 (by simp), (by intro g hg; cases hg), OwnL.nil _ _ _ _ _ _⟩
    have M8 := (m2.trans m25).trans m8
    have hMR : w.heap.size ≤ w5.heap.size := Nat.le_trans m2.size m25.size
    have eL : xcells C th tag (newRs (badS tag code) args) ⟨M, CB, 0, .slice none 0 0, p2⟩ = #[.int .i64 0, .int .i64 1, .int .i64 2, .int .i64 3, .int .i64 (3 + C.threads), .int .i64 (3 + C.threads + 3 * C.cells), .pointer (some ⟨M, 0, none⟩), .int .i64 tag, .slice none 0 0, .int .i64 1, .int .i64 0, .int .i64 th, .pointer (some ⟨CB, 0, none⟩), .pointer none] := rfl
    rw [eL] at H8 M8
    generalize setRo ro5 w5.heap.size (r + 20) = ro8 at *
    generalize hS : newRs (badS tag code) args = s0 at *
    have HS := Lib.hid hS
    generalize hW8 : w5.alloc (.cells #[.int .i64 0, .int .i64 1, .int .i64 2, .int .i64 3, .int .i64 (3 + C.threads), .int .i64 (3 + C.threads + 3 * C.cells), .pointer (some ⟨M, 0, none⟩), .int .i64 tag, .slice none 0 0, .int .i64 1, .int .i64 0, .int .i64 th, .pointer (some ⟨CB, 0, none⟩), .pointer none] 58) = W8 at *
    clear hW8 m8 eL m25 b5 m2 g2 hS
    have G8 := Lib.hid H8
    have GM8 := Lib.hid M8
    clear H8 M8
    go_loopw [53] (fun i wr => ∃ (k : Nat) (ro' : Nat → Nat) (va' : Value), i = .int .i64 k ∧ k ≤ args.length ∧ RIs ro' r wr w5.heap.size C th tag code (args.take k) s0 ⟨M, CB, 0, va', p2⟩ ∧ Mv ro [] w ro' wr) (fun i _ => args.length - (intOf i).toNat)
    case atStart => exact ⟨0, ro8, _, rfl, Nat.zero_le _, G8.out, GM8.out⟩
    case round =>
      obtain ⟨k, ro', va', rfl, hk, hms, hmv⟩ := hrel
      by_cases hlt : k < args.length
      · have hlt' : (k : Int) < args.length := by omega
        obtain ⟨b, off, c', e3, hb, hcell⟩ := Rd.blk (HA.out.keep0 hmv.chg) (by simp; omega)
        simp only [Value.slice.injEq, List.length_map] at e3
        obtain ⟨rfl, -, rfl⟩ := e3
        have c0 := hcell k 0 (by simpa using hlt) (by decide)
        simp only [List.getD, List.getElem?_map, List.getElem?_eq_getElem hlt, Option.map_some, Option.getD_some, cF, List.getElem?_cons_zero, Nat.mul_one, Nat.add_zero] at c0
        have hc1 := hms.blk.cell
        obtain ⟨p, cp, hva⟩ := hms.args.form
        rw [List.length_map, List.length_take, Nat.min_eq_left hk] at hva
        simp only [] at hva
        subst hva
        unfold xcells at hc1
        simp only [ptr] at hc1
        have hX := hms.blk.lt
        obtain ⟨i0, hi0, hz0, hs0, hby0⟩ := info_three infoF
        have I0 := Lib.hid hi0
        have FW := fix_walk args[k]
        have eT : (args.take k).map fx ++ [fx args[k]] = (args.take (k + 1)).map fx := by rw [List.take_add_one, List.getElem?_eq_getElem hlt, List.map_append]; rfl
        have eL2 : ((args.take k).map fx).length = k := by simp; omega
        generalize fx args[k] = y at *
        have HMS := Lib.hid hms
        have HMV := Lib.hid hmv
        have sf := run_store_float
        clear hms hmv hcell hi0
        go_wp2
        refine wp_region_noPanic ?_
        go_region_law (first
          | (go_simp; go_at_call 92; refine (FW _).mono ?_; rintro e w9 ⟨rfl, rfl⟩)
          | (go_loud (refine step_append_lies _ rfl (.tmp 62) (.tmp 65) 27 rfl 0 74 i0 _ 1 8 under74 I0.out hz0 hs0 hby0 rfl (by decide) (.slice p k cp) k (((args.take k).map fx).flatMap cF) rfl (by have := (HMS.out.args.keep (((Mv.refl ro' [] wr).alloc (.cells #[.float .f64 y] 74)).drew) (by simp)).own; simpa only [eL2] using this) _ 1 1 [.float .f64 y] rfl rfl (World.news_of_block (heap_alloc_new _ _)) (by simp [Value.oneCell']) (by decide) (by unfold maxLen; omega) (by omega) (Nat.zero_le _) _ rfl ?_)
             intro g cap w6 g2 g3 g4 g5
             go_loud (obtain ⟨o6, m6⟩ := grown_own (news := [y]) HMS.out.args ((Mv.refl ro' [] wr).alloc _).drew (by simp) (by simpa [cF] using g2) (by rw [eT]; simp; omega) g3 g4 rfl)
             have k6 := HMS.out.blk.keep m6 (by simp)
             have hc6 := k6.cell
             have hf6 := k6.free
             unfold xcells at hc6
             simp only [ptr] at hc6
             clear g2 g3 g4 g5))
        all_goals
          refine NoPanic.normal ?_
          go_wp2
          go_roundw
          case rel =>
            have ms : Mv (setRo ro' (wr.alloc (.cells #[.float .f64 y] 74)).drew.heap.size (r + 23)) [r + 20] w6 _ (w6.setCell ⟨w5.heap.size, 8, none⟩ (.slice (some ⟨g, 0, none⟩) (k + 1) cap)) := (Mv.refl _ _ _).setCell (by rw [k6.role]; simp) _
            have ma : Mv ro' [r + 23, r + 20] wr _ _ := (m6.mono (by simp)).trans (ms.mono (by simp))
            refine ⟨k + 1, _, .slice (some ⟨g, 0, none⟩) (k + 1) cap, by go_num, by omega, ⟨k6.put rfl, HMS.out.mach.keep ma (by simp), HMS.out.come.keep ma (by simp), (fun g2 hg2 => (HMS.out.read g2 hg2).keep ma (by simp)), by rw [← eT]; exact o6.keep ms (by simp)⟩, ((((HMV.out.mono (R' := [r + 23]) (by simp)).trans m6).setNew hMR _).fresh (by simpa using hfr))⟩
          case measure => simp [intOf]; omega
      · obtain rfl : k = args.length := by omega
        rw [List.take_length] at hms
        have HMS := Lib.hid hms
        have HMV := Lib.hid hmv
        clear hms hmv
        go_wp2
        go_ret
        exact ⟨w5.heap.size, ro', _, rfl, by rw [HS.out]; exact HMS.out, HMV.out⟩
end Go.Proofs.YtphaeodcomgffaaGreat
