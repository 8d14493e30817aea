import Derived.Test.YtphaeodcomgffaaGreatVL
import Derived.Test.YtphaeodcomgffaaGreatEA
import Derived.Deep.RegionHeldLaw
set_option linter.unusedVariables false
set_option linter.unusedSimpArgs false
namespace Go.Proofs.YtphaeodcomgffaaGreat
open Go.RowKit

/-! writer.New. -/
set_option maxRecDepth 100000 in
set_option maxHeartbeats 2000000 in
theorem wrnew_none1 (C : Cfg) (tag th : Int) (vc va : Value) (a : Option Addr) (n c : Nat) (hva : va = .slice a n c) (w : World) (h : ¬ C.ok) :
    Calls Tryz.prog 76 #[cfgV C, .int .i64 th, .agg #[.int .i64 tag, vc], va] w fun e w' => e = .returned (.pointer none) ∧ Chg [] w w' := by
  have MW := fun W => mnew_none C tag vc va a n c hva W (.inl h)
  subst hva
  have PW := mplace_walk C
  unfold planE at PW
  rw [if_neg h] at PW
  unfold noPlan cfgV at PW
  unfold cfgV at MW ⊢
  clear h
  go_enter Tryz.func76, Tryz.ntmps76
  go_wp2_with (first
    | (go_at_call 102; refine (PW _).mono ?_; rintro e w1 ⟨rfl, b1⟩; have q1 : Chg [] _ w1 := Chg.of_below b1; obtain ⟨z1, z2⟩ := two_kept q1; have hc1 := fun o => cell_of_row w1 _ o _ _ _ z1; have hc2 := fun o => cell_of_row w1 _ o _ _ _ z2; have L1 := lt_of_heap z1; have L2 := lt_of_heap z2; have Q1 := Lib.hid (two_chg q1); clear b1 z1 z2 q1)
    | (go_at_call 94; refine (MW _).mono ?_; rintro e w2 ⟨rfl, b2⟩; have q2 : Chg [] _ w2 := Chg.of_below b2; have Q2 := Lib.hid ((Q1.out.alloc _).trans q2); clear b2 q2))
  go_ret
  exact ⟨rfl, Q2.out⟩

set_option maxRecDepth 100000 in
set_option maxHeartbeats 2000000 in
theorem wrnew_none2 (C : Cfg) (tag th : Int) (vc va : Value) (a : Option Addr) (n c : Nat) (hva : va = .slice a n c) (w : World) (hC : C.ok) (h : 8 < n) :
    Calls Tryz.prog 76 #[cfgV C, .int .i64 th, .agg #[.int .i64 tag, vc], va] w fun e w' => e = .returned (.pointer none) ∧ Chg [] w w' := by
  have MW := fun W => mnew_none C tag vc va a n c hva W (.inr h)
  subst hva
  have PW := mplace_walk C
  unfold planE at PW
  rw [if_pos hC] at PW
  unfold planV cfgV at PW
  unfold cfgV at MW ⊢
  clear h hC
  go_enter Tryz.func76, Tryz.ntmps76
  go_wp2_with (first
    | (go_at_call 102; refine (PW _).mono ?_; rintro e w1 ⟨rfl, b1⟩; have q1 : Chg [] _ w1 := Chg.of_below b1; obtain ⟨z1, z2⟩ := two_kept q1; have hc1 := fun o => cell_of_row w1 _ o _ _ _ z1; have hc2 := fun o => cell_of_row w1 _ o _ _ _ z2; have L1 := lt_of_heap z1; have L2 := lt_of_heap z2; have Q1 := Lib.hid (two_chg q1); clear b1 z1 z2 q1)
    | (go_at_call 94; refine (MW _).mono ?_; rintro e w2 ⟨rfl, b2⟩; have q2 : Chg [] _ w2 := Chg.of_below b2; have Q2 := Lib.hid ((Q1.out.alloc _).trans q2); clear b2 q2))
  go_ret
  exact ⟨rfl, Q2.out⟩
set_option maxRecDepth 100000 in
set_option maxHeartbeats 4000000 in
theorem wrnew_none3 (C : Cfg) (tag th : Int) (vc va : Value) (code : List Ins) (args : List Nat) (w : World) (hC : C.ok) (h8 : args.length ≤ 8) (hcode : RdC w vc code) (hargs : Rd w 1 va (args.map cF)) (hlen : code.length * 24 ≤ 140737488355328) (h : th < 0 ∨ C.threads ≤ th) :
    Calls Tryz.prog 76 #[cfgV C, .int .i64 th, .agg #[.int .i64 tag, vc], va] w fun e w' => e = .returned (.pointer none) ∧ Chg [] w w' := by
  have MW := fun W (q : Chg [] w W) => mnew_walk (fun _ => 0) 0 C tag vc va code args W hC h8 (hcode.keep0 q) (hargs.keep0 q) hlen
  obtain ⟨va1, va2, rfl⟩ := hargs.slice
  have PW := mplace_walk C
  unfold planE at PW
  rw [if_pos hC] at PW
  unfold planV cfgV at PW
  unfold NewP at MW
  unfold cfgV at MW ⊢
  simp only [ptr, List.length_map] at MW ⊢
  clear hC hcode hargs hlen h8
  rcases h with h | h
  · go_enter Tryz.func76, Tryz.ntmps76
    go_wp2_with (first
      | (go_at_call 102; refine (PW _).mono ?_; rintro e w1 ⟨rfl, b1⟩; have q1 : Chg [] _ w1 := Chg.of_below b1; obtain ⟨z1, z2⟩ := two_kept q1; have hc1 := fun o => cell_of_row w1 _ o _ _ _ z1; have hc2 := fun o => cell_of_row w1 _ o _ _ _ z2; have L1 := lt_of_heap z1; have L2 := lt_of_heap z2; have Q1 := Lib.hid (two_chg q1); clear b1 z1 z2 q1)
      | (go_at_call 94; refine (MW _ (Q1.out.alloc _)).mono ?_; rintro e w2 ⟨M, ro2, p2, rfl, m2, b2⟩; have Q2 := Lib.hid ((Q1.out.alloc _).trans b2.chg); clear b2))
    go_ret
    exact ⟨rfl, Q2.out⟩
  · have h0 : ¬ th < 0 ∨ th < 0 := by omega
    rcases h0 with h0 | h0
    · go_enter Tryz.func76, Tryz.ntmps76
      go_wp2_with (first
        | (go_at_call 102; refine (PW _).mono ?_; rintro e w1 ⟨rfl, b1⟩; have q1 : Chg [] _ w1 := Chg.of_below b1; obtain ⟨z1, z2⟩ := two_kept q1; have hc1 := fun o => cell_of_row w1 _ o _ _ _ z1; have hc2 := fun o => cell_of_row w1 _ o _ _ _ z2; have Z1 := Lib.hid z1; have L1 := lt_of_heap z1; have L2 := lt_of_heap z2; have Q1 := Lib.hid (two_chg q1); clear b1 z1 z2 q1)
        | (go_at_call 94; refine (MW _ (Q1.out.alloc _)).mono ?_; rintro e w2 ⟨M, ro2, p2, rfl, m2, b2⟩; have Q2 := Lib.hid ((Q1.out.alloc _).trans b2.chg); have hd1 := fun o => cell_of_row w2 _ o _ _ _ (((((Chg.refl _ _).alloc _).trans b2.chg).block _ L1 (by simp)).trans Z1.out); clear b2))
      go_ret
      exact ⟨rfl, Q2.out⟩
    · go_enter Tryz.func76, Tryz.ntmps76
      go_wp2_with (first
        | (go_at_call 102; refine (PW _).mono ?_; rintro e w1 ⟨rfl, b1⟩; have q1 : Chg [] _ w1 := Chg.of_below b1; obtain ⟨z1, z2⟩ := two_kept q1; have hc1 := fun o => cell_of_row w1 _ o _ _ _ z1; have hc2 := fun o => cell_of_row w1 _ o _ _ _ z2; have L1 := lt_of_heap z1; have L2 := lt_of_heap z2; have Q1 := Lib.hid (two_chg q1); clear b1 z1 z2 q1)
        | (go_at_call 94; refine (MW _ (Q1.out.alloc _)).mono ?_; rintro e w2 ⟨M, ro2, p2, rfl, m2, b2⟩; have Q2 := Lib.hid ((Q1.out.alloc _).trans b2.chg); clear b2))
      go_ret
      exact ⟨rfl, Q2.out⟩
end Go.Proofs.YtphaeodcomgffaaGreat
set_option linter.unusedVariables false
set_option linter.unusedSimpArgs false
namespace Go.Proofs.YtphaeodcomgffaaGreat
open Go.RowKit

/-! writer.New. -/
/-- What writer.New leaves. -/
def WNewP (ro : Nat → Nat) (r : Nat) (w : World) (C : Cfg) (tag : Int) (code : List Ins) (args : List Nat) (e : Ending) (w' : World) : Prop :=
  ∃ X ro' q', e = .returned (ptr X) ∧ WIs ro' r w' X C tag code args (newWr (badS tag code) args) q' ∧ Mv ro [] w ro' w'
set_option maxRecDepth 100000 in
set_option maxHeartbeats 8000000 in
theorem wrnew_walk (ro : Nat → Nat) (r : Nat) (C : Cfg) (th tag : Int) (vc va : Value) (code : List Ins) (args : List Nat) (w : World) (hfr : ∀ k, k < w.heap.size → ro k ≠ r + 23) (hfr2 : ∀ k, k < w.heap.size → ro k ≠ r + 20) (hC : C.ok) (h8 : args.length ≤ 8) (h0 : 0 ≤ th) (h1 : th < C.threads) (hcode : RdC w vc code) (hargs : Rd w 1 va (args.map cF)) (hlen : code.length * 24 ≤ 140737488355328) :
    Calls Tryz.prog 76 #[cfgV C, .int .i64 th, .agg #[.int .i64 tag, vc], va] w (WNewP ro r w C tag code args) := by
  have MW := fun W (q : Chg [] w W) => mnew_walk ro r C tag vc va code args W hC h8 (hcode.keep0 q) (hargs.keep0 q) hlen
  obtain ⟨va1, va2, rfl⟩ := hargs.slice
  have PW := mplace_walk C
  unfold planE at PW
  rw [if_pos hC] at PW
  unfold planV cfgV at PW
  unfold NewP at MW
  unfold cfgV at MW ⊢
  simp only [ptr, List.length_map] at MW hargs ⊢
  have e0 : ¬ th < 0 := by omega
  have e1 : ¬ C.threads ≤ th := by omega
  have HA := Lib.hid hargs
  clear hC hcode hlen hargs
  go_enter Tryz.func76, Tryz.ntmps76
  go_wp2_with (first
    | (go_at_call 102; refine (PW _).mono ?_; rintro e w1 ⟨rfl, b1⟩; have q1 : Chg [] _ w1 := Chg.of_below b1; obtain ⟨z1, z2⟩ := two_kept q1; have hc1 := fun o => cell_of_row w1 _ o _ _ _ z1; have hc2 := fun o => cell_of_row w1 _ o _ _ _ z2; have Z1 := Lib.hid z1; have Z2 := Lib.hid z2; have L1 := lt_of_heap z1; have L2 := lt_of_heap z2; have Q1 := Lib.hid (two_chg q1); have M1 := Lib.hid (((Mv.refl ro [] w).alloc _).alloc _ |>.then_below b1); clear b1 z1 z2 q1)
    | (go_at_call 94; refine (MW _ (Q1.out.alloc _)).mono ?_; rintro e w2 ⟨M, ro2, p2, rfl, m2, b2⟩; have q2 : Chg [] w1 w2 := ((Chg.refl [] w1).alloc _).trans b2.chg; have hd1 := fun o => cell_of_row w2 _ o _ _ _ ((q2.block _ L1 (by simp)).trans Z1.out); have z2 := (q2.block _ L2 (by simp)).trans Z2.out; have z3 := (b2.chg.block w1.heap.size (by simp) (by simp)).trans (heap_alloc_new _ _); have hd2 := fun o => cell_of_row w2 _ o _ _ _ z2; have hd3 := fun o => cell_of_row w2 _ o _ _ _ z3; have M2 := Lib.hid ((M1.out.alloc _).trans b2); have G2 := Lib.hid m2; clear b2 m2 q2 z2 z3))
  have m2 := M2.out
  have g2 := G2.out
  clear hc1 hc2 hd1 hd2 hd3 PW MW Z1 Z2 M1 Q1 M2 G2
  have m8 : Mv ro2 [] w2 (setRo ro2 w2.heap.size (r + 20)) (w2.alloc (.cells (wcells C tag ({ newWr (badS tag code) args with part := 0 } : Wr) ⟨M, 0, 0, .slice none 0 0, .slice none 0 0, p2⟩) 152)) := ((Mv.refl _ _ _).alloc _).give (Nat.le_refl _)
  have H8 : WIs (setRo ro2 w2.heap.size (r + 20)) r (w2.alloc (.cells (wcells C tag ({ newWr (badS tag code) args with part := 0 } : Wr) ⟨M, 0, 0, .slice none 0 0, .slice none 0 0, p2⟩) 152)) w2.heap.size C tag code (args.take 0) ({ newWr (badS tag code) args with part := 0 } : Wr) ⟨M, 0, 0, .slice none 0 0, .slice none 0 0, p2⟩ :=
    ⟨⟨heap_alloc_new _ _, setRo_at _ _ _⟩, g2.keep m8 (by simp), (by intro g hg; cases hg), (by intro g hg; cases hg), OwnL.nil _ _ _ _ _ _, OwnL.nil _ _ _ _ _ _⟩
  have M8 := m2.trans m8
  have hMR : w.heap.size ≤ w2.heap.size := m2.size
  have eL : wcells C tag ({ newWr (badS tag code) args with part := 0 } : Wr) ⟨M, 0, 0, .slice none 0 0, .slice none 0 0, p2⟩ = #[.nilFunc, .int .i64 0, .int .i64 1, .int .i64 2, .int .i64 3, .int .i64 (3 + C.threads), .int .i64 (3 + C.threads + 3 * C.cells), .pointer (some ⟨M, 0, none⟩), .int .i64 C.threads, .int .i64 tag, .slice none 0 0, .int .i64 0, .int .i64 0, .int .u64 0, .int .u64 0, .int .i64 0, .slice none 0 0, .pointer none, .pointer none, .int .i64 0] := rfl
  rw [eL] at H8 M8
  generalize setRo ro2 w2.heap.size (r + 20) = ro8 at *
  generalize hS : ({ newWr (badS tag code) args with part := 0 } : Wr) = s0 at *
  have HS := Lib.hid hS
  generalize hW8 : w2.alloc (.cells #[.nilFunc, .int .i64 0, .int .i64 1, .int .i64 2, .int .i64 3, .int .i64 (3 + C.threads), .int .i64 (3 + C.threads + 3 * C.cells), .pointer (some ⟨M, 0, none⟩), .int .i64 C.threads, .int .i64 tag, .slice none 0 0, .int .i64 0, .int .i64 0, .int .u64 0, .int .u64 0, .int .i64 0, .slice none 0 0, .pointer none, .pointer none, .int .i64 0] 152) = W8 at *
  have hs00 : s0.part = 0 ∧ s0.scan = none ∧ s0.back = none := by rw [← hS]; exact ⟨rfl, rfl, rfl⟩
  clear hW8 m8 eL m2 g2 hS
  have G8 := Lib.hid H8
  have GM8 := Lib.hid M8
  clear H8 M8
  go_loopw [50] (fun i wr => ∃ (k : Nat) (ro' : Nat → Nat) (va' : Value), i = .int .i64 k ∧ k ≤ args.length ∧ WIs ro' r wr w2.heap.size C tag code (args.take k) s0 ⟨M, 0, 0, va', .slice none 0 0, p2⟩ ∧ Mv ro [] w ro' wr) (fun i _ => args.length - (intOf i).toNat)
  case atStart => exact ⟨0, ro8, _, rfl, Nat.zero_le _, G8.out, GM8.out⟩
  case round =>
    obtain ⟨k, ro', va', rfl, hk, hms, hmv⟩ := hrel
    by_cases hlt : k < args.length
    · have hlt' : (k : Int) < args.length := by omega
      obtain ⟨b, off, c', e3, hb, hcell⟩ := Rd.blk (HA.out.keep0 hmv.chg) (by simp; omega)
      simp only [Value.slice.injEq, List.length_map] at e3
      obtain ⟨rfl, -, rfl⟩ := e3
      have c0 := hcell k 0 (by simpa using hlt) (by decide)
      simp only [List.getD, List.getElem?_map, List.getElem?_eq_getElem hlt, Option.map_some, Option.getD_some, cF, List.getElem?_cons_zero, Nat.mul_one, Nat.add_zero] at c0
      have hc1 := hms.blk.cell
      obtain ⟨p, cp, hva⟩ := hms.args.form
      rw [List.length_map, List.length_take, Nat.min_eq_left hk] at hva
      simp only [] at hva
      subst hva
      unfold wcells at hc1
      rw [hs00.1, hs00.2.1, hs00.2.2] at hc1
      simp only [ptr, Option.isSome_none, Bool.false_eq_true, if_false] at hc1
      have hX := hms.blk.lt
      obtain ⟨i0, hi0, hz0, hs0, hby0⟩ := info_three infoF
      have I0 := Lib.hid hi0
      have FW := fix_walk args[k]
      have eT : (args.take k).map fx ++ [fx args[k]] = (args.take (k + 1)).map fx := by rw [List.take_add_one, List.getElem?_eq_getElem hlt, List.map_append]; rfl
      have eL2 : ((args.take k).map fx).length = k := by simp; omega
      generalize fx args[k] = y at *
      have HMS := Lib.hid hms
      have HMV := Lib.hid hmv
      have sf := run_store_float
      clear hms hmv hcell hi0
      go_wp2
      refine wp_region_noPanic ?_
      go_region_law (first
        | (go_simp; go_at_call 92; refine (FW _).mono ?_; rintro e w9 ⟨rfl, rfl⟩)
        | (go_loud (refine step_append_lies _ rfl (.tmp 58) (.tmp 61) 27 rfl 0 74 i0 _ 1 8 under74 I0.out hz0 hs0 hby0 rfl (by decide) (.slice p k cp) k (((args.take k).map fx).flatMap cF) rfl (by have := (HMS.out.args.keep (((Mv.refl ro' [] wr).alloc (.cells #[.float .f64 y] 74)).drew) (by simp)).own; simpa only [eL2] using this) _ 1 1 [.float .f64 y] rfl rfl (World.news_of_block (heap_alloc_new _ _)) (by simp [Value.oneCell']) (by decide) (by unfold maxLen; omega) (by omega) (Nat.zero_le _) _ rfl ?_)
           intro g cap w6 g2 g3 g4 g5
           go_loud (obtain ⟨o6, m6⟩ := grown_own (news := [y]) HMS.out.args ((Mv.refl ro' [] wr).alloc _).drew (by simp) (by simpa [cF] using g2) (by rw [eT]; simp; omega) g3 g4 rfl)
           have k6 := HMS.out.blk.keep m6 (by simp)
           have hc6 := k6.cell
           have hf6 := k6.free
           unfold wcells at hc6
           rw [hs00.1, hs00.2.1, hs00.2.2] at hc6
           simp only [ptr, Option.isSome_none, Bool.false_eq_true, if_false] at hc6
           clear g2 g3 g4 g5))
      all_goals
        refine NoPanic.normal ?_
        go_wp2
        go_roundw
        case rel =>
          have ms : Mv (setRo ro' (wr.alloc (.cells #[.float .f64 y] 74)).drew.heap.size (r + 23)) [r + 20] w6 _ (w6.setCell ⟨w2.heap.size, 10, none⟩ (.slice (some ⟨g, 0, none⟩) (k + 1) cap)) := (Mv.refl _ _ _).setCell (by rw [k6.role]; simp) _
          have ma : Mv ro' [r + 23, r + 20] wr _ _ := (m6.mono (by simp)).trans (ms.mono (by simp))
          refine ⟨k + 1, _, .slice (some ⟨g, 0, none⟩) (k + 1) cap, by go_num, by omega, ⟨k6.put rfl, HMS.out.mach.keep ma (by simp), (fun g2 hg2 => (HMS.out.scan g2 hg2).keep ma (by simp)), (fun g2 hg2 => (HMS.out.back g2 hg2).keep ma (by simp)), by rw [← eT]; exact o6.keep ms (by simp), HMS.out.was.keep ma (by simp)⟩, ((((HMV.out.mono (R' := [r + 23]) (by simp)).trans m6).setNew hMR _).fresh (by simpa using hfr))⟩
        case measure => simp [intOf]; omega
    · obtain rfl : k = args.length := by omega
      rw [List.take_length] at hms
      have HMS := Lib.hid hms
      have HMV := Lib.hid hmv
      have hcX := hms.blk
      unfold wcells at hcX
      rw [hs00.1, hs00.2.1, hs00.2.2] at hcX
      clear hms hmv
      go_wp2_with (go_at_call 117; refine (goes_walk hcX 1 (by decide)).mono ?_; rintro e w9 ⟨rfl, x9, m9⟩)
      go_ret
      have hs1 : newWr (badS tag code) args = ({ s0 with part := 1 } : Wr) := by rw [← HS.out]; rfl
      have k9 : WIs ro' r w9 w2.heap.size C tag code args ({ s0 with part := 1 } : Wr) ⟨M, 0, 0, va', .slice none 0 0, p2⟩ := by
        refine HMS.out.cells m9 ?_ rfl (fun g hg => ⟨hg, rfl⟩) (fun g hg => hg) rfl
        unfold wcells
        rw [show ({ s0 with part := 1 } : Wr).scan = none from hs00.2.1, show ({ s0 with part := 1 } : Wr).back = none from hs00.2.2]
        exact x9
      exact ⟨w2.heap.size, ro', _, rfl, by rw [hs1]; exact k9, (HMV.out.mono (R' := [r + 20]) (by simp)).trans m9 |>.fresh (by simpa using hfr2)⟩
end Go.Proofs.YtphaeodcomgffaaGreat
