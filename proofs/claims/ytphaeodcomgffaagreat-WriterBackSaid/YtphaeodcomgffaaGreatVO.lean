import Derived.Test.YtphaeodcomgffaaGreatRR
set_option linter.unusedVariables false
set_option linter.unusedSimpArgs false
namespace Go.Proofs.YtphaeodcomgffaaGreat
open Go.RowKit

/-! The document's writer: New. -/
set_option maxRecDepth 100000 in
set_option maxHeartbeats 2000000 in
theorem dwnew_none1 (C : Cfg) (tag th : Int) (vc va : Value) (a : Option Addr) (n c : Nat) (hva : va = .slice a n c) (w : World) (h : ¬ C.ok) :
    Calls Tryz.prog 77 #[cfgV C, .int .i64 th, .agg #[.int .i64 tag, vc], va] w fun e w' => e = .returned (.pointer none) ∧ Chg [] w w' := by
  have MW := fun W => dmnew_none C tag vc va a n c hva W (.inl h)
  subst hva
  have PW := rplace_walk C
  unfold planE at PW
  rw [if_neg h] at PW
  unfold noPlan cfgV at PW
  unfold cfgV at MW ⊢
  clear h
  go_enter Tryz.func77, Tryz.ntmps77
  go_wp2_with (first
    | (go_at_call 70; refine (PW _).mono ?_; rintro e w1 ⟨rfl, b1⟩; have q1 : Chg [] _ w1 := Chg.of_below b1; obtain ⟨z1, z2⟩ := two_kept q1; have hc1 := fun o => cell_of_row w1 _ o _ _ _ z1; have hc2 := fun o => cell_of_row w1 _ o _ _ _ z2; have L1 := lt_of_heap z1; have L2 := lt_of_heap z2; have Q1 := Lib.hid (two_chg q1); clear b1 z1 z2 q1)
    | (go_at_call 104; refine (MW _).mono ?_; rintro e w2 ⟨rfl, b2⟩; have q2 := b2; have Q2 := Lib.hid ((Q1.out.alloc _).trans q2); clear b2 q2))
  go_ret
  exact ⟨rfl, Q2.out⟩

set_option maxRecDepth 100000 in
set_option maxHeartbeats 2000000 in
theorem dwnew_none2 (C : Cfg) (tag th : Int) (vc va : Value) (a : Option Addr) (n c : Nat) (hva : va = .slice a n c) (w : World) (hC : C.ok) (h : 8 < n) :
    Calls Tryz.prog 77 #[cfgV C, .int .i64 th, .agg #[.int .i64 tag, vc], va] w fun e w' => e = .returned (.pointer none) ∧ Chg [] w w' := by
  have MW := fun W => dmnew_none C tag vc va a n c hva W (.inr h)
  subst hva
  have PW := rplace_walk C
  unfold planE at PW
  rw [if_pos hC] at PW
  unfold planV cfgV at PW
  unfold cfgV at MW ⊢
  clear h hC
  go_enter Tryz.func77, Tryz.ntmps77
  go_wp2_with (first
    | (go_at_call 70; refine (PW _).mono ?_; rintro e w1 ⟨rfl, b1⟩; have q1 : Chg [] _ w1 := Chg.of_below b1; obtain ⟨z1, z2⟩ := two_kept q1; have hc1 := fun o => cell_of_row w1 _ o _ _ _ z1; have hc2 := fun o => cell_of_row w1 _ o _ _ _ z2; have L1 := lt_of_heap z1; have L2 := lt_of_heap z2; have Q1 := Lib.hid (two_chg q1); clear b1 z1 z2 q1)
    | (go_at_call 104; refine (MW _).mono ?_; rintro e w2 ⟨rfl, b2⟩; have q2 := b2; have Q2 := Lib.hid ((Q1.out.alloc _).trans q2); clear b2 q2))
  go_ret
  exact ⟨rfl, Q2.out⟩
set_option maxRecDepth 100000 in
set_option maxHeartbeats 4000000 in
theorem dwnew_none3 (C : Cfg) (tag th : Int) (vc va : Value) (code : List Ins) (args : List Nat) (w : World) (hC : C.ok) (h8 : args.length ≤ 8) (hcode : RdC w vc code) (hargs : Rd w 1 va (args.map cF)) (hlen : code.length * 24 ≤ 140737488355328) (h : th < 0 ∨ C.threads ≤ th) :
    Calls Tryz.prog 77 #[cfgV C, .int .i64 th, .agg #[.int .i64 tag, vc], va] w fun e w' => e = .returned (.pointer none) ∧ Chg [] w w' := by
  have MW := fun W (q : Chg [] w W) => dmnew_walk (fun _ => 0) 0 C tag vc va code args W (by simp) hC h8 (hcode.keep0 q) (hargs.keep0 q)
  obtain ⟨va1, va2, rfl⟩ := hargs.slice
  have PW := rplace_walk C
  unfold planE at PW
  rw [if_pos hC] at PW
  unfold planV cfgV at PW
  unfold DNewP at MW
  unfold cfgV at MW ⊢
  simp only [ptr, List.length_map] at MW ⊢
  clear hC hcode hargs hlen h8
  rcases h with h | h
  · go_enter Tryz.func77, Tryz.ntmps77
    go_wp2_with (first
      | (go_at_call 70; refine (PW _).mono ?_; rintro e w1 ⟨rfl, b1⟩; have q1 : Chg [] _ w1 := Chg.of_below b1; obtain ⟨z1, z2⟩ := two_kept q1; have hc1 := fun o => cell_of_row w1 _ o _ _ _ z1; have hc2 := fun o => cell_of_row w1 _ o _ _ _ z2; have L1 := lt_of_heap z1; have L2 := lt_of_heap z2; have Q1 := Lib.hid (two_chg q1); clear b1 z1 z2 q1)
      | (go_at_call 104; refine (MW _ (Q1.out.alloc _)).mono ?_; rintro e w2 ⟨M, ro2, p2, rfl, m2, b2⟩; have Q2 := Lib.hid ((Q1.out.alloc _).trans b2.chg); clear b2))
    go_ret
    exact ⟨rfl, Q2.out⟩
  · have h0 : ¬ th < 0 ∨ th < 0 := by omega
    rcases h0 with h0 | h0
    · go_enter Tryz.func77, Tryz.ntmps77
      go_wp2_with (first
        | (go_at_call 70; refine (PW _).mono ?_; rintro e w1 ⟨rfl, b1⟩; have q1 : Chg [] _ w1 := Chg.of_below b1; obtain ⟨z1, z2⟩ := two_kept q1; have hc1 := fun o => cell_of_row w1 _ o _ _ _ z1; have hc2 := fun o => cell_of_row w1 _ o _ _ _ z2; have Z1 := Lib.hid z1; have L1 := lt_of_heap z1; have L2 := lt_of_heap z2; have Q1 := Lib.hid (two_chg q1); clear b1 z1 z2 q1)
        | (go_at_call 104; refine (MW _ (Q1.out.alloc _)).mono ?_; rintro e w2 ⟨M, ro2, p2, rfl, m2, b2⟩; have Q2 := Lib.hid ((Q1.out.alloc _).trans b2.chg); have hd1 := fun o => cell_of_row w2 _ o _ _ _ (((((Chg.refl _ _).alloc _).trans b2.chg).block _ L1 (by simp)).trans Z1.out); clear b2))
      go_ret
      exact ⟨rfl, Q2.out⟩
    · go_enter Tryz.func77, Tryz.ntmps77
      go_wp2_with (first
        | (go_at_call 70; refine (PW _).mono ?_; rintro e w1 ⟨rfl, b1⟩; have q1 : Chg [] _ w1 := Chg.of_below b1; obtain ⟨z1, z2⟩ := two_kept q1; have hc1 := fun o => cell_of_row w1 _ o _ _ _ z1; have hc2 := fun o => cell_of_row w1 _ o _ _ _ z2; have L1 := lt_of_heap z1; have L2 := lt_of_heap z2; have Q1 := Lib.hid (two_chg q1); clear b1 z1 z2 q1)
        | (go_at_call 104; refine (MW _ (Q1.out.alloc _)).mono ?_; rintro e w2 ⟨M, ro2, p2, rfl, m2, b2⟩; have Q2 := Lib.hid ((Q1.out.alloc _).trans b2.chg); clear b2))
      go_ret
      exact ⟨rfl, Q2.out⟩

def dwcells (C : Cfg) (tag : Int) (M : Nat) (va : Value) : Array Value := #[.int .i64 0, .int .i64 1, .int .i64 2, .int .i64 3, .int .i64 (3 + C.threads), .int .i64 (3 + C.threads + 3 * C.cells), ptr M, .int .i64 C.threads, .int .i64 tag, va, .int .i64 1, .int .u64 0, .int .u64 0, .slice none 0 0, .int .i64 0, .int .i64 0, .int .i64 0]
/-- A writer of the document's, as New leaves it. -/
structure DWIs (ro : Nat → Nat) (r : Nat) (w : World) (B : Nat) (C : Cfg) (tag : Int) (vc : Value) (args : List Nat) (m : Dm) (M : Nat) (va : Value) (p : Dq) : Prop where
  blk : Blk ro (r + 8) w B (dwcells C tag M va) 91
  mach : DMIs ro r w M C tag vc m p
  args : OwnL cF ro (r + 9) w 74 1 va (args.map fx)
theorem DWIs.keep {ro ro' : Nat → Nat} {r : Nat} {w w' : World} {B C tag vc args m M va p R} (h : DWIs ro r w B C tag vc args m M va p) (mv : Mv ro R w ro' w') (hR : ∀ x ∈ R, x < r ∨ r + 9 < x) : DWIs ro' r w' B C tag vc args m M va p := by
  have k : ∀ i, i ≤ 9 → r + i ∉ R := fun i hi hx => by have := hR _ hx; omega
  exact ⟨h.blk.keep mv (k 8 (by omega)), h.mach.keep mv fun x hx => by have := hR x hx; omega, h.args.keep mv (k 9 (by omega))⟩
def DWNewP (ro : Nat → Nat) (r : Nat) (w : World) (C : Cfg) (tag : Int) (vc : Value) (code : List Ins) (args : List Nat) (e : Ending) (w' : World) : Prop :=
  ∃ B ro' M va p, e = .returned (ptr B) ∧ DWIs ro' r w' B C tag vc args (Ms.new (badS tag code) args).dm M va p ∧ Mv ro [] w ro' w'
set_option maxRecDepth 100000 in
set_option maxHeartbeats 8000000 in
theorem dwnew_walk (ro : Nat → Nat) (r : Nat) (C : Cfg) (th tag : Int) (vc va : Value) (code : List Ins) (args : List Nat) (w : World) (hfr : ∀ k, k < w.heap.size → ro k ≠ r + 1 ∧ ro k ≠ r + 9) (hC : C.ok) (h8 : args.length ≤ 8) (h0 : 0 ≤ th) (h1 : th < C.threads) (hcode : RdC w vc code) (hargs : Rd w 1 va (args.map cF)) :
    Calls Tryz.prog 77 #[cfgV C, .int .i64 th, .agg #[.int .i64 tag, vc], va] w (DWNewP ro r w C tag vc code args) := by
  have MW := fun W (q : Chg [] w W) => dmnew_walk (newRo ro w.heap.size (r + 10)) r C tag vc va code args W (fun k _ => by unfold newRo; split; exact (hfr k (by assumption)).1; omega) hC h8 (hcode.keep0 q) (hargs.keep0 q)
  obtain ⟨va1, va2, rfl⟩ := hargs.slice
  have PW := rplace_walk C
  unfold planE at PW
  rw [if_pos hC] at PW
  unfold planV cfgV at PW
  unfold DNewP at MW
  unfold cfgV at MW ⊢
  simp only [ptr, List.length_map] at MW hargs ⊢
  have e0 : ¬ th < 0 := by omega
  have e1 : ¬ C.threads ≤ th := by omega
  have HA := Lib.hid hargs
  have hfr9 : ∀ x ∈ [r + 9], ∀ k, k < w.heap.size → ro k ≠ x := by intro x hx k hk; simp at hx; subst hx; exact (hfr k hk).2
  clear hC hcode hargs hfr
  go_enter Tryz.func77, Tryz.ntmps77
  go_wp2_with (first
    | (go_at_call 70; refine (PW _).mono ?_; rintro e w1 ⟨rfl, b1⟩; have q1 : Chg [] _ w1 := Chg.of_below b1; obtain ⟨z1, z2⟩ := two_kept q1; have hc1 := fun o => cell_of_row w1 _ o _ _ _ z1; have hc2 := fun o => cell_of_row w1 _ o _ _ _ z2; have Z1 := Lib.hid z1; have Z2 := Lib.hid z2; have L1 := lt_of_heap z1; have L2 := lt_of_heap z2; have Q1 := Lib.hid (two_chg q1); have M1 := Lib.hid (((Mv.refl ro [] w).alloc _).alloc _ |>.then_below b1); clear b1 z1 z2 q1)
    | (go_at_call 104; refine (MW _ (Q1.out.alloc _)).mono ?_; rintro e w2 ⟨M, ro2, p2, rfl, m2, b2⟩; have q2 : Chg [] w1 w2 := ((Chg.refl [] w1).alloc _).trans b2.chg; have hd1 := fun o => cell_of_row w2 _ o _ _ _ ((q2.block _ L1 (by simp)).trans Z1.out); have hd2 := fun o => cell_of_row w2 _ o _ _ _ ((q2.block _ L2 (by simp)).trans Z2.out); have hd3 := fun o => cell_of_row w2 _ o _ _ _ ((b2.chg.block w1.heap.size (by simp) (by simp)).trans (heap_alloc_new _ _)); have M2 := Lib.hid (((M1.out.alloc _).news (r := r + 10)).trans b2); have G2 := Lib.hid m2; clear b2 m2 q2))
  have m2 := M2.out
  have g2 := G2.out
  have m8 : Mv ro2 [] w2 (setRo ro2 w2.heap.size (r + 8)) (w2.alloc (.cells (dwcells C tag M (.slice none 0 0)) 91)) := ((Mv.refl _ _ _).alloc _).give (Nat.le_refl _)
  have H8 : DWIs (setRo ro2 w2.heap.size (r + 8)) r (w2.alloc (.cells (dwcells C tag M (.slice none 0 0)) 91)) w2.heap.size C tag vc (args.take 0) (Ms.new (badS tag code) args).dm M (.slice none 0 0) p2 :=
    ⟨⟨heap_alloc_new _ _, setRo_at _ _ _⟩, g2.keep m8 (by simp), OwnL.nil _ _ _ _ _ _⟩
  have M8 := m2.trans m8
  have hMR : w.heap.size ≤ w2.heap.size := m2.size
  have eL : dwcells C tag M (.slice none 0 0) = #[.int .i64 0, .int .i64 1, .int .i64 2, .int .i64 3, .int .i64 (3 + C.threads), .int .i64 (3 + C.threads + 3 * C.cells), .pointer (some ⟨M, 0, none⟩), .int .i64 C.threads, .int .i64 tag, .slice none 0 0, .int .i64 1, .int .u64 0, .int .u64 0, .slice none 0 0, .int .i64 0, .int .i64 0, .int .i64 0] := rfl
  rw [eL] at H8 M8
  generalize setRo ro2 w2.heap.size (r + 8) = ro8 at *
  generalize hS : (Ms.new (badS tag code) args).dm = s0 at *
  have HS := Lib.hid hS
  generalize hW8 : w2.alloc (.cells #[.int .i64 0, .int .i64 1, .int .i64 2, .int .i64 3, .int .i64 (3 + C.threads), .int .i64 (3 + C.threads + 3 * C.cells), .pointer (some ⟨M, 0, none⟩), .int .i64 C.threads, .int .i64 tag, .slice none 0 0, .int .i64 1, .int .u64 0, .int .u64 0, .slice none 0 0, .int .i64 0, .int .i64 0, .int .i64 0] 91) = W8 at *
  clear hW8 m8 eL m2 g2 hS MW PW hc1 hc2 hd1 hd2 hd3 Z1 Z2 M1 Q1
  have G8 := Lib.hid H8
  have GM8 := Lib.hid M8
  clear H8 M8
  go_loopw [50] (fun i wr => ∃ (k : Nat) (ro' : Nat → Nat) (va' : Value), i = .int .i64 k ∧ k ≤ args.length ∧ DWIs ro' r wr w2.heap.size C tag vc (args.take k) s0 M va' p2 ∧ Mv ro [] w ro' wr) (fun i _ => args.length - (intOf i).toNat)
  case atStart => exact ⟨0, ro8, _, rfl, Nat.zero_le _, G8.out, GM8.out⟩
  case round =>
    obtain ⟨k, ro', va', rfl, hk, hms, hmv⟩ := hrel
    by_cases hlt : k < args.length
    · have hlt' : (k : Int) < args.length := by omega
      obtain ⟨b, off, c', e3, hb, hcell⟩ := Rd.blk (HA.out.keep0 hmv.chg) (by simp; omega)
      simp only [Value.slice.injEq, List.length_map] at e3
      obtain ⟨rfl, -, rfl⟩ := e3
      have c0 := hcell k 0 (by simpa using hlt) (by decide)
      simp only [List.getD, List.getElem?_map, List.getElem?_eq_getElem hlt, Option.map_some, Option.getD_some, cF, List.getElem?_cons_zero, Nat.mul_one, Nat.add_zero] at c0
      have hc1 := hms.blk.cell
      obtain ⟨p, cp, hva⟩ := hms.args.form
      rw [List.length_map, List.length_take, Nat.min_eq_left hk] at hva
      subst hva
      unfold dwcells at hc1
      simp only [ptr] at hc1
      have hX := hms.blk.lt
      obtain ⟨i0, hi0, hz0, hs0, hby0⟩ := info_three infoF
      have I0 := Lib.hid hi0
      have FW := rfix_walk args[k]
      have eT : (args.take k).map fx ++ [fx args[k]] = (args.take (k + 1)).map fx := by rw [List.take_add_one, List.getElem?_eq_getElem hlt, List.map_append]; rfl
      have eL2 : ((args.take k).map fx).length = k := by simp; omega
      generalize fx args[k] = y at *
      have HMS := Lib.hid hms
      have HMV := Lib.hid hmv
      have sf := run_store_float
      clear hms hmv hcell hi0
      go_wp2
      refine wp_region_noPanic ?_
      go_region_law (first
        | (go_simp; go_at_call 105; refine (FW _).mono ?_; rintro e w9 ⟨rfl, rfl⟩)
        | (go_loud (refine step_append_lies _ rfl (.tmp 58) (.tmp 61) 27 rfl 0 74 i0 _ 1 8 under74 I0.out hz0 hs0 hby0 rfl (by decide) (.slice p k cp) k (((args.take k).map fx).flatMap cF) rfl (by have := (HMS.out.args.keep (((Mv.refl ro' [] wr).alloc (.cells #[.float .f64 y] 74)).drew) (by simp)).own; simpa only [eL2] using this) _ 1 1 [.float .f64 y] rfl rfl (World.news_of_block (heap_alloc_new _ _)) (by simp [Value.oneCell']) (by decide) (by unfold maxLen; omega) (by omega) (Nat.zero_le _) _ rfl ?_)
           intro g cap w6 g2 g3 g4 g5
           go_loud (obtain ⟨o6, m6⟩ := grown_own (news := [y]) HMS.out.args ((Mv.refl ro' [] wr).alloc _).drew (by simp) (by simpa [cF] using g2) (by rw [eT]; simp; omega) g3 g4 rfl)
           have k6 := HMS.out.blk.keep m6 (by simp)
           have hc6 := k6.cell
           have hf6 := k6.free
           unfold dwcells at hc6
           simp only [ptr] at hc6
           clear g2 g3 g4 g5))
      all_goals
        refine NoPanic.normal ?_
        go_wp2
        go_roundw
        case rel =>
          have ms : Mv (setRo ro' (wr.alloc (.cells #[.float .f64 y] 74)).drew.heap.size (r + 9)) [r + 8] w6 _ (w6.setCell ⟨w2.heap.size, 9, none⟩ (.slice (some ⟨g, 0, none⟩) (k + 1) cap)) := (Mv.refl _ _ _).setCell (by rw [k6.role]; simp) _
          have ma : Mv ro' [r + 9, r + 8] wr _ _ := (m6.mono (by simp)).trans (ms.mono (by simp))
          refine ⟨k + 1, _, .slice (some ⟨g, 0, none⟩) (k + 1) cap, by go_num, by omega, ⟨k6.put rfl, HMS.out.mach.keep ma (by simp), by rw [← eT]; exact o6.keep ms (by simp)⟩, ((((HMV.out.mono (R' := [r + 9]) (by simp)).trans m6).setNew hMR _).fresh hfr9)⟩
        case measure => simp [intOf]; omega
    · obtain rfl : k = args.length := by omega
      rw [List.take_length] at hms
      have HMS := Lib.hid hms
      have HMV := Lib.hid hmv
      clear hms hmv
      go_wp2
      go_ret
      exact ⟨w2.heap.size, ro', M, _, p2, rfl, by rw [HS.out]; exact HMS.out, HMV.out⟩
end Go.Proofs.YtphaeodcomgffaaGreat
