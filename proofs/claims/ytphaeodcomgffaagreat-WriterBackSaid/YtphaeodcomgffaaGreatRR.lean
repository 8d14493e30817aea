import Derived.Test.YtphaeodcomgffaaGreatE9
import Derived.Test.YtphaeodcomgffaaGreatK14
import Derived.Test.YtphaeodcomgffaaGreatEE
import Derived.Test.YtphaeodcomgffaaGreatEA
import Derived.Test.YtphaeodcomgffaaGreatLB
set_option linter.unusedVariables false
set_option linter.unusedSimpArgs false
namespace Go.Proofs.YtphaeodcomgffaaGreat
open Go.RowKit

/-- What a machine of the document's holds. -/
structure Dm where
  bad : Bool
  args : List Nat
  stack : List Nat
  calls : List Int
  locals : List Nat
  place : Int
  used : Int
  wait : Int
  how : Int
  ecode : Int
  err : Int
  out : List Nat
  reads : List (Int × Nat)
  writes : List (Int × Nat)
/-- Where its rows lie. -/
structure Dq where
  va : Value
  vs : Value
  vk : Value
  vl : Value
  vo : Value
  vr : Value
  vb : Value
def Ms.dm (m : Ms) : Dm := ⟨m.bad, (List.range 8).map m.args, m.stack, m.calls, (List.range 8).map m.locals, m.place, m.used, m.wait.getD (-1), m.how, m.ecode, m.err, m.out, m.reads, m.writes⟩
def dcells (C : Cfg) (tag : Int) (vc : Value) (d : Dm) (p : Dq) : Array Value :=
  #[.int .i64 C.cells, .int .i64 C.threads, .int .i64 C.fuel, .int .i64 C.writes, .int .i64 tag, vc, .bool d.bad, p.va, p.vs, p.vk, p.vl, .int .i64 d.place, .int .i64 d.used, .int .i64 d.wait, .int .i64 d.how, .int .i64 d.ecode, .int .i64 d.err, p.vo, p.vr, p.vb]
/-- Block M is a machine of the document's that stands at d. -/
structure DMIs (ro : Nat → Nat) (r : Nat) (w : World) (M : Nat) (C : Cfg) (tag : Int) (vc : Value) (d : Dm) (p : Dq) : Prop where
  blk : Blk ro r w M (dcells C tag vc d p) 143
  args : OwnL cF ro (r + 1) w 74 1 p.va d.args
  stack : OwnL cF ro (r + 2) w 74 1 p.vs d.stack
  calls : OwnL cI ro (r + 3) w 3 1 p.vk d.calls
  locals : OwnL cF ro (r + 4) w 74 1 p.vl d.locals
  out : OwnL cF ro (r + 5) w 74 1 p.vo d.out
  reads : OwnL cT ro (r + 6) w 76 2 p.vr d.reads
  writes : OwnL cT ro (r + 7) w 76 2 p.vb d.writes
theorem DMIs.keep {ro ro' : Nat → Nat} {r : Nat} {w w' : World} {M C tag vc d p R} (h : DMIs ro r w M C tag vc d p) (mv : Mv ro R w ro' w') (hR : ∀ x ∈ R, x < r ∨ r + 7 < x) : DMIs ro' r w' M C tag vc d p := by
  have k : ∀ i, i ≤ 7 → r + i ∉ R := fun i hi hx => by have := hR _ hx; omega
  exact ⟨h.blk.keep mv (k 0 (by omega)), h.args.keep mv (k 1 (by omega)), h.stack.keep mv (k 2 (by omega)), h.calls.keep mv (k 3 (by omega)), h.locals.keep mv (k 4 (by omega)), h.out.keep mv (k 5 (by omega)), h.reads.keep mv (k 6 (by omega)), h.writes.keep mv (k 7 (by omega))⟩
def DNewP (ro : Nat → Nat) (r : Nat) (w : World) (C : Cfg) (tag : Int) (vc : Value) (code : List Ins) (args : List Nat) (e : Ending) (w' : World) : Prop :=
  ∃ M ro' p, e = .returned (ptr M) ∧ DMIs ro' r w' M C tag vc (Ms.new (badS tag code) args).dm p ∧ Mv ro [] w ro' w'
/-- The document's machine, the first k of its arguments laid. -/
def dNew (bad : Bool) (args : List Nat) (k : Nat) : Dm := ⟨bad, (List.range k).map (Ms.new bad args).args, [], [], List.replicate 8 0, 0, 0, -1, 0, 0, 0, [], [], []⟩
theorem dNew_8 (bad : Bool) (args : List Nat) : dNew bad args 8 = (Ms.new bad args).dm := rfl
theorem zeros_flatF (n : Nat) : (List.replicate n 0).flatMap cF = List.replicate n (.float .f64 0) := by
  induction n with
  | zero => rfl
  | succ n ih => rw [List.replicate_succ, List.replicate_succ, List.flatMap_cons, ih]; rfl
theorem OwnL.zerosF (ro : Nat → Nat) (r : Nat) (w : World) (n : Nat) (hn : n ≤ maxLen) : OwnL cF (setRo ro w.heap.size r) r (w.alloc (.cells (madeCells #[.float .f64 0] n) 74)) 74 1 (.slice (some ⟨w.heap.size, 0, none⟩) n n) (List.replicate n 0) := by
  have h := World.ownsRow_lit (base := 0) (size := 1) (e := 74) w (madeCells #[.float .f64 0] n) n (Nat.zero_le _) hn (by rw [size_madeCells, Nat.mul_one])
  rw [toList_madeCells_one] at h
  refine ⟨by rw [List.length_replicate, zeros_flatF]; exact h, fun k hk => ?_⟩
  simp only [Value.ownBlock, Option.some.injEq] at hk
  subst hk
  exact setRo_at _ _ _

theorem rfix_walk (b : Nat) (w : World) : Calls Tryz.prog 105 #[.float .f64 b] w fun e w' => e = .returned (.float .f64 (fx b)) ∧ w' = w := by
  have e38 := run_frombits
  cases h : bad b
  · have h2 : (FloatKind.f64.format.order b b != some Ordering.eq) = false := h
    have g : fx b = b := by simp [fx, h]
    rw [g]
    clear h g
    go_enter Tryz.func105, Tryz.ntmps105
    go_wp2
    go_ret
    exact ⟨rfl, rfl⟩
  · have h2 : (FloatKind.f64.format.order b b != some Ordering.eq) = true := h
    have g : fx b = theNaN := by simp [fx, h]
    rw [g]
    clear h g
    go_enter Tryz.func105, Tryz.ntmps105
    go_wp2
    go_ret
    exact ⟨rfl, rfl⟩
/-- The document's machine as its block is made. -/
theorem dm_start {ro5 : Nat → Nat} {r : Nat} {W5 : World} {C : Cfg} {tag : Int} {vc : Value} {bd : Bool} {args : List Nat} {s : Value} (hO : OwnL cF ro5 (r + 4) W5 74 1 s (List.replicate 8 0)) :
    DMIs (setRo ro5 W5.heap.size r) r (W5.alloc (.cells (dcells C tag vc (dNew bd args 0) ⟨.slice none 0 0, .slice none 0 0, .slice none 0 0, s, .slice none 0 0, .slice none 0 0, .slice none 0 0⟩) 143)) W5.heap.size C tag vc (dNew bd args 0) ⟨.slice none 0 0, .slice none 0 0, .slice none 0 0, s, .slice none 0 0, .slice none 0 0, .slice none 0 0⟩ ∧ Mv ro5 [] W5 (setRo ro5 W5.heap.size r) (W5.alloc (.cells (dcells C tag vc (dNew bd args 0) ⟨.slice none 0 0, .slice none 0 0, .slice none 0 0, s, .slice none 0 0, .slice none 0 0, .slice none 0 0⟩) 143)) := by
  have m : Mv ro5 [] W5 (setRo ro5 W5.heap.size r) (W5.alloc (.cells (dcells C tag vc (dNew bd args 0) ⟨.slice none 0 0, .slice none 0 0, .slice none 0 0, s, .slice none 0 0, .slice none 0 0, .slice none 0 0⟩) 143)) := ((Mv.refl _ _ _).alloc _).give (Nat.le_refl _)
  exact ⟨⟨⟨heap_alloc_new _ _, setRo_at _ _ _⟩, OwnL.nil _ _ _ _ _ _, OwnL.nil _ _ _ _ _ _, OwnL.nil _ _ _ _ _ _, hO.keep m (by simp), OwnL.nil _ _ _ _ _ _, OwnL.nil _ _ _ _ _ _, OwnL.nil _ _ _ _ _ _⟩, m⟩
set_option maxRecDepth 100000 in
set_option maxHeartbeats 1000000 in
theorem dmnew_none (C : Cfg) (tag : Int) (vc va : Value) (a : Option Addr) (n c : Nat) (hva : va = .slice a n c) (w : World) (h : ¬ C.ok ∨ 8 < n) : Calls Tryz.prog 104 #[cfgV C, .agg #[.int .i64 tag, vc], va] w fun e w' => e = .returned (.pointer none) ∧ Chg [] w w' := by
  subst hva
  have PW := rplace_walk C
  unfold planE at PW
  by_cases hC : C.ok
  · have h8 : (8 : Int) < n := by rcases h with h | h; exact absurd hC h; omega
    rw [if_pos hC] at PW
    unfold planV cfgV at PW
    unfold cfgV
    clear h hC
    go_enter Tryz.func104, Tryz.ntmps104
    go_wp2_with (go_at_call 70; refine (PW _).mono ?_; rintro e w1 ⟨rfl, b1⟩; have B1 := Lib.hid b1; clear b1)
    go_ret
    exact ⟨rfl, (((((Chg.refl _ _).alloc _).alloc _).trans (Chg.of_below B1.out)).alloc _)⟩
  · rw [if_neg hC] at PW
    unfold noPlan cfgV at PW
    unfold cfgV
    clear h hC
    go_enter Tryz.func104, Tryz.ntmps104
    go_wp2_with (go_at_call 70; refine (PW _).mono ?_; rintro e w1 ⟨rfl, b1⟩; have B1 := Lib.hid b1; clear b1)
    go_ret
    exact ⟨rfl, (((((Chg.refl _ _).alloc _).alloc _).trans (Chg.of_below B1.out)).alloc _)⟩

set_option maxRecDepth 100000 in
set_option maxHeartbeats 8000000 in
theorem dmnew_walk (ro : Nat → Nat) (r : Nat) (C : Cfg) (tag : Int) (vc va : Value) (code : List Ins) (args : List Nat) (w : World) (hfr : ∀ k, k < w.heap.size → ro k ≠ r + 1) (hC : C.ok) (h8 : args.length ≤ 8) (hcode : RdC w vc code) (hargs : Rd w 1 va (args.map cF)) :
    Calls Tryz.prog 104 #[cfgV C, .agg #[.int .i64 tag, vc], va] w (DNewP ro r w C tag vc code args) := by
  have hmk : ∀ u : World, (Instr.makeSlice 27 (.int .i64 8) (.int .i64 8)).run Tryz.prog u = .ok (.slice (some ⟨u.heap.size, 0, none⟩) 8 8) (u.alloc (.cells (madeCells #[.float .f64 0] 8) 74)) := fun u => by
    obtain ⟨i, hi, hz, hs, hb⟩ := info_three infoF
    have := run_makeSlice (P := Tryz.prog) u 27 74 i _ under74 hi hz .i64 .i64 8 8 (by omega) (Int.le_refl _) (by rw [hs]; omega) (by rw [hb]; omega) (by omega)
    rw [hs] at this
    exact this
  have ZF := fun ro' W => OwnL.zerosF ro' (r + 4) W 8 (by decide)
  generalize madeCells #[.float .f64 0] 8 = z8 at *
  obtain ⟨va1, va2, rfl⟩ := hargs.slice
  have PW := rplace_walk C
  unfold planE at PW
  rw [if_pos hC] at PW
  unfold planV cfgV at PW
  unfold cfgV
  simp only [ptr, List.length_map] at hargs ⊢
  have h8' : ¬ (8 : Int) < args.length := by omega
  have CW := fun W (c : Chg [] w W) => rcheck_walk tag vc code W (hcode.keep0 c)
  have HA := Lib.hid hargs
  clear hC hcode hargs
  go_enter Tryz.func104, Tryz.ntmps104
  go_wp2_with (go_at_call 70; refine (PW _).mono ?_; rintro e w1 ⟨rfl, b1⟩; have q1 : Chg [] _ w1 := Chg.of_below b1; obtain ⟨z1, z2⟩ := two_kept q1; have hc1 := fun o => cell_of_row w1 _ o _ _ _ z1; have hc2 := fun o => cell_of_row w1 _ o _ _ _ z2; have Z1 := Lib.hid z1; have Z2 := Lib.hid z2; have L1 := lt_of_heap z1; have L2 := lt_of_heap z2; have Q1 := Lib.hid (two_chg q1); have M1 := Lib.hid (((Mv.refl ro [] w).alloc _).alloc _ |>.then_below b1); clear b1 z1 z2 q1)
  have k1 := Z1.out
  have k2 := Z2.out
  have M2 := M1.out.alloc (.cells #[.int .i64 0, .int .i64 1, .int .i64 2, .int .i64 3, .int .i64 (3 + C.threads), .int .i64 (3 + C.threads + 3 * C.cells)] 38)
  have k1' := ((Mv.refl ro [] w1).alloc (.cells #[.int .i64 0, .int .i64 1, .int .i64 2, .int .i64 3, .int .i64 (3 + C.threads), .int .i64 (3 + C.threads + 3 * C.cells)] 38)).block _ L1 (by simp) |>.trans k1
  have k2' := ((Mv.refl ro [] w1).alloc (.cells #[.int .i64 0, .int .i64 1, .int .i64 2, .int .i64 3, .int .i64 (3 + C.threads), .int .i64 (3 + C.threads + 3 * C.cells)] 38)).block _ L2 (by simp) |>.trans k2
  generalize hW2 : w1.alloc (.cells #[.int .i64 0, .int .i64 1, .int .i64 2, .int .i64 3, .int .i64 (3 + C.threads), .int .i64 (3 + C.threads + 3 * C.cells)] 38) = W2 at *
  have S0 : ∀ ro' W, Mv ro [] W2 ro' W → (W.cell? ⟨w.heap.size, 0, none⟩ = some (.int .i64 C.cells) ∧ W.cell? ⟨w.heap.size, 1, none⟩ = some (.int .i64 C.threads) ∧ W.cell? ⟨w.heap.size, 2, none⟩ = some (.int .i64 C.fuel) ∧ W.cell? ⟨w.heap.size, 3, none⟩ = some (.int .i64 C.writes) ∧ W.cell? ⟨w.heap.size + 1, 0, none⟩ = some (.int .i64 tag) ∧ W.cell? ⟨w.heap.size + 1, 1, none⟩ = some vc) := fun ro' W mv => by
    have c1 := fun o => cell_of_row W _ o _ _ _ ((mv.block _ (lt_of_heap k1') (by simp)).trans k1')
    have c2 := fun o => cell_of_row W _ o _ _ _ ((mv.block _ (lt_of_heap k2') (by simp)).trans k2')
    exact ⟨c1 0, c1 1, c1 2, c1 3, c2 0, c2 1⟩
  have s4 := S0 ro W2 (Mv.refl _ _ _)
  have MM2 := Lib.hid M2
  have HCW := Lib.hid CW
  have HZF := Lib.hid ZF
  clear ZF
  clear hc1 hc2 Z1 Z2 Q1 M1 PW k1 k2 k1' k2' hW2 M2 CW
  refine wp_region_noPanic ?_
  go_region_held_law (fun w' => (w'.cell? ⟨w.heap.size, 0, none⟩ = some (.int .i64 C.cells) ∧ w'.cell? ⟨w.heap.size, 1, none⟩ = some (.int .i64 C.threads) ∧ w'.cell? ⟨w.heap.size, 2, none⟩ = some (.int .i64 C.fuel) ∧ w'.cell? ⟨w.heap.size, 3, none⟩ = some (.int .i64 C.writes) ∧ w'.cell? ⟨w.heap.size + 1, 0, none⟩ = some (.int .i64 tag) ∧ w'.cell? ⟨w.heap.size + 1, 1, none⟩ = some vc)) (first | assumption | (exact S0 ro _ (Mv.refl ro [] W2).drew) | (exact S0 ro _ ((Mv.refl ro [] W2).drew.alloc _)) | (exact S0 ro _ (((Mv.refl ro [] W2).drew.alloc _).then_below b6)) | (exact S0 ro _ ((Mv.refl ro [] W2).drew.then_below b6)) | (exact S0 ro _ (((Mv.refl ro [] W2).drew.then_below b6).alloc _)) | (exact S0 ro _ ((((Mv.refl ro [] W2).drew.then_below b6).alloc _).alloc _)) | (exact S0 ro _ ((((Mv.refl ro [] W2).drew.alloc _).then_below b6).alloc _)))
    ((go_at_call 136; refine (HCW.out _ (by first | exact (MM2.out.drew).chg | exact ((MM2.out.drew).alloc _).chg)).mono ?_; rintro e w6 ⟨rfl, b6⟩; try (have z6 := ((HZF.out ro W2).keep (Mv.refl _ [] _).drew (by simp)).keep (Mv.of_below (R := []) b6) (by simp))))
  all_goals
    refine NoPanic.normal ?_
    clear s4 S0
    go_wp2
    have eL : ∀ (bd : Bool) (s : Value), dcells C tag vc (dNew bd args 0) ⟨.slice none 0 0, .slice none 0 0, .slice none 0 0, s, .slice none 0 0, .slice none 0 0, .slice none 0 0⟩ = #[.int .i64 C.cells, .int .i64 C.threads, .int .i64 C.fuel, .int .i64 C.writes, .int .i64 tag, vc, .bool bd, .slice none 0 0, .slice none 0 0, .slice none 0 0, s, .int .i64 0, .int .i64 0, .int .i64 (-1), .int .i64 0, .int .i64 0, .int .i64 0, .slice none 0 0, .slice none 0 0, .slice none 0 0] := fun _ _ => rfl
    have fin : ∀ (ro5 : Nat → Nat) (W5 : World) (s : Value), OwnL cF ro5 (r + 4) W5 74 1 s (List.replicate 8 0) → Mv ro [] w ro5 W5 → ∃ ro7, DMIs ro7 r (W5.alloc (.cells #[.int .i64 C.cells, .int .i64 C.threads, .int .i64 C.fuel, .int .i64 C.writes, .int .i64 tag, vc, .bool (checkS tag code != 0), .slice none 0 0, .slice none 0 0, .slice none 0 0, s, .int .i64 0, .int .i64 0, .int .i64 (-1), .int .i64 0, .int .i64 0, .int .i64 0, .slice none 0 0, .slice none 0 0, .slice none 0 0] 143)) W5.heap.size C tag vc (dNew (badS tag code) args 0) ⟨.slice none 0 0, .slice none 0 0, .slice none 0 0, s, .slice none 0 0, .slice none 0 0, .slice none 0 0⟩ ∧ Mv ro [] w ro7 (W5.alloc (.cells #[.int .i64 C.cells, .int .i64 C.threads, .int .i64 C.fuel, .int .i64 C.writes, .int .i64 tag, vc, .bool (checkS tag code != 0), .slice none 0 0, .slice none 0 0, .slice none 0 0, s, .int .i64 0, .int .i64 0, .int .i64 (-1), .int .i64 0, .int .i64 0, .int .i64 0, .slice none 0 0, .slice none 0 0, .slice none 0 0] 143)) := fun ro5 W5 s hO hM => by
      obtain ⟨D, m⟩ := dm_start (C := C) (tag := tag) (vc := vc) (bd := checkS tag code != 0) (args := args) hO
      rw [eL] at D m
      exact ⟨_, D, hM.trans m⟩
    have hsz : w.heap.size ≤ W2.heap.size := MM2.out.size
    first
      | (obtain ⟨ro7, D7, M7⟩ := fin _ _ _ z6 (((((MM2.out.alloc (.cells z8 74)).give (r := r + 4) hsz).drew).then_below b6))
         have hL := Nat.le_trans (MM2.out.size) (show W2.heap.size ≤ w6.heap.size from Nat.le_trans (Nat.le_succ _) (by have := b6.size; simpa using this))
         generalize w6.alloc _ = W7 at *
         generalize w6.heap.size = MP at *
         generalize W2.heap.size = LP at *)
      | (obtain ⟨ro7, D7, M7⟩ := fin _ _ _ (HZF.out ro w6) (((MM2.out.drew.then_below b6).alloc _).give (Nat.le_trans hsz (by have := b6.size; simpa using this)))
         have hL : w.heap.size ≤ w6.heap.size + 1 := Nat.le_trans hsz (Nat.le_trans (by have := b6.size; simpa using this) (Nat.le_succ _))
         have eh : (w6.alloc (.cells z8 74)).heap.size = w6.heap.size + 1 := by simp
         rw [eh] at D7
         generalize (w6.alloc (.cells z8 74)).alloc _ = W7 at *
         generalize w6.heap.size + 1 = MP at *
         generalize w6.heap.size = LP at *)
    have G7 := Lib.hid D7
    have GM7 := Lib.hid M7
    clear D7 M7 fin eL HZF HCW MM2 hsz
    obtain ⟨bd, hbd⟩ : ∃ bd, bd = badS tag code := ⟨_, rfl⟩
    rw [← hbd] at G7
    have HBD := Lib.hid hbd
    clear hbd
    go_loopw [10] (fun i wr => ∃ (k : Nat) (ro' : Nat → Nat) (va' : Value), i = .int .i64 k ∧ k ≤ 8 ∧ DMIs ro' r wr MP C tag vc (dNew bd args k) ⟨va', .slice none 0 0, .slice none 0 0, .slice (some ⟨LP, 0, none⟩) 8 8, .slice none 0 0, .slice none 0 0, .slice none 0 0⟩ ∧ Mv ro [] w ro' wr) (fun i _ => 8 - (intOf i).toNat)
    case atStart => exact ⟨0, ro7, _, rfl, by omega, G7.out, GM7.out⟩
    case round =>
      obtain ⟨k, ro', va', rfl, hk, hms, hmv⟩ := hrel
      by_cases hlt : k < 8
      · have hlt' : (k : Int) < 8 := by omega
        have hc1 := hms.blk.cell
        have hf1 := hms.blk.free 7
        obtain ⟨p, cp, hva⟩ := hms.args.form
        have eA : (dNew bd args k).args = (List.range k).map (Ms.new bd args).args := rfl
        rw [eA, List.length_map, List.length_range] at hva
        simp only [] at hva
        subst hva
        unfold dcells dNew at hc1
        simp only at hc1
        have hX := hms.blk.lt
        obtain ⟨i0, hi0, hz0, hs0, hby0⟩ := info_three infoF
        have I0 := Lib.hid hi0
        have eT : (List.range k).map (Ms.new bd args).args ++ [(Ms.new bd args).args k] = (List.range (k + 1)).map (Ms.new bd args).args := by rw [List.range_succ, List.map_append]; rfl
        have eL2 : ((List.range k).map (Ms.new bd args).args).length = k := by simp
        by_cases ha : k < args.length
        · have ha' : (k : Int) < args.length := by omega
          obtain ⟨b, off, c', e3, hb, hcell⟩ := Rd.blk (HA.out.keep0 hmv.chg) (by simp; omega)
          simp only [Value.slice.injEq, List.length_map] at e3
          obtain ⟨rfl, -, rfl⟩ := e3
          have c0 := hcell k 0 (by simpa using ha) (by decide)
          simp only [List.getD, List.getElem?_map, List.getElem?_eq_getElem ha, Option.map_some, Option.getD_some, cF, List.getElem?_cons_zero, Nat.mul_one, Nat.add_zero] at c0
          have ey : (Ms.new bd args).args k = fx args[k] := by show (if k < args.length then fx (args.getD k 0) else 0) = _; rw [if_pos ha, List.getD_eq_getElem?_getD, List.getElem?_eq_getElem ha]; rfl
          rw [ey] at eT
          have FW := rfix_walk args[k]
          generalize fx args[k] = y at *
          have HMS := Lib.hid hms
          have HMV := Lib.hid hmv
          have sf := run_store_float
          clear hms hmv hcell hi0 ey
          go_wp2_with (first
            | (go_at_call 105; refine (FW _).mono ?_; rintro e w9 ⟨rfl, rfl⟩)
            | (at_builtin; go_loud (refine wpList_append_lies _ rfl (.tmp 49) (.tmp 51) 27 rfl 0 74 i0 _ 1 8 under74 I0.out hz0 hs0 hby0 rfl (by decide) (.slice p k cp) k (((List.range k).map (Ms.new bd args).args).flatMap cF) rfl (by have := (HMS.out.args.keep ((Mv.refl ro' [] _).alloc (.cells #[.float .f64 y] 74)) (by simp)).own; simpa only [eA, eL2] using this) _ 1 1 [.float .f64 y] rfl rfl (World.news_of_block (heap_alloc_new _ _)) (by simp [Value.oneCell']) (by decide) (by unfold maxLen; omega) (by omega) (Nat.zero_le _) _ rfl ?_); intro g cap w6 h2 h3 h4 h5; go_loud (obtain ⟨o6, m6⟩ := grown_own (news := [y]) HMS.out.args ((Mv.refl ro' [] _).alloc _) (by simp) (by rw [eA]; simpa [cF] using h2) (by rw [eA]; simp) h3 h4 rfl); have b6 := HMS.out.blk.keep m6 (by simp); have hc6 := b6.cell; have hf6 := b6.free; unfold dcells dNew at hc6; simp only at hc6; clear h2 h3 h4 h5))
          go_roundw
          case rel =>
            have ms : Mv (setRo ro' (w9.alloc (.cells #[.float .f64 y] 74)).heap.size (r + 1)) [r] w6 _ (w6.setCell ⟨MP, 7, none⟩ (.slice (some ⟨g, 0, none⟩) (k + 1) cap)) := (Mv.refl _ _ _).setCell (by rw [b6.role]; simp) _
            have ma : Mv ro' [r + 1, r] w9 _ _ := (m6.mono (by simp)).trans (ms.mono (by simp))
            refine ⟨k + 1, _, .slice (some ⟨g, 0, none⟩) (k + 1) cap, by go_num, by omega, ⟨b6.put rfl, ?_, HMS.out.stack.keep ma (by simp), HMS.out.calls.keep ma (by simp), HMS.out.locals.keep ma (by simp), HMS.out.out.keep ma (by simp), HMS.out.reads.keep ma (by simp), HMS.out.writes.keep ma (by simp)⟩, ((((HMV.out.mono (R' := [r + 1]) (by simp)).trans m6).setNew hL _).fresh (by simpa using hfr))⟩
            show OwnL cF _ _ _ _ _ _ ((List.range (k + 1)).map (Ms.new bd args).args)
            rw [← eT]
            exact o6.keep ms (by simp)
          case measure => simp [intOf]; omega
        · have ha' : ¬ (k : Int) < args.length := by omega
          have ey : (Ms.new bd args).args k = 0 := by show (if k < args.length then fx (args.getD k 0) else 0) = _; rw [if_neg ha]
          rw [ey] at eT
          have HMS := Lib.hid hms
          have HMV := Lib.hid hmv
          have sf := run_store_float
          clear hms hmv hi0 ey
          go_wp2_with (first
            | (at_builtin; go_loud (refine wpList_append_lies _ rfl (.tmp 49) (.tmp 51) 27 rfl 0 74 i0 _ 1 8 under74 I0.out hz0 hs0 hby0 rfl (by decide) (.slice p k cp) k (((List.range k).map (Ms.new bd args).args).flatMap cF) rfl (by have := (HMS.out.args.keep ((Mv.refl ro' [] _).alloc (.cells #[.float .f64 0] 74)) (by simp)).own; simpa only [eA, eL2] using this) _ 1 1 [.float .f64 0] rfl rfl (World.news_of_block (heap_alloc_new _ _)) (by simp [Value.oneCell']) (by decide) (by unfold maxLen; omega) (by omega) (Nat.zero_le _) _ rfl ?_); intro g cap w6 h2 h3 h4 h5; go_loud (obtain ⟨o6, m6⟩ := grown_own (news := [0]) HMS.out.args ((Mv.refl ro' [] _).alloc _) (by simp) (by rw [eA]; simpa [cF] using h2) (by rw [eA]; simp) h3 h4 rfl); have b6 := HMS.out.blk.keep m6 (by simp); have hc6 := b6.cell; have hf6 := b6.free; unfold dcells dNew at hc6; simp only at hc6; clear h2 h3 h4 h5))
          go_roundw
          case rel =>
            have ms : Mv (setRo ro' (wr.alloc (.cells #[.float .f64 0] 74)).heap.size (r + 1)) [r] w6 _ (w6.setCell ⟨MP, 7, none⟩ (.slice (some ⟨g, 0, none⟩) (k + 1) cap)) := (Mv.refl _ _ _).setCell (by rw [b6.role]; simp) _
            have ma : Mv ro' [r + 1, r] wr _ _ := (m6.mono (by simp)).trans (ms.mono (by simp))
            refine ⟨k + 1, _, .slice (some ⟨g, 0, none⟩) (k + 1) cap, by go_num, by omega, ⟨b6.put rfl, ?_, HMS.out.stack.keep ma (by simp), HMS.out.calls.keep ma (by simp), HMS.out.locals.keep ma (by simp), HMS.out.out.keep ma (by simp), HMS.out.reads.keep ma (by simp), HMS.out.writes.keep ma (by simp)⟩, ((((HMV.out.mono (R' := [r + 1]) (by simp)).trans m6).setNew hL _).fresh (by simpa using hfr))⟩
            show OwnL cF _ _ _ _ _ _ ((List.range (k + 1)).map (Ms.new bd args).args)
            rw [← eT]
            exact o6.keep ms (by simp)
          case measure => simp [intOf]; omega
      · obtain rfl : k = 8 := by omega
        have HMS := Lib.hid hms
        have HMV := Lib.hid hmv
        clear hms hmv
        go_wp2
        go_ret
        exact ⟨MP, ro', _, rfl, by rw [← HBD.out]; exact HMS.out, HMV.out⟩
end Go.Proofs.YtphaeodcomgffaaGreat
set_option linter.unusedVariables false
set_option linter.unusedSimpArgs false
namespace Go.Proofs.YtphaeodcomgffaaGreat
open Go.RowKit

set_option maxRecDepth 100000 in
set_option maxHeartbeats 2000000 in
theorem dnew_none1 (C : Cfg) (tag th : Int) (vc va : Value) (a : Option Addr) (n c : Nat) (hva : va = .slice a n c) (w : World) (h : ¬ C.ok) :
    Calls Tryz.prog 60 #[cfgV C, .int .i64 th, .agg #[.int .i64 tag, vc], va] w fun e w' => e = .returned (.pointer none) ∧ Chg [] w w' := by
  have MW := fun W => dmnew_none C tag vc va a n c hva W (.inl h)
  subst hva
  have PW := rplace_walk C
  unfold planE at PW
  rw [if_neg h] at PW
  unfold noPlan cfgV at PW
  unfold cfgV at MW ⊢
  clear h
  go_enter Tryz.func60, Tryz.ntmps60
  go_wp2_with (first
    | (go_at_call 70; refine (PW _).mono ?_; rintro e w1 ⟨rfl, b1⟩; have q1 : Chg [] _ w1 := Chg.of_below b1; obtain ⟨z1, z2⟩ := two_kept q1; have hc1 := fun o => cell_of_row w1 _ o _ _ _ z1; have hc2 := fun o => cell_of_row w1 _ o _ _ _ z2; have L1 := lt_of_heap z1; have L2 := lt_of_heap z2; have Q1 := Lib.hid (two_chg q1); clear b1 z1 z2 q1)
    | (go_at_call 104; refine (MW _).mono ?_; rintro e w2 ⟨rfl, b2⟩; have q2 := b2; have Q2 := Lib.hid ((Q1.out.alloc _).trans q2); clear b2 q2))
  go_ret
  exact ⟨rfl, Q2.out⟩

set_option maxRecDepth 100000 in
set_option maxHeartbeats 2000000 in
theorem dnew_none2 (C : Cfg) (tag th : Int) (vc va : Value) (a : Option Addr) (n c : Nat) (hva : va = .slice a n c) (w : World) (hC : C.ok) (h : 8 < n) :
    Calls Tryz.prog 60 #[cfgV C, .int .i64 th, .agg #[.int .i64 tag, vc], va] w fun e w' => e = .returned (.pointer none) ∧ Chg [] w w' := by
  have MW := fun W => dmnew_none C tag vc va a n c hva W (.inr h)
  subst hva
  have PW := rplace_walk C
  unfold planE at PW
  rw [if_pos hC] at PW
  unfold planV cfgV at PW
  unfold cfgV at MW ⊢
  clear h hC
  go_enter Tryz.func60, Tryz.ntmps60
  go_wp2_with (first
    | (go_at_call 70; refine (PW _).mono ?_; rintro e w1 ⟨rfl, b1⟩; have q1 : Chg [] _ w1 := Chg.of_below b1; obtain ⟨z1, z2⟩ := two_kept q1; have hc1 := fun o => cell_of_row w1 _ o _ _ _ z1; have hc2 := fun o => cell_of_row w1 _ o _ _ _ z2; have L1 := lt_of_heap z1; have L2 := lt_of_heap z2; have Q1 := Lib.hid (two_chg q1); clear b1 z1 z2 q1)
    | (go_at_call 104; refine (MW _).mono ?_; rintro e w2 ⟨rfl, b2⟩; have q2 := b2; have Q2 := Lib.hid ((Q1.out.alloc _).trans q2); clear b2 q2))
  go_ret
  exact ⟨rfl, Q2.out⟩
set_option maxRecDepth 100000 in
set_option maxHeartbeats 4000000 in
theorem dnew_none3 (C : Cfg) (tag th : Int) (vc va : Value) (code : List Ins) (args : List Nat) (w : World) (hC : C.ok) (h8 : args.length ≤ 8) (hcode : RdC w vc code) (hargs : Rd w 1 va (args.map cF)) (hlen : code.length * 24 ≤ 140737488355328) (h : th < 0 ∨ C.threads ≤ th) :
    Calls Tryz.prog 60 #[cfgV C, .int .i64 th, .agg #[.int .i64 tag, vc], va] w fun e w' => e = .returned (.pointer none) ∧ Chg [] w w' := by
  have MW := fun W (q : Chg [] w W) => dmnew_walk (fun _ => 0) 0 C tag vc va code args W (by simp) hC h8 (hcode.keep0 q) (hargs.keep0 q)
  obtain ⟨va1, va2, rfl⟩ := hargs.slice
  have PW := rplace_walk C
  unfold planE at PW
  rw [if_pos hC] at PW
  unfold planV cfgV at PW
  unfold DNewP at MW
  unfold cfgV at MW ⊢
  simp only [ptr, List.length_map] at MW ⊢
  clear hC hcode hargs hlen h8
  rcases h with h | h
  · go_enter Tryz.func60, Tryz.ntmps60
    go_wp2_with (first
      | (go_at_call 70; refine (PW _).mono ?_; rintro e w1 ⟨rfl, b1⟩; have q1 : Chg [] _ w1 := Chg.of_below b1; obtain ⟨z1, z2⟩ := two_kept q1; have hc1 := fun o => cell_of_row w1 _ o _ _ _ z1; have hc2 := fun o => cell_of_row w1 _ o _ _ _ z2; have L1 := lt_of_heap z1; have L2 := lt_of_heap z2; have Q1 := Lib.hid (two_chg q1); clear b1 z1 z2 q1)
      | (go_at_call 104; refine (MW _ (Q1.out.alloc _)).mono ?_; rintro e w2 ⟨M, ro2, p2, rfl, m2, b2⟩; have Q2 := Lib.hid ((Q1.out.alloc _).trans b2.chg); clear b2))
    go_ret
    exact ⟨rfl, Q2.out⟩
  · have h0 : ¬ th < 0 ∨ th < 0 := by omega
    rcases h0 with h0 | h0
    · go_enter Tryz.func60, Tryz.ntmps60
      go_wp2_with (first
        | (go_at_call 70; refine (PW _).mono ?_; rintro e w1 ⟨rfl, b1⟩; have q1 : Chg [] _ w1 := Chg.of_below b1; obtain ⟨z1, z2⟩ := two_kept q1; have hc1 := fun o => cell_of_row w1 _ o _ _ _ z1; have hc2 := fun o => cell_of_row w1 _ o _ _ _ z2; have Z1 := Lib.hid z1; have L1 := lt_of_heap z1; have L2 := lt_of_heap z2; have Q1 := Lib.hid (two_chg q1); clear b1 z1 z2 q1)
        | (go_at_call 104; refine (MW _ (Q1.out.alloc _)).mono ?_; rintro e w2 ⟨M, ro2, p2, rfl, m2, b2⟩; have Q2 := Lib.hid ((Q1.out.alloc _).trans b2.chg); have hd1 := fun o => cell_of_row w2 _ o _ _ _ (((((Chg.refl _ _).alloc _).trans b2.chg).block _ L1 (by simp)).trans Z1.out); clear b2))
      go_ret
      exact ⟨rfl, Q2.out⟩
    · go_enter Tryz.func60, Tryz.ntmps60
      go_wp2_with (first
        | (go_at_call 70; refine (PW _).mono ?_; rintro e w1 ⟨rfl, b1⟩; have q1 : Chg [] _ w1 := Chg.of_below b1; obtain ⟨z1, z2⟩ := two_kept q1; have hc1 := fun o => cell_of_row w1 _ o _ _ _ z1; have hc2 := fun o => cell_of_row w1 _ o _ _ _ z2; have L1 := lt_of_heap z1; have L2 := lt_of_heap z2; have Q1 := Lib.hid (two_chg q1); clear b1 z1 z2 q1)
        | (go_at_call 104; refine (MW _ (Q1.out.alloc _)).mono ?_; rintro e w2 ⟨M, ro2, p2, rfl, m2, b2⟩; have Q2 := Lib.hid ((Q1.out.alloc _).trans b2.chg); clear b2))
      go_ret
      exact ⟨rfl, Q2.out⟩

/-- What a reader of the document's holds, beside its machine. -/
structure Dr where
  part : Int
  sub : Int
  claim : Nat
  stamp : Nat
  cell : Int
  ver : Nat
  now : Nat
  steps : Int
def drcells (C : Cfg) (th tag : Int) (d : Dr) (M : Nat) (va : Value) : Array Value := #[.int .i64 0, .int .i64 1, .int .i64 2, .int .i64 3, .int .i64 (3 + C.threads), .int .i64 (3 + C.threads + 3 * C.cells), ptr M, .int .i64 th, .int .i64 tag, va, .int .i64 d.part, .int .i64 d.sub, .int .u64 d.claim, .int .u64 d.stamp, .int .i64 d.cell, .int .u64 d.ver, .int .u64 d.now, .int .i64 d.steps]
structure DRIs (ro : Nat → Nat) (r : Nat) (w : World) (B : Nat) (C : Cfg) (th tag : Int) (vc : Value) (args : List Nat) (d : Dr) (m : Dm) (M : Nat) (va : Value) (p : Dq) : Prop where
  blk : Blk ro (r + 8) w B (drcells C th tag d M va) 42
  mach : DMIs ro r w M C tag vc m p
  args : OwnL cF ro (r + 9) w 74 1 va (args.map fx)
theorem DRIs.keep {ro ro' : Nat → Nat} {r : Nat} {w w' : World} {B C th tag vc args d m M va p R} (h : DRIs ro r w B C th tag vc args d m M va p) (mv : Mv ro R w ro' w') (hR : ∀ x ∈ R, x < r ∨ r + 9 < x) : DRIs ro' r w' B C th tag vc args d m M va p := by
  have k : ∀ i, i ≤ 9 → r + i ∉ R := fun i hi hx => by have := hR _ hx; omega
  exact ⟨h.blk.keep mv (k 8 (by omega)), h.mach.keep mv fun x hx => by have := hR x hx; omega, h.args.keep mv (k 9 (by omega))⟩
def drNew : Dr := ⟨1, 0, 0, 0, -1, 0, 0, 0⟩
def DRNewP (ro : Nat → Nat) (r : Nat) (w : World) (C : Cfg) (th tag : Int) (vc : Value) (code : List Ins) (args : List Nat) (e : Ending) (w' : World) : Prop :=
  ∃ B ro' M va p, e = .returned (ptr B) ∧ DRIs ro' r w' B C th tag vc args drNew (Ms.new (badS tag code) args).dm M va p ∧ Mv ro [] w ro' w'

set_option maxRecDepth 100000 in
set_option maxHeartbeats 8000000 in
theorem dnew_walk (ro : Nat → Nat) (r : Nat) (C : Cfg) (th tag : Int) (vc va : Value) (code : List Ins) (args : List Nat) (w : World) (hfr : ∀ k, k < w.heap.size → ro k ≠ r + 1 ∧ ro k ≠ r + 9) (hC : C.ok) (h8 : args.length ≤ 8) (h0 : 0 ≤ th) (h1 : th < C.threads) (hcode : RdC w vc code) (hargs : Rd w 1 va (args.map cF)) :
    Calls Tryz.prog 60 #[cfgV C, .int .i64 th, .agg #[.int .i64 tag, vc], va] w (DRNewP ro r w C th tag vc code args) := by
  have MW := fun W (q : Chg [] w W) => dmnew_walk (newRo ro w.heap.size (r + 10)) r C tag vc va code args W (fun k _ => by unfold newRo; split; exact (hfr k (by assumption)).1; omega) hC h8 (hcode.keep0 q) (hargs.keep0 q)
  obtain ⟨va1, va2, rfl⟩ := hargs.slice
  have PW := rplace_walk C
  unfold planE at PW
  rw [if_pos hC] at PW
  unfold planV cfgV at PW
  unfold DNewP at MW
  unfold cfgV at MW ⊢
  simp only [ptr, List.length_map] at MW hargs ⊢
  have e0 : ¬ th < 0 := by omega
  have e1 : ¬ C.threads ≤ th := by omega
  have HA := Lib.hid hargs
  have hfr9 : ∀ x ∈ [r + 9], ∀ k, k < w.heap.size → ro k ≠ x := by intro x hx k hk; simp at hx; subst hx; exact (hfr k hk).2
  clear hC hcode hargs hfr
  go_enter Tryz.func60, Tryz.ntmps60
  go_wp2_with (first
    | (go_at_call 70; refine (PW _).mono ?_; rintro e w1 ⟨rfl, b1⟩; have q1 : Chg [] _ w1 := Chg.of_below b1; obtain ⟨z1, z2⟩ := two_kept q1; have hc1 := fun o => cell_of_row w1 _ o _ _ _ z1; have hc2 := fun o => cell_of_row w1 _ o _ _ _ z2; have Z1 := Lib.hid z1; have Z2 := Lib.hid z2; have L1 := lt_of_heap z1; have L2 := lt_of_heap z2; have Q1 := Lib.hid (two_chg q1); have M1 := Lib.hid (((Mv.refl ro [] w).alloc _).alloc _ |>.then_below b1); clear b1 z1 z2 q1)
    | (go_at_call 104; refine (MW _ (Q1.out.alloc _)).mono ?_; rintro e w2 ⟨M, ro2, p2, rfl, m2, b2⟩; have q2 : Chg [] w1 w2 := ((Chg.refl [] w1).alloc _).trans b2.chg; have hd1 := fun o => cell_of_row w2 _ o _ _ _ ((q2.block _ L1 (by simp)).trans Z1.out); have hd2 := fun o => cell_of_row w2 _ o _ _ _ ((q2.block _ L2 (by simp)).trans Z2.out); have hd3 := fun o => cell_of_row w2 _ o _ _ _ ((b2.chg.block w1.heap.size (by simp) (by simp)).trans (heap_alloc_new _ _)); have M2 := Lib.hid (((M1.out.alloc _).news (r := r + 10)).trans b2); have G2 := Lib.hid m2; clear b2 m2 q2))
  have m2 := M2.out
  have g2 := G2.out
  have m8 : Mv ro2 [] w2 (setRo ro2 w2.heap.size (r + 8)) (w2.alloc (.cells (drcells C th tag drNew M (.slice none 0 0)) 42)) := ((Mv.refl _ _ _).alloc _).give (Nat.le_refl _)
  have H8 : DRIs (setRo ro2 w2.heap.size (r + 8)) r (w2.alloc (.cells (drcells C th tag drNew M (.slice none 0 0)) 42)) w2.heap.size C th tag vc (args.take 0) drNew (Ms.new (badS tag code) args).dm M (.slice none 0 0) p2 :=
    ⟨⟨heap_alloc_new _ _, setRo_at _ _ _⟩, g2.keep m8 (by simp), OwnL.nil _ _ _ _ _ _⟩
  have M8 := m2.trans m8
  have hMR : w.heap.size ≤ w2.heap.size := m2.size
  have eL : drcells C th tag drNew M (.slice none 0 0) = #[.int .i64 0, .int .i64 1, .int .i64 2, .int .i64 3, .int .i64 (3 + C.threads), .int .i64 (3 + C.threads + 3 * C.cells), .pointer (some ⟨M, 0, none⟩), .int .i64 th, .int .i64 tag, .slice none 0 0, .int .i64 1, .int .i64 0, .int .u64 0, .int .u64 0, .int .i64 (-1), .int .u64 0, .int .u64 0, .int .i64 0] := rfl
  rw [eL] at H8 M8
  generalize setRo ro2 w2.heap.size (r + 8) = ro8 at *
  generalize hS : (Ms.new (badS tag code) args).dm = s0 at *
  have HS := Lib.hid hS
  generalize hW8 : w2.alloc (.cells #[.int .i64 0, .int .i64 1, .int .i64 2, .int .i64 3, .int .i64 (3 + C.threads), .int .i64 (3 + C.threads + 3 * C.cells), .pointer (some ⟨M, 0, none⟩), .int .i64 th, .int .i64 tag, .slice none 0 0, .int .i64 1, .int .i64 0, .int .u64 0, .int .u64 0, .int .i64 (-1), .int .u64 0, .int .u64 0, .int .i64 0] 42) = W8 at *
  clear hW8 m8 eL m2 g2 hS MW PW hc1 hc2 hd1 hd2 hd3 Z1 Z2 M1 Q1
  have G8 := Lib.hid H8
  have GM8 := Lib.hid M8
  clear H8 M8
  go_loopw [49] (fun i wr => ∃ (k : Nat) (ro' : Nat → Nat) (va' : Value), i = .int .i64 k ∧ k ≤ args.length ∧ DRIs ro' r wr w2.heap.size C th tag vc (args.take k) drNew s0 M va' p2 ∧ Mv ro [] w ro' wr) (fun i _ => args.length - (intOf i).toNat)
  case atStart => exact ⟨0, ro8, _, rfl, Nat.zero_le _, G8.out, GM8.out⟩
  case round =>
    obtain ⟨k, ro', va', rfl, hk, hms, hmv⟩ := hrel
    by_cases hlt : k < args.length
    · have hlt' : (k : Int) < args.length := by omega
      obtain ⟨b, off, c', e3, hb, hcell⟩ := Rd.blk (HA.out.keep0 hmv.chg) (by simp; omega)
      simp only [Value.slice.injEq, List.length_map] at e3
      obtain ⟨rfl, -, rfl⟩ := e3
      have c0 := hcell k 0 (by simpa using hlt) (by decide)
      simp only [List.getD, List.getElem?_map, List.getElem?_eq_getElem hlt, Option.map_some, Option.getD_some, cF, List.getElem?_cons_zero, Nat.mul_one, Nat.add_zero] at c0
      have hc1 := hms.blk.cell
      obtain ⟨p, cp, hva⟩ := hms.args.form
      rw [List.length_map, List.length_take, Nat.min_eq_left hk] at hva
      subst hva
      unfold drcells drNew at hc1
      simp only [ptr] at hc1
      have hX := hms.blk.lt
      obtain ⟨i0, hi0, hz0, hs0, hby0⟩ := info_three infoF
      have I0 := Lib.hid hi0
      have FW := rfix_walk args[k]
      have eT : (args.take k).map fx ++ [fx args[k]] = (args.take (k + 1)).map fx := by rw [List.take_add_one, List.getElem?_eq_getElem hlt, List.map_append]; rfl
      have eL2 : ((args.take k).map fx).length = k := by simp; omega
      generalize fx args[k] = y at *
      have HMS := Lib.hid hms
      have HMV := Lib.hid hmv
      have sf := run_store_float
      clear hms hmv hcell hi0
      go_wp2
      refine wp_region_noPanic ?_
      go_region_law (first
        | (go_simp; go_at_call 105; refine (FW _).mono ?_; rintro e w9 ⟨rfl, rfl⟩)
        | (go_loud (refine step_append_lies _ rfl (.tmp 57) (.tmp 60) 27 rfl 0 74 i0 _ 1 8 under74 I0.out hz0 hs0 hby0 rfl (by decide) (.slice p k cp) k (((args.take k).map fx).flatMap cF) rfl (by have := (HMS.out.args.keep (((Mv.refl ro' [] wr).alloc (.cells #[.float .f64 y] 74)).drew) (by simp)).own; simpa only [eL2] using this) _ 1 1 [.float .f64 y] rfl rfl (World.news_of_block (heap_alloc_new _ _)) (by simp [Value.oneCell']) (by decide) (by unfold maxLen; omega) (by omega) (Nat.zero_le _) _ rfl ?_)
           intro g cap w6 g2 g3 g4 g5
           go_loud (obtain ⟨o6, m6⟩ := grown_own (news := [y]) HMS.out.args ((Mv.refl ro' [] wr).alloc _).drew (by simp) (by simpa [cF] using g2) (by rw [eT]; simp; omega) g3 g4 rfl)
           have k6 := HMS.out.blk.keep m6 (by simp)
           have hc6 := k6.cell
           have hf6 := k6.free
           unfold drcells drNew at hc6
           simp only [ptr] at hc6
           clear g2 g3 g4 g5))
      all_goals
        refine NoPanic.normal ?_
        go_wp2
        go_roundw
        case rel =>
          have ms : Mv (setRo ro' (wr.alloc (.cells #[.float .f64 y] 74)).drew.heap.size (r + 9)) [r + 8] w6 _ (w6.setCell ⟨w2.heap.size, 9, none⟩ (.slice (some ⟨g, 0, none⟩) (k + 1) cap)) := (Mv.refl _ _ _).setCell (by rw [k6.role]; simp) _
          have ma : Mv ro' [r + 9, r + 8] wr _ _ := (m6.mono (by simp)).trans (ms.mono (by simp))
          refine ⟨k + 1, _, .slice (some ⟨g, 0, none⟩) (k + 1) cap, by go_num, by omega, ⟨k6.put rfl, HMS.out.mach.keep ma (by simp), by rw [← eT]; exact o6.keep ms (by simp)⟩, ((((HMV.out.mono (R' := [r + 9]) (by simp)).trans m6).setNew hMR _).fresh hfr9)⟩
        case measure => simp [intOf]; omega
    · obtain rfl : k = args.length := by omega
      rw [List.take_length] at hms
      have HMS := Lib.hid hms
      have HMV := Lib.hid hmv
      clear hms hmv
      go_wp2
      go_ret
      exact ⟨w2.heap.size, ro', M, _, p2, rfl, by rw [HS.out]; exact HMS.out, HMV.out⟩
end Go.Proofs.YtphaeodcomgffaaGreat
set_option linter.unusedVariables false
set_option linter.unusedSimpArgs false
namespace Go.Proofs.YtphaeodcomgffaaGreat
open Go.RowKit

/-- ro' gives each block that has a role from n on that very role. -/
def Re (n : Nat) (ro ro' : Nat → Nat) : Prop := ∀ k, n ≤ ro k → ro' k = ro k
/-- Old blocks by ro, new ones by ro3. -/
def mrg (ro ro3 : Nat → Nat) (sz : Nat) : Nat → Nat := fun k => if k < sz then ro k else ro3 k
theorem mrg_re {ro3 : Nat → Nat} {R : List Nat} {w w' : World} (m : Mv (fun _ => 0) R w ro3 w') (ro : Nat → Nat) : Re 1 ro3 (mrg ro ro3 w.heap.size) := fun k hk => by
  unfold mrg
  by_cases h : k < w.heap.size
  · have := m.ext k h; omega
  · rw [if_neg h]
theorem mrg_mv {ro3 : Nat → Nat} {w w' : World} (m : Mv (fun _ => 0) [] w ro3 w') (ro : Nat → Nat) : Mv ro [] w (mrg ro ro3 w.heap.size) w' :=
  ⟨fun k hk => by unfold mrg; rw [if_pos hk], m.os, m.tape, m.output, m.size, fun k hk _ => m.block k hk (by simp)⟩
theorem Blk.re {ro ro' : Nat → Nat} {n r : Nat} {w : World} {b cs t} (h : Blk ro r w b cs t) (e : Re n ro ro') (hr : n ≤ r) : Blk ro' r w b cs t := ⟨h.heap, (e b (by rw [h.role]; exact hr)).trans h.role⟩
theorem OwnL.re {α : Type} {f : α → List Value} {ro ro' : Nat → Nat} {n r : Nat} {w : World} {E size v} {l : List α} (h : OwnL f ro r w E size v l) (e : Re n ro ro') (hr : n ≤ r) : OwnL f ro' r w E size v l :=
  ⟨h.own, fun k hk => (e k (by rw [h.role k hk]; exact hr)).trans (h.role k hk)⟩
theorem MapB.re {ro ro' : Nat → Nat} {n r : Nat} {w : World} {b l} (h : MapB ro r w b l) (e : Re n ro ro') (hr : n ≤ r) : MapB ro' r w b l := ⟨h.heap, (e b (by rw [h.role]; exact hr)).trans h.role⟩
theorem BufR.re {ro ro' : Nat → Nat} {n r : Nat} {w : World} {B D v l most} (h : BufR ro r w B D v l most) (e : Re n ro ro') (hr : n ≤ r) : BufR ro' r w B D v l most := ⟨h.blk.re e hr, h.map.re e (by omega), h.own.re e (by omega)⟩
theorem MIs.re {ro ro' : Nat → Nat} {n r : Nat} {w : World} {M C tag code m p} (h : MIs ro r w M C tag code m p) (e : Re n ro ro') (hr : n ≤ r) : MIs ro' r w M C tag code m p :=
  ⟨h.blk.re e hr, ⟨h.num.blk.re e (by omega), h.num.own.re e (by omega)⟩, ⟨h.cal.blk.re e (by omega), h.cal.own.re e (by omega)⟩, h.buf.re e (by omega), h.out.re e (by omega), h.rds.re e (by omega), h.code.re e (by omega), h.nd, h.wait⟩
theorem RIs.re {ro ro' : Nat → Nat} {n r : Nat} {w : World} {X C th tag code args s q} (h : RIs ro r w X C th tag code args s q) (e : Re n ro ro') (hr : n ≤ r) : RIs ro' r w X C th tag code args s q :=
  ⟨h.blk.re e (by omega), h.mach.re e hr, h.come.re e (by omega), fun g hg => (h.read g hg).re e (by omega), h.args.re e (by omega)⟩
theorem DMIs.re {ro ro' : Nat → Nat} {n r : Nat} {w : World} {M C tag vc d p} (h : DMIs ro r w M C tag vc d p) (e : Re n ro ro') (hr : n ≤ r) : DMIs ro' r w M C tag vc d p :=
  ⟨h.blk.re e hr, h.args.re e (by omega), h.stack.re e (by omega), h.calls.re e (by omega), h.locals.re e (by omega), h.out.re e (by omega), h.reads.re e (by omega), h.writes.re e (by omega)⟩
theorem DRIs.re {ro ro' : Nat → Nat} {n r : Nat} {w : World} {B C th tag vc args d m M va p} (h : DRIs ro r w B C th tag vc args d m M va p) (e : Re n ro ro') (hr : n ≤ r) : DRIs ro' r w B C th tag vc args d m M va p :=
  ⟨h.blk.re e (by omega), h.mach.re e hr, h.args.re e (by omega)⟩
theorem MemIs.re {ro ro' : Nat → Nat} {n r : Nat} {w : World} {B v words op cnt} (h : MemIs ro r w B v words op cnt) (e : Re n ro ro') (hr : n ≤ r) : MemIs ro' r w B v words op cnt := ⟨h.blk.re e hr, h.own.re e (by omega)⟩
theorem WrdIs.re {ro ro' : Nat → Nat} {n r : Nat} {w : World} {B v words k} (h : WrdIs ro r w B v words k) (e : Re n ro ro') (hr : n ≤ r) : WrdIs ro' r w B v words k := ⟨h.blk.re e hr, h.own.re e (by omega)⟩

/-- reader.New, where one may be made; whatever roles the old blocks have. -/
theorem rnew_any (ro : Nat → Nat) (r : Nat) (hr : 1 ≤ r) (C : Cfg) (th tag : Int) (vc va : Value) (code : List Ins) (args : List Nat) (w : World) (hC : C.ok) (h8 : args.length ≤ 8) (h0 : 0 ≤ th) (h1 : th < C.threads) (hcode : RdC w vc code) (hargs : Rd w 1 va (args.map cF)) (hlen : code.length * 24 ≤ 140737488355328) :
    Calls Tryz.prog 59 #[cfgV C, .int .i64 th, .agg #[.int .i64 tag, vc], va] w (RNewP ro r w C th tag code args) := by
  refine (rnew_walk (fun _ => 0) r C th tag vc va code args w (fun k _ => by omega) hC h8 h0 h1 hcode hargs hlen).mono ?_
  rintro e w' ⟨X, ro3, q, rfl, h, m⟩
  exact ⟨X, _, q, rfl, h.re (mrg_re m ro) hr, mrg_mv m ro⟩
theorem dnew_any (ro : Nat → Nat) (r : Nat) (hr : 1 ≤ r) (C : Cfg) (th tag : Int) (vc va : Value) (code : List Ins) (args : List Nat) (w : World) (hC : C.ok) (h8 : args.length ≤ 8) (h0 : 0 ≤ th) (h1 : th < C.threads) (hcode : RdC w vc code) (hargs : Rd w 1 va (args.map cF)) :
    Calls Tryz.prog 60 #[cfgV C, .int .i64 th, .agg #[.int .i64 tag, vc], va] w (DRNewP ro r w C th tag vc code args) := by
  refine (dnew_walk (fun _ => 0) r C th tag vc va code args w (fun k _ => by omega) hC h8 h0 h1 hcode hargs).mono ?_
  rintro e w' ⟨B, ro3, M, va', p, rfl, h, m⟩
  exact ⟨B, _, M, va', p, rfl, h.re (mrg_re m ro) hr, mrg_mv m ro⟩
theorem laid_any (ro : Nat → Nat) (rm rw : Nat) (h1 : 1 ≤ rm) (h2 : 1 ≤ rw) (C : Cfg) (vw : Value) (ws : List Nat) (w : World) (hC : C.ok) (hr : rm + 1 < rw ∨ rw + 1 < rm) (hws : Rd w 1 vw (ws.map cU)) (hwx : ∀ x ∈ ws, x < 18446744073709551616) (hlen : ws.length ≤ 9223372036854775807) :
    Calls Tryz.prog 23 #[cfgV C, vw] w (LaidP ro rm rw w C) := by
  refine (laid_walk (fun _ => 0) rm rw C vw ws w (fun k _ => by simp) hC hr hws hwx hlen).mono ?_
  rintro e w' ⟨MB, WB, v, v2, ro3, words, rfl, a1, a2, hm, hw, m⟩
  exact ⟨MB, WB, v, v2, _, words, rfl, a1, a2, hm.re (mrg_re m ro) h1, hw.re (mrg_re m ro) h2, mrg_mv m ro⟩
end Go.Proofs.YtphaeodcomgffaaGreat
