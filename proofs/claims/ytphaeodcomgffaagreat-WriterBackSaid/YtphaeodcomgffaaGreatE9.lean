import Derived.Test.YtphaeodcomgffaaGreatC0
import Derived.Test.YtphaeodcomgffaaGreatE2
import Derived.Test.YtphaeodcomgffaaGreatMO
import Derived.Test.YtphaeodcomgffaaGreatK11
import Derived.Deep.RegionHeldLaw
import Derived.Test.YtphaeodcomgffaaGreatE4
import Derived.Deep.RegionLaw
set_option linter.unusedVariables false
set_option linter.unusedSimpArgs false
namespace Go.Proofs.YtphaeodcomgffaaGreat
open Go.RowKit

def cfgV (C : Cfg) : Value := .agg #[.int .i64 C.cells, .int .i64 C.threads, .int .i64 C.fuel, .int .i64 C.writes]
def noPlan : Value := .agg #[.int .i64 0, .int .i64 0, .int .i64 0, .int .i64 0, .int .i64 0, .int .i64 0]
theorem bad_cases {C : Cfg} (h : ¬ C.ok) :
    C.cells < 1 ∨ (256 < C.cells ∧ 1 ≤ C.cells) ∨ (C.threads < 1 ∧ 1 ≤ C.cells ∧ C.cells ≤ 256) ∨ (8 < C.threads ∧ 1 ≤ C.cells ∧ C.cells ≤ 256 ∧ 1 ≤ C.threads) ∨ (C.fuel < 1 ∧ 1 ≤ C.cells ∧ C.cells ≤ 256 ∧ 1 ≤ C.threads ∧ C.threads ≤ 8) ∨ (1024 < C.fuel ∧ 1 ≤ C.cells ∧ C.cells ≤ 256 ∧ 1 ≤ C.threads ∧ C.threads ≤ 8 ∧ 1 ≤ C.fuel) ∨
    (C.writes < 1 ∧ 1 ≤ C.cells ∧ C.cells ≤ 256 ∧ 1 ≤ C.threads ∧ C.threads ≤ 8 ∧ 1 ≤ C.fuel ∧ C.fuel ≤ 1024) ∨ (32 < C.writes ∧ 1 ≤ C.cells ∧ C.cells ≤ 256 ∧ 1 ≤ C.threads ∧ C.threads ≤ 8 ∧ 1 ≤ C.fuel ∧ C.fuel ≤ 1024 ∧ 1 ≤ C.writes) := by unfold Cfg.ok at h; omega
def planE (C : Cfg) : Value := if C.ok then .tuple #[planV C, .int .i64 0] else .tuple #[noPlan, .int .i64 1]
set_option maxRecDepth 100000 in
set_option maxHeartbeats 1000000 in
theorem mplace_walk (C : Cfg) (w : World) : Calls Tryz.prog 102 #[cfgV C] w fun e w' => e = .returned (planE C) ∧ Below w.heap.size w w' := by
  unfold planE planV noPlan cfgV
  by_cases h : C.ok
  · rw [if_pos h]
    obtain ⟨h1, h2, h3, h4, h5, h6, h7, h8⟩ := h
    go_enter Tryz.func102, Tryz.ntmps102
    go_wp2
    refine bodyPost_ret (v := .tuple #[.agg #[.int .i64 0, .int .i64 1, .int .i64 2, .int .i64 3, .int .i64 (3 + C.threads), .int .i64 (3 + C.threads + 3 * C.cells)], .int .i64 0]) (by simp [results, Tryz.results102, go_sem]) rfl ⟨rfl, below_of_chg ?_⟩
    exact (((Chg.refl _ _).alloc _).alloc _).alloc _
  · rw [if_neg h]
    rcases bad_cases h with h | ⟨h, _⟩ | ⟨h, _, _⟩ | ⟨h, _, _, _⟩ | ⟨h, _, _, _, _⟩ | ⟨h, _, _, _, _, _⟩ | ⟨h, _, _, _, _, _, _⟩ | ⟨h, _, _, _, _, _, _, _⟩
    all_goals
      go_enter Tryz.func102, Tryz.ntmps102
      go_wp2
      refine bodyPost_ret (v := .tuple #[.agg #[.int .i64 0, .int .i64 0, .int .i64 0, .int .i64 0, .int .i64 0, .int .i64 0], .int .i64 1]) (by simp [results, Tryz.results102, go_sem]) rfl ⟨rfl, below_of_chg ?_⟩
      exact ((Chg.refl _ _).alloc _).alloc _
set_option maxRecDepth 100000 in
set_option maxHeartbeats 1000000 in
theorem rmaybe_walk (C : Cfg) (w : World) : Calls Tryz.prog 111 #[cfgV C] w fun e w' => e = .returned (.bool (decide C.ok)) ∧ Chg [] w w' := by
  unfold cfgV
  by_cases h : C.ok
  · rw [show decide C.ok = true from decide_eq_true h]
    obtain ⟨h1, h2, h3, h4, h5, h6, h7, h8⟩ := h
    go_enter Tryz.func111, Tryz.ntmps111
    go_wp2
    go_ret
    exact ⟨rfl, (Chg.refl _ _).alloc _⟩
  · rw [show decide C.ok = false from decide_eq_false h]
    rcases bad_cases h with h' | ⟨h', _⟩ | ⟨h', _, _⟩ | ⟨h', _, _, _⟩ | ⟨h', _, _, _, _⟩ | ⟨h', _, _, _, _, _⟩ | ⟨h', _, _, _, _, _, _⟩ | ⟨h', _, _, _, _, _, _, _⟩
    all_goals
      clear h
      go_enter Tryz.func111, Tryz.ntmps111
      go_wp2
      go_ret
      refine ⟨?_, (Chg.refl _ _).alloc _⟩
      first | rfl | (simp; omega)
theorem two_kept {w w1 : World} {cs ds : Array Value} {t u : TypeId} (b : Chg [] ((w.alloc (.cells cs t)).alloc (.cells ds u)) w1) : w1.heap[w.heap.size]? = some (.cells cs t (0, 0)) ∧ w1.heap[w.heap.size + 1]? = some (.cells ds u (0, 0)) := by
  constructor
  · rw [b.block _ (by simp; omega) (by simp), Below.heap_alloc _ _ _ (by simp)]
    exact heap_alloc_new _ _
  · rw [b.block _ (by simp) (by simp)]
    exact alloc2_heap _ _ _ _
set_option maxRecDepth 100000 in
set_option maxHeartbeats 1000000 in
theorem rplace_walk (C : Cfg) (w : World) : Calls Tryz.prog 70 #[cfgV C] w fun e w' => e = .returned (planE C) ∧ Below w.heap.size w w' := by
  have MW := fun W => rmaybe_walk C W
  unfold planE planV noPlan
  by_cases h : C.ok
  · rw [show decide C.ok = true from decide_eq_true h] at MW
    rw [if_pos h]
    obtain ⟨h1, h2, h3, h4, h5, h6, h7, h8⟩ := h
    unfold cfgV at MW ⊢
    go_enter Tryz.func70, Tryz.ntmps70
    go_wp2_with (go_at_call 111; refine (MW _).mono ?_; rintro e w1 ⟨rfl, b1⟩; obtain ⟨z1, z2⟩ := two_kept b1; have hc1 := fun o => cell_of_row w1 _ o _ _ _ z1; have hc2 := fun o => cell_of_row w1 _ o _ _ _ z2; have hf2 := fun o => frozen_of_row w1 _ o _ _ z2; have Z2 := Lib.hid z2; have B1 := Lib.hid b1; clear z1 z2 b1)
    refine bodyPost_ret (v := .tuple #[.agg #[.int .i64 0, .int .i64 1, .int .i64 2, .int .i64 3, .int .i64 (3 + C.threads), .int .i64 (3 + C.threads + 3 * C.cells)], .int .i64 0]) (by simp [results, Tryz.results70, go_sem, hc2, hf2]) rfl ⟨rfl, below_of_chg ?_⟩
    repeat with_reducible refine Chg.setCell ?_ (.inr (Nat.le_succ _)) _
    exact (((Chg.refl _ _).alloc _).alloc _).trans B1.out
  · rw [show decide C.ok = false from decide_eq_false h] at MW
    rw [if_neg h]
    clear h
    unfold cfgV at MW ⊢
    go_enter Tryz.func70, Tryz.ntmps70
    go_wp2_with (go_at_call 111; refine (MW _).mono ?_; rintro e w1 ⟨rfl, b1⟩; obtain ⟨z1, z2⟩ := two_kept b1; have hc1 := fun o => cell_of_row w1 _ o _ _ _ z1; have hc2 := fun o => cell_of_row w1 _ o _ _ _ z2; have hf2 := fun o => frozen_of_row w1 _ o _ _ z2; have Z2 := Lib.hid z2; have B1 := Lib.hid b1; clear z1 z2 b1)
    refine bodyPost_ret (v := .tuple #[.agg #[.int .i64 0, .int .i64 0, .int .i64 0, .int .i64 0, .int .i64 0, .int .i64 0], .int .i64 1]) (by simp [results, Tryz.results70, go_sem, hc2, hf2]) rfl ⟨rfl, below_of_chg ?_⟩
    repeat with_reducible refine Chg.setCell ?_ (.inr (Nat.le_succ _)) _
    exact (((Chg.refl _ _).alloc _).alloc _).trans B1.out
end Go.Proofs.YtphaeodcomgffaaGreat
set_option linter.unusedVariables false
set_option linter.unusedSimpArgs false
namespace Go.Proofs.YtphaeodcomgffaaGreat
open Go.RowKit

/-- A new machine, the first k of its arguments laid. -/
def newMs (bad : Bool) (args : List Nat) (k : Nat) : Ms := ⟨bad, fun i => if i < k then fx (args.getD i 0) else 0, fun _ => 0, [], [], 0, 0, none, 0, 0, 0, [], [], []⟩
theorem mcells_setarg (C : Cfg) (tag : Int) (m : Ms) (p : Mp) (a : Nat) : ∀ j < 8, (mcells C tag m p).setIfInBounds (7 + j) (.float .f64 a) = mcells C tag { m with args := fun k => if k = j then a else m.args k } p
  | 0, _ | 1, _ | 2, _ | 3, _ | 4, _ | 5, _ | 6, _ | 7, _ => rfl
theorem newMs_succ (bad : Bool) (args : List Nat) (k : Nat) : { newMs bad args k with args := fun i => if i = k then fx (args.getD k 0) else (newMs bad args k).args i } = newMs bad args (k + 1) := by
  simp only [newMs, Ms.mk.injEq, and_true, true_and]
  funext i
  by_cases h : i = k
  · subst h; simp
  · rw [if_neg h]
    by_cases h2 : i < k
    · rw [if_pos h2, if_pos (by omega)]
    · rw [if_neg h2, if_neg (by omega)]
def badS (tag : Int) (code : List Ins) : Bool := checkS tag code != 0
/-- What machine.New leaves. -/
def NewP (ro : Nat → Nat) (r : Nat) (w : World) (C : Cfg) (tag : Int) (code : List Ins) (args : List Nat) (e : Ending) (w' : World) : Prop :=
  ∃ M ro' p', e = .returned (ptr M) ∧ MIs ro' r w' M C tag code (newMs (badS tag code) args args.length) p' ∧ Mv ro [] w ro' w'
set_option maxRecDepth 100000 in
set_option maxHeartbeats 1000000 in
theorem mnew_none (C : Cfg) (tag : Int) (vc va : Value) (a : Option Addr) (n c : Nat) (hva : va = .slice a n c) (w : World) (h : ¬ C.ok ∨ 8 < n) : Calls Tryz.prog 94 #[cfgV C, .agg #[.int .i64 tag, vc], va] w fun e w' => e = .returned (.pointer none) ∧ Below w.heap.size w w' := by
  subst hva
  have PW := mplace_walk C
  unfold planE at PW
  by_cases hC : C.ok
  · have h8 : (8 : Int) < n := by rcases h with h | h; exact absurd hC h; omega
    rw [if_pos hC] at PW
    unfold planV cfgV at PW
    unfold cfgV
    clear h hC
    go_enter Tryz.func94, Tryz.ntmps94
    go_wp2_with (go_at_call 102; refine (PW _).mono ?_; rintro e w1 ⟨rfl, b1⟩; have B1 := Lib.hid b1; clear b1)
    go_ret
    exact ⟨rfl, below_of_chg (((((Chg.refl _ _).alloc _).alloc _).trans (Chg.of_below B1.out)).alloc _)⟩
  · rw [if_neg hC] at PW
    unfold noPlan cfgV at PW
    unfold cfgV
    clear h hC
    go_enter Tryz.func94, Tryz.ntmps94
    go_wp2_with (go_at_call 102; refine (PW _).mono ?_; rintro e w1 ⟨rfl, b1⟩; have B1 := Lib.hid b1; clear b1)
    go_ret
    exact ⟨rfl, below_of_chg (((((Chg.refl _ _).alloc _).alloc _).trans (Chg.of_below B1.out)).alloc _)⟩

set_option maxRecDepth 100000 in
set_option maxHeartbeats 8000000 in
theorem mnew_walk (ro : Nat → Nat) (r : Nat) (C : Cfg) (tag : Int) (vc va : Value) (code : List Ins) (args : List Nat) (w : World) (hC : C.ok) (h8 : args.length ≤ 8) (hcode : RdC w vc code) (hargs : Rd w 1 va (args.map cF)) (hlen : code.length * 24 ≤ 140737488355328) :
    Calls Tryz.prog 94 #[cfgV C, .agg #[.int .i64 tag, vc], va] w (NewP ro r w C tag code args) := by
  obtain ⟨va1, va2, rfl⟩ := hargs.slice
  obtain ⟨vc1, vc2, rfl⟩ := hcode.slice
  have PW := mplace_walk C
  unfold planE at PW
  rw [if_pos hC] at PW
  obtain ⟨C1, C2, C3, C4, C5, C6, C7, C8⟩ := hC
  have BW := fun ro' W => bnew_walk ro' (r + 5) W C.writes C7 C8
  have NF := fun ro' W => fnew_walk ro' (r + 1) (r + 2) W 64 (by omega) (by omega) (by omega)
  have NI := fun ro' W => inew_walk ro' (r + 3) (r + 4) W 16 (by omega) (by omega) (by omega)
  rw [List.length_map] at hargs ⊢
  have h8' : ¬ (8 : Int) < args.length := by omega
  have HA := Lib.hid hargs
  have HC := Lib.hid hcode
  unfold planV cfgV at PW
  unfold BMade at BW
  unfold Made at NF NI
  simp only [ptr] at BW NF NI
  unfold cfgV
  clear hargs hcode
  go_enter Tryz.func94, Tryz.ntmps94
  go_wp2_with (first
    | (go_at_call 102; refine (PW _).mono ?_; rintro e w1 ⟨rfl, b1⟩; obtain ⟨z1, z2⟩ := two_kept (Chg.of_below b1); have hc1 := fun o => cell_of_row w1 _ o _ _ _ z1; have KZ := Lib.hid (fun ro' W (m : Mv (newRo ro w.heap.size (r + 16)) [] w1 ro' W) => And.intro ((m.block _ (lt_of_heap z1) (by simp)).trans z1) ((m.block _ (lt_of_heap z2) (by simp)).trans z2)); have L1 := lt_of_heap z1; have L2 := lt_of_heap z2; have M1 : Mv ro [] w (newRo ro w.heap.size (r + 16)) w1 := ((((Mv.refl ro [] w).alloc _).alloc _).then_below b1).news; clear z1 z2 b1)
    | (go_at_call 123; refine (BW (newRo ro w.heap.size (r + 16)) _).mono ?_; rintro e w2 ⟨B, D, ro2, rfl, b2, m2⟩; have m12 : Mv (newRo ro w.heap.size (r + 16)) [] w1 ro2 w2 := ((Mv.refl _ [] w1).alloc _).trans m2; obtain ⟨y1, y2⟩ := KZ.out _ _ m12; have hd1 := fun o => cell_of_row w2 _ o _ _ _ y1; have hd2 := fun o => cell_of_row w2 _ o _ _ _ y2; clear y1 y2)
    | (at_builtin; refine wpList_copy elC row_len row_one ro2 (r + 10) rfl (.const (.slice none 0 0)) (.tmp 35) rfl code _ rfl rfl (HC.out.keep0 (M1.trans m12).chg) hlen ?_; intro v3 w3 o3 m3; obtain ⟨va3, vc3, rfl⟩ := o3.form; have m13 : Mv (newRo ro w.heap.size (r + 16)) [] w1 (newRo ro2 w2.heap.size (r + 10)) w3 := m12.trans m3; obtain ⟨y1, y2⟩ := KZ.out _ _ m13; have he1 := fun o => cell_of_row w3 _ o _ _ _ y1; have he2 := fun o => cell_of_row w3 _ o _ _ _ y2; have hf2 := fun o => frozen_of_row w3 _ o _ _ y2; have Y1 := Lib.hid y1; have Y2 := Lib.hid y2; clear y1 y2))
  generalize hRC : newRo ro2 w2.heap.size (r + 10) = RC at *
  have hn1 : RC (w.heap.size + 1) = r + 16 := (m13.ext _ L2).trans (newRo_ge (by omega))
  generalize hW4 : w3.setCell ⟨w.heap.size + 1, 1, none⟩ (.slice va3 code.length vc3) = W4
  have m34 : Mv RC [r + 16] w3 RC W4 := by rw [← hW4]; exact (Mv.refl _ _ _).setCell (by rw [hn1]; simp) _
  have M4 : Mv ro [] w RC W4 := by rw [← hW4]; exact (M1.trans m13).setNew (Nat.le_succ _) _
  have k1 : W4.heap[w.heap.size]? = some (.cells #[.int .i64 C.cells, .int .i64 C.threads, .int .i64 C.fuel, .int .i64 C.writes] 23 (0, 0)) := by rw [← hW4]; exact (Below.heap_setCell _ _ _ _ (by simp)).trans Y1.out
  have k2 : W4.heap[w.heap.size + 1]? = some (.cells #[.int .i64 tag, .slice va3 code.length vc3] 26 (0, 0)) := by rw [← hW4]; exact heap_put Y2.out rfl
  have o4 := o3.keep m34 (by simp)
  have b4 := (b2.keep m3 (by simp) (by simp) (by simp)).keep m34 (by simp <;> omega) (by simp <;> omega) (by simp <;> omega)
  have S0 : ∀ ro' W, Mv RC [] W4 ro' W → (W.cell? ⟨w.heap.size, 0, none⟩ = some (.int .i64 C.cells) ∧ W.cell? ⟨w.heap.size, 1, none⟩ = some (.int .i64 C.threads) ∧ W.cell? ⟨w.heap.size, 2, none⟩ = some (.int .i64 C.fuel) ∧ W.cell? ⟨w.heap.size, 3, none⟩ = some (.int .i64 C.writes) ∧ W.cell? ⟨w.heap.size + 1, 0, none⟩ = some (.int .i64 tag) ∧ W.cell? ⟨w.heap.size + 1, 1, none⟩ = some (.slice va3 code.length vc3)) := fun ro' W mv => by
    have c1 := fun o => cell_of_row W _ o _ _ _ ((mv.block _ (lt_of_heap k1) (by simp)).trans k1)
    have c2 := fun o => cell_of_row W _ o _ _ _ ((mv.block _ (lt_of_heap k2) (by simp)).trans k2)
    exact ⟨c1 0, c1 1, c1 2, c1 3, c2 0, c2 1⟩
  have s4 := S0 RC W4 (Mv.refl _ _ _)
  have RD := Lib.hid ((o4.keep (Mv.refl RC [] W4).drew (by simp)).rd row_len)
  have O4 := Lib.hid o4
  have B4 := Lib.hid b4
  have MM4 := Lib.hid M4
  clear hc1 hd1 hd2 he1 he2 hf2 Y1 Y2 KZ M1 m12 m13 m2 m3 hW4 m34 M4 k1 k2 o4 b4 b2 o3 hRC L1 L2 PW BW
  go_region_held_law (fun w' => (w'.cell? ⟨w.heap.size, 0, none⟩ = some (.int .i64 C.cells) ∧ w'.cell? ⟨w.heap.size, 1, none⟩ = some (.int .i64 C.threads) ∧ w'.cell? ⟨w.heap.size, 2, none⟩ = some (.int .i64 C.fuel) ∧ w'.cell? ⟨w.heap.size, 3, none⟩ = some (.int .i64 C.writes) ∧ w'.cell? ⟨w.heap.size + 1, 0, none⟩ = some (.int .i64 tag) ∧ w'.cell? ⟨w.heap.size + 1, 1, none⟩ = some (.slice va3 code.length vc3))) (first | assumption | (exact S0 _ _ (Mv.refl _ _ _).drew) | go_keep)
    (first
    | (go_at_call 124; refine (check_walk tag _ code _ RD.out).mono ?_; rintro e w5 ⟨rfl, b5⟩; have m5 : Mv RC [] W4 RC w5 := (Mv.refl RC [] W4).drew.then_below b5; have s5 := S0 _ _ m5; clear b5)
    | (go_at_call 125; refine (NF RC _).mono ?_; rintro e w6 ⟨N, ro6, rfl, n6, m6⟩; have m56 := m5.trans m6; have s6 := S0 _ _ m56)
    | (go_at_call 126; refine (NI ro6 _).mono ?_; rintro e w7 ⟨K, ro7, rfl, n7, m7⟩; have m57 := m56.trans m7; have s7 := S0 _ _ m57))
  go_wp2
  obtain ⟨bd, hbd⟩ : ∃ bd, bd = badS tag code := ⟨_, rfl⟩
  rw [show (checkS tag code != 0) = bd from hbd.symm]
  have hh := heap_alloc_new w7 (.cells (mcells C tag (newMs bd args 0) ⟨.slice va3 code.length vc3, N, K, B, D, .slice none 0 0, .slice none 0 0, .slice none 0 0, .slice none 0 0, .slice none 0 0, 0⟩) 191)
  have m8 : Mv ro7 [] w7 (setRo ro7 w7.heap.size r) (w7.alloc (.cells (mcells C tag (newMs bd args 0) ⟨.slice va3 code.length vc3, N, K, B, D, .slice none 0 0, .slice none 0 0, .slice none 0 0, .slice none 0 0, .slice none 0 0, 0⟩) 191)) := ((Mv.refl _ _ _).alloc _).give (Nat.le_refl _)
  have H8 : MIs (setRo ro7 w7.heap.size r) r (w7.alloc (.cells (mcells C tag (newMs bd args 0) ⟨.slice va3 code.length vc3, N, K, B, D, .slice none 0 0, .slice none 0 0, .slice none 0 0, .slice none 0 0, .slice none 0 0, 0⟩) 191)) w7.heap.size C tag code (newMs bd args 0) ⟨.slice va3 code.length vc3, N, K, B, D, .slice none 0 0, .slice none 0 0, .slice none 0 0, .slice none 0 0, .slice none 0 0, 0⟩ :=
    ⟨⟨hh, setRo_at _ _ _⟩, (n6.keep m7 (by simp) (by simp)).keep m8 (by simp) (by simp), n7.keep m8 (by simp) (by simp), ((B4.out.keep m57 (by simp) (by simp) (by simp))).keep m8 (by simp) (by simp) (by simp), OwnL.nil _ _ _ _ _ _, OwnL.nil _ _ _ _ _ _, (O4.out.keep m57 (by simp)).keep m8 (by simp), by simp [newMs], by intro c hc; cases hc⟩
  have M8 : Mv ro [] w (setRo ro7 w7.heap.size r) (w7.alloc (.cells (mcells C tag (newMs bd args 0) ⟨.slice va3 code.length vc3, N, K, B, D, .slice none 0 0, .slice none 0 0, .slice none 0 0, .slice none 0 0, .slice none 0 0, 0⟩) 191)) := (MM4.out.trans m57).trans m8
  have eL : mcells C tag (newMs bd args 0) ⟨.slice va3 code.length vc3, N, K, B, D, .slice none 0 0, .slice none 0 0, .slice none 0 0, .slice none 0 0, .slice none 0 0, 0⟩ = #[.int .i64 C.cells, .int .i64 C.threads, .int .i64 C.fuel, .int .i64 C.writes, .int .i64 tag, .slice va3 code.length vc3, .bool bd, .float .f64 0, .float .f64 0, .float .f64 0, .float .f64 0, .float .f64 0, .float .f64 0, .float .f64 0, .float .f64 0, .float .f64 0, .float .f64 0, .float .f64 0, .float .f64 0, .float .f64 0, .float .f64 0, .float .f64 0, .float .f64 0, .pointer (some ⟨N, 0, none⟩), .pointer (some ⟨K, 0, none⟩), .int .i64 0, .int .i64 0, .bool false, .int .i64 0, .int .i64 0, .int .i64 0, .int .i64 0, .slice none 0 0, .slice none 0 0, .pointer (some ⟨B, 0, none⟩)] := rfl
  rw [eL] at H8 M8
  generalize hp8 : (⟨.slice va3 code.length vc3, N, K, B, D, .slice none 0 0, .slice none 0 0, .slice none 0 0, .slice none 0 0, .slice none 0 0, 0⟩ : Mp) = p8 at *
  generalize setRo ro7 w7.heap.size r = ro8 at *
  generalize hW8 : w7.alloc (.cells #[.int .i64 C.cells, .int .i64 C.threads, .int .i64 C.fuel, .int .i64 C.writes, .int .i64 tag, .slice va3 code.length vc3, .bool bd, .float .f64 0, .float .f64 0, .float .f64 0, .float .f64 0, .float .f64 0, .float .f64 0, .float .f64 0, .float .f64 0, .float .f64 0, .float .f64 0, .float .f64 0, .float .f64 0, .float .f64 0, .float .f64 0, .float .f64 0, .float .f64 0, .pointer (some ⟨N, 0, none⟩), .pointer (some ⟨K, 0, none⟩), .int .i64 0, .int .i64 0, .bool false, .int .i64 0, .int .i64 0, .int .i64 0, .int .i64 0, .slice none 0 0, .slice none 0 0, .pointer (some ⟨B, 0, none⟩)] 191) = W8 at *
  have G8 := Lib.hid H8
  have GM8 := Lib.hid M8
  have BD := Lib.hid hbd
  have hMR : w.heap.size ≤ w7.heap.size := by exact Nat.le_trans MM4.out.size m57.size
  clear H8 M8 hW8 hh m8 eL hp8 hbd S0 s4 s5 s6 s7 n6 n7 m5 m56 m57 m6 m7 B4 O4 MM4 RD NF NI
  go_loopw [50] (fun i wr => ∃ k : Nat, i = .int .i64 k ∧ k ≤ args.length ∧ MIs ro8 r wr w7.heap.size C tag code (newMs bd args k) p8 ∧ Mv ro [] w ro8 wr) (fun i _ => args.length - (intOf i).toNat)
  case atStart => exact ⟨0, rfl, Nat.zero_le _, G8.out, GM8.out⟩
  case round =>
    obtain ⟨k, rfl, hk, hms, hmv⟩ := hrel
    have HMS := Lib.hid hms
    have HMV := Lib.hid hmv
    have hR := hmv.chg
    by_cases hlt : k < args.length
    · have hlt' : (k : Int) < args.length := by omega
      have hk8 : (k : Int) < 8 := by omega
      obtain ⟨b, off, c', e1, hb, hcell⟩ := Rd.blk (HA.out.keep0 hR) (by simp; omega)
      simp only [Value.slice.injEq, List.length_map] at e1
      obtain ⟨rfl, -, rfl⟩ := e1
      have c0 := hcell k 0 (by simpa using hlt) (by decide)
      simp only [List.getD, List.getElem?_map, List.getElem?_eq_getElem hlt, Option.map_some, Option.getD_some, cF, List.getElem?_cons_zero, Nat.mul_one, Nat.add_zero] at c0
      have hx : args.getD k 0 = args[k] := by rw [List.getD_eq_getElem?_getD, List.getElem?_eq_getElem hlt]; rfl
      have hc1 : wr.cell? ⟨w7.heap.size, 7 + k, none⟩ = some (.float .f64 0) := by
        rw [hms.blk.cell, mcells_arg _ _ _ _ k (by omega)]
        simp [newMs]
      have hf1 := hms.blk.free (7 + k)
      have FW := fix_walk args[k]
      obtain ⟨y, hy⟩ : ∃ y, y = fx args[k] := ⟨_, rfl⟩
      rw [← hy] at FW
      have sf := run_store_float
      have HX := Lib.hid hx
      have HY := Lib.hid hy
      clear hms hmv hR hcell hx hy
      go_wp2
      refine wp_region_noPanic ?_
      go_region_law (go_simp; go_at_call 92; refine (FW _).mono ?_; rintro e w9 ⟨rfl, rfl⟩)
      all_goals
        refine NoPanic.normal ?_
        go_wp2
        go_roundw
        case rel =>
          have q1 := HMS.out.put1 (7 + k) (.float .f64 y) _ (mcells_setarg C tag _ _ y k (by omega)) ⟨rfl, rfl, rfl, rfl, rfl⟩ rfl
          have e2 := newMs_succ bd args k
          rw [HX.out, ← HY.out] at e2
          rw [e2] at q1
          exact ⟨k + 1, by go_num, by omega, q1.keep0 ((Mv.refl _ [] _).drew), (HMV.out.setNew hMR _).drew⟩
        case measure => simp [intOf]; omega
    · obtain rfl : k = args.length := by omega
      go_wp2
      go_ret
      exact ⟨w7.heap.size, ro8, p8, rfl, by rw [← BD.out]; exact HMS.out, HMV.out⟩
end Go.Proofs.YtphaeodcomgffaaGreat
set_option linter.unusedVariables false
set_option linter.unusedSimpArgs false
namespace Go.Proofs.YtphaeodcomgffaaGreat
open Go.RowKit

/-- A new reader. -/
def newRs (bad : Bool) (args : List Nat) : Rs := ⟨newMs bad args args.length, 1, 0, 0, 0, 0, none⟩
/-- A reader may be made. -/
def rOk (C : Cfg) (n : Nat) (th : Int) : Prop := C.ok ∧ n ≤ 8 ∧ 0 ≤ th ∧ th < C.threads
instance (C : Cfg) (n : Nat) (th : Int) : Decidable (rOk C n th) := by unfold rOk Cfg.ok; infer_instance

theorem two_chg {w w1 : World} {o1 o2 : Obj} (b : Chg [] ((w.alloc o1).alloc o2) w1) : Chg [] w w1 := (((Chg.refl [] w).alloc o1).alloc o2).trans b
def cfgO (C : Cfg) : Obj := .cells #[.int .i64 C.cells, .int .i64 C.threads, .int .i64 C.fuel, .int .i64 C.writes] 23 (0, 0)
def progO (tag : Int) (vc : Value) : Obj := .cells #[.int .i64 tag, vc] 26 (0, 0)
set_option maxRecDepth 100000 in
set_option maxHeartbeats 2000000 in
theorem rnew_none1 (C : Cfg) (tag th : Int) (vc va : Value) (a : Option Addr) (n c : Nat) (hva : va = .slice a n c) (w : World) (h : ¬ C.ok) :
    Calls Tryz.prog 59 #[cfgV C, .int .i64 th, .agg #[.int .i64 tag, vc], va] w fun e w' => e = .returned (.pointer none) ∧ Chg [] w w' := by
  have MW := fun W => mnew_none C tag vc va a n c hva W (.inl h)
  subst hva
  have PW := mplace_walk C
  unfold planE at PW
  rw [if_neg h] at PW
  unfold noPlan cfgV at PW
  unfold cfgV at MW ⊢
  clear h
  go_enter Tryz.func59, Tryz.ntmps59
  go_wp2_with (first
    | (go_at_call 102; refine (PW _).mono ?_; rintro e w1 ⟨rfl, b1⟩; have q1 : Chg [] _ w1 := Chg.of_below b1; obtain ⟨z1, z2⟩ := two_kept q1; have hc1 := fun o => cell_of_row w1 _ o _ _ _ z1; have hc2 := fun o => cell_of_row w1 _ o _ _ _ z2; have L1 := lt_of_heap z1; have L2 := lt_of_heap z2; have Q1 := Lib.hid (two_chg q1); clear b1 z1 z2 q1)
    | (go_at_call 94; refine (MW _).mono ?_; rintro e w2 ⟨rfl, b2⟩; have q2 : Chg [] _ w2 := Chg.of_below b2; have Q2 := Lib.hid ((Q1.out.alloc _).trans q2); clear b2 q2))
  go_ret
  exact ⟨rfl, Q2.out⟩

set_option maxRecDepth 100000 in
set_option maxHeartbeats 2000000 in
theorem rnew_none2 (C : Cfg) (tag th : Int) (vc va : Value) (a : Option Addr) (n c : Nat) (hva : va = .slice a n c) (w : World) (hC : C.ok) (h : 8 < n) :
    Calls Tryz.prog 59 #[cfgV C, .int .i64 th, .agg #[.int .i64 tag, vc], va] w fun e w' => e = .returned (.pointer none) ∧ Chg [] w w' := by
  have MW := fun W => mnew_none C tag vc va a n c hva W (.inr h)
  subst hva
  have PW := mplace_walk C
  unfold planE at PW
  rw [if_pos hC] at PW
  unfold planV cfgV at PW
  unfold cfgV at MW ⊢
  clear h hC
  go_enter Tryz.func59, Tryz.ntmps59
  go_wp2_with (first
    | (go_at_call 102; refine (PW _).mono ?_; rintro e w1 ⟨rfl, b1⟩; have q1 : Chg [] _ w1 := Chg.of_below b1; obtain ⟨z1, z2⟩ := two_kept q1; have hc1 := fun o => cell_of_row w1 _ o _ _ _ z1; have hc2 := fun o => cell_of_row w1 _ o _ _ _ z2; have L1 := lt_of_heap z1; have L2 := lt_of_heap z2; have Q1 := Lib.hid (two_chg q1); clear b1 z1 z2 q1)
    | (go_at_call 94; refine (MW _).mono ?_; rintro e w2 ⟨rfl, b2⟩; have q2 : Chg [] _ w2 := Chg.of_below b2; have Q2 := Lib.hid ((Q1.out.alloc _).trans q2); clear b2 q2))
  go_ret
  exact ⟨rfl, Q2.out⟩
set_option maxRecDepth 100000 in
set_option maxHeartbeats 4000000 in
theorem rnew_none3 (C : Cfg) (tag th : Int) (vc va : Value) (code : List Ins) (args : List Nat) (w : World) (hC : C.ok) (h8 : args.length ≤ 8) (hcode : RdC w vc code) (hargs : Rd w 1 va (args.map cF)) (hlen : code.length * 24 ≤ 140737488355328) (h : th < 0 ∨ C.threads ≤ th) :
    Calls Tryz.prog 59 #[cfgV C, .int .i64 th, .agg #[.int .i64 tag, vc], va] w fun e w' => e = .returned (.pointer none) ∧ Chg [] w w' := by
  have MW := fun W (q : Chg [] w W) => mnew_walk (fun _ => 0) 0 C tag vc va code args W hC h8 (hcode.keep0 q) (hargs.keep0 q) hlen
  obtain ⟨va1, va2, rfl⟩ := hargs.slice
  have PW := mplace_walk C
  unfold planE at PW
  rw [if_pos hC] at PW
  unfold planV cfgV at PW
  unfold NewP at MW
  unfold cfgV at MW ⊢
  simp only [ptr, List.length_map] at MW ⊢
  clear hC hcode hargs hlen h8
  rcases h with h | h
  · go_enter Tryz.func59, Tryz.ntmps59
    go_wp2_with (first
      | (go_at_call 102; refine (PW _).mono ?_; rintro e w1 ⟨rfl, b1⟩; have q1 : Chg [] _ w1 := Chg.of_below b1; obtain ⟨z1, z2⟩ := two_kept q1; have hc1 := fun o => cell_of_row w1 _ o _ _ _ z1; have hc2 := fun o => cell_of_row w1 _ o _ _ _ z2; have L1 := lt_of_heap z1; have L2 := lt_of_heap z2; have Q1 := Lib.hid (two_chg q1); clear b1 z1 z2 q1)
      | (go_at_call 94; refine (MW _ (Q1.out.alloc _)).mono ?_; rintro e w2 ⟨M, ro2, p2, rfl, m2, b2⟩; have Q2 := Lib.hid ((Q1.out.alloc _).trans b2.chg); clear b2))
    go_ret
    exact ⟨rfl, Q2.out⟩
  · have h0 : ¬ th < 0 ∨ th < 0 := by omega
    rcases h0 with h0 | h0
    · go_enter Tryz.func59, Tryz.ntmps59
      go_wp2_with (first
        | (go_at_call 102; refine (PW _).mono ?_; rintro e w1 ⟨rfl, b1⟩; have q1 : Chg [] _ w1 := Chg.of_below b1; obtain ⟨z1, z2⟩ := two_kept q1; have hc1 := fun o => cell_of_row w1 _ o _ _ _ z1; have hc2 := fun o => cell_of_row w1 _ o _ _ _ z2; have Z1 := Lib.hid z1; have L1 := lt_of_heap z1; have L2 := lt_of_heap z2; have Q1 := Lib.hid (two_chg q1); clear b1 z1 z2 q1)
        | (go_at_call 94; refine (MW _ (Q1.out.alloc _)).mono ?_; rintro e w2 ⟨M, ro2, p2, rfl, m2, b2⟩; have Q2 := Lib.hid ((Q1.out.alloc _).trans b2.chg); have hd1 := fun o => cell_of_row w2 _ o _ _ _ (((((Chg.refl _ _).alloc _).trans b2.chg).block _ L1 (by simp)).trans Z1.out); clear b2))
      go_ret
      exact ⟨rfl, Q2.out⟩
    · go_enter Tryz.func59, Tryz.ntmps59
      go_wp2_with (first
        | (go_at_call 102; refine (PW _).mono ?_; rintro e w1 ⟨rfl, b1⟩; have q1 : Chg [] _ w1 := Chg.of_below b1; obtain ⟨z1, z2⟩ := two_kept q1; have hc1 := fun o => cell_of_row w1 _ o _ _ _ z1; have hc2 := fun o => cell_of_row w1 _ o _ _ _ z2; have L1 := lt_of_heap z1; have L2 := lt_of_heap z2; have Q1 := Lib.hid (two_chg q1); clear b1 z1 z2 q1)
        | (go_at_call 94; refine (MW _ (Q1.out.alloc _)).mono ?_; rintro e w2 ⟨M, ro2, p2, rfl, m2, b2⟩; have Q2 := Lib.hid ((Q1.out.alloc _).trans b2.chg); clear b2))
      go_ret
      exact ⟨rfl, Q2.out⟩
end Go.Proofs.YtphaeodcomgffaaGreat
