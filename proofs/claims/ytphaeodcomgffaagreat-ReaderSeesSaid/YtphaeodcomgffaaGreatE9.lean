import Derived.Test.YtphaeodcomgffaaGreatE8
import Derived.Test.YtphaeodcomgffaaGreatE4
import Derived.Deep.RegionLaw
set_option linter.unusedVariables false
set_option linter.unusedSimpArgs false
namespace Go.Proofs.YtphaeodcomgffaaGreat
open Go.RowKit

/-- A new reader. -/
def newRs (bad : Bool) (args : List Nat) : Rs := ⟨newMs bad args args.length, 1, 0, 0, 0, 0, none⟩
/-- A reader may be made. -/
def rOk (C : Cfg) (n : Nat) (th : Int) : Prop := C.ok ∧ n ≤ 8 ∧ 0 ≤ th ∧ th < C.threads
instance (C : Cfg) (n : Nat) (th : Int) : Decidable (rOk C n th) := by unfold rOk Cfg.ok; infer_instance

theorem two_chg {w w1 : World} {o1 o2 : Obj} (b : Chg [] ((w.alloc o1).alloc o2) w1) : Chg [] w w1 := (((Chg.refl [] w).alloc o1).alloc o2).trans b
def cfgO (C : Cfg) : Obj := .cells #[.int .i64 C.cells, .int .i64 C.threads, .int .i64 C.fuel, .int .i64 C.writes] 23 (0, 0)
def progO (tag : Int) (vc : Value) : Obj := .cells #[.int .i64 tag, vc] 26 (0, 0)
set_option maxRecDepth 100000 in
set_option maxHeartbeats 2000000 in
theorem rnew_none1 (C : Cfg) (tag th : Int) (vc va : Value) (a : Option Addr) (n c : Nat) (hva : va = .slice a n c) (w : World) (h : ¬ C.ok) :
    Calls Tryz.prog 59 #[cfgV C, .int .i64 th, .agg #[.int .i64 tag, vc], va] w fun e w' => e = .returned (.pointer none) ∧ Chg [] w w' := by
  have MW := fun W => mnew_none C tag vc va a n c hva W (.inl h)
  subst hva
  have PW := mplace_walk C
  unfold planE at PW
  rw [if_neg h] at PW
  unfold noPlan cfgV at PW
  unfold cfgV at MW ⊢
  clear h
  go_enter Tryz.func59, Tryz.ntmps59
  go_wp2_with (first
    | (go_at_call 102; refine (PW _).mono ?_; rintro e w1 ⟨rfl, b1⟩; have q1 : Chg [] _ w1 := Chg.of_below b1; obtain ⟨z1, z2⟩ := two_kept q1; have hc1 := fun o => cell_of_row w1 _ o _ _ _ z1; have hc2 := fun o => cell_of_row w1 _ o _ _ _ z2; have L1 := lt_of_heap z1; have L2 := lt_of_heap z2; have Q1 := Lib.hid (two_chg q1); clear b1 z1 z2 q1)
    | (go_at_call 94; refine (MW _).mono ?_; rintro e w2 ⟨rfl, b2⟩; have q2 : Chg [] _ w2 := Chg.of_below b2; have Q2 := Lib.hid ((Q1.out.alloc _).trans q2); clear b2 q2))
  go_ret
  exact ⟨rfl, Q2.out⟩

set_option maxRecDepth 100000 in
set_option maxHeartbeats 2000000 in
theorem rnew_none2 (C : Cfg) (tag th : Int) (vc va : Value) (a : Option Addr) (n c : Nat) (hva : va = .slice a n c) (w : World) (hC : C.ok) (h : 8 < n) :
    Calls Tryz.prog 59 #[cfgV C, .int .i64 th, .agg #[.int .i64 tag, vc], va] w fun e w' => e = .returned (.pointer none) ∧ Chg [] w w' := by
  have MW := fun W => mnew_none C tag vc va a n c hva W (.inr h)
  subst hva
  have PW := mplace_walk C
  unfold planE at PW
  rw [if_pos hC] at PW
  unfold planV cfgV at PW
  unfold cfgV at MW ⊢
  clear h hC
  go_enter Tryz.func59, Tryz.ntmps59
  go_wp2_with (first
    | (go_at_call 102; refine (PW _).mono ?_; rintro e w1 ⟨rfl, b1⟩; have q1 : Chg [] _ w1 := Chg.of_below b1; obtain ⟨z1, z2⟩ := two_kept q1; have hc1 := fun o => cell_of_row w1 _ o _ _ _ z1; have hc2 := fun o => cell_of_row w1 _ o _ _ _ z2; have L1 := lt_of_heap z1; have L2 := lt_of_heap z2; have Q1 := Lib.hid (two_chg q1); clear b1 z1 z2 q1)
    | (go_at_call 94; refine (MW _).mono ?_; rintro e w2 ⟨rfl, b2⟩; have q2 : Chg [] _ w2 := Chg.of_below b2; have Q2 := Lib.hid ((Q1.out.alloc _).trans q2); clear b2 q2))
  go_ret
  exact ⟨rfl, Q2.out⟩
set_option maxRecDepth 100000 in
set_option maxHeartbeats 4000000 in
theorem rnew_none3 (C : Cfg) (tag th : Int) (vc va : Value) (code : List Ins) (args : List Nat) (w : World) (hC : C.ok) (h8 : args.length ≤ 8) (hcode : RdC w vc code) (hargs : Rd w 1 va (args.map cF)) (hlen : code.length * 24 ≤ 140737488355328) (h : th < 0 ∨ C.threads ≤ th) :
    Calls Tryz.prog 59 #[cfgV C, .int .i64 th, .agg #[.int .i64 tag, vc], va] w fun e w' => e = .returned (.pointer none) ∧ Chg [] w w' := by
  have MW := fun W (q : Chg [] w W) => mnew_walk (fun _ => 0) 0 C tag vc va code args W hC h8 (hcode.keep0 q) (hargs.keep0 q) hlen
  obtain ⟨va1, va2, rfl⟩ := hargs.slice
  have PW := mplace_walk C
  unfold planE at PW
  rw [if_pos hC] at PW
  unfold planV cfgV at PW
  unfold NewP at MW
  unfold cfgV at MW ⊢
  simp only [ptr, List.length_map] at MW ⊢
  clear hC hcode hargs hlen h8
  rcases h with h | h
  · go_enter Tryz.func59, Tryz.ntmps59
    go_wp2_with (first
      | (go_at_call 102; refine (PW _).mono ?_; rintro e w1 ⟨rfl, b1⟩; have q1 : Chg [] _ w1 := Chg.of_below b1; obtain ⟨z1, z2⟩ := two_kept q1; have hc1 := fun o => cell_of_row w1 _ o _ _ _ z1; have hc2 := fun o => cell_of_row w1 _ o _ _ _ z2; have L1 := lt_of_heap z1; have L2 := lt_of_heap z2; have Q1 := Lib.hid (two_chg q1); clear b1 z1 z2 q1)
      | (go_at_call 94; refine (MW _ (Q1.out.alloc _)).mono ?_; rintro e w2 ⟨M, ro2, p2, rfl, m2, b2⟩; have Q2 := Lib.hid ((Q1.out.alloc _).trans b2.chg); clear b2))
    go_ret
    exact ⟨rfl, Q2.out⟩
  · have h0 : ¬ th < 0 ∨ th < 0 := by omega
    rcases h0 with h0 | h0
    · go_enter Tryz.func59, Tryz.ntmps59
      go_wp2_with (first
        | (go_at_call 102; refine (PW _).mono ?_; rintro e w1 ⟨rfl, b1⟩; have q1 : Chg [] _ w1 := Chg.of_below b1; obtain ⟨z1, z2⟩ := two_kept q1; have hc1 := fun o => cell_of_row w1 _ o _ _ _ z1; have hc2 := fun o => cell_of_row w1 _ o _ _ _ z2; have Z1 := Lib.hid z1; have L1 := lt_of_heap z1; have L2 := lt_of_heap z2; have Q1 := Lib.hid (two_chg q1); clear b1 z1 z2 q1)
        | (go_at_call 94; refine (MW _ (Q1.out.alloc _)).mono ?_; rintro e w2 ⟨M, ro2, p2, rfl, m2, b2⟩; have Q2 := Lib.hid ((Q1.out.alloc _).trans b2.chg); have hd1 := fun o => cell_of_row w2 _ o _ _ _ (((((Chg.refl _ _).alloc _).trans b2.chg).block _ L1 (by simp)).trans Z1.out); clear b2))
      go_ret
      exact ⟨rfl, Q2.out⟩
    · go_enter Tryz.func59, Tryz.ntmps59
      go_wp2_with (first
        | (go_at_call 102; refine (PW _).mono ?_; rintro e w1 ⟨rfl, b1⟩; have q1 : Chg [] _ w1 := Chg.of_below b1; obtain ⟨z1, z2⟩ := two_kept q1; have hc1 := fun o => cell_of_row w1 _ o _ _ _ z1; have hc2 := fun o => cell_of_row w1 _ o _ _ _ z2; have L1 := lt_of_heap z1; have L2 := lt_of_heap z2; have Q1 := Lib.hid (two_chg q1); clear b1 z1 z2 q1)
        | (go_at_call 94; refine (MW _ (Q1.out.alloc _)).mono ?_; rintro e w2 ⟨M, ro2, p2, rfl, m2, b2⟩; have Q2 := Lib.hid ((Q1.out.alloc _).trans b2.chg); clear b2))
      go_ret
      exact ⟨rfl, Q2.out⟩
end Go.Proofs.YtphaeodcomgffaaGreat
