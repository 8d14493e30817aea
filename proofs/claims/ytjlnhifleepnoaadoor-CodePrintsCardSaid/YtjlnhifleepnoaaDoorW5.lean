import Derived.Test.YtjlnhifleepnoaaDoorN4
import Derived.Test.YtjlnhifleepnoaaDoorO1
set_option linter.unusedVariables false
set_option linter.unusedSimpArgs false
namespace Go.Proofs.YtjlnhifleepnoaaDoor
open Go.RowKit

set_option maxRecDepth 100000 in
set_option maxHeartbeats 8000000 in
theorem prints_all (tag1 : Int) (a1 : Option Addr) (n1 c1 : Nat) (l1 : List Ins) (w : World) (L : Laid2 w) (h1 : RdC w (.slice a1 n1 c1) l1) (hx : ∀ p ∈ l1, p.x < 18446744073709551616) (hn1 : n1 = l1.length) (b1 : n1 * 24 ≤ 140737488351232) :
    Calls Tryd.prog 4 #[.agg #[.int .i64 tag1, .slice a1 n1 c1]] w fun e w' => e = .returned (.bool true) ∧ Below w.heap.size w w' := by
  obtain ⟨e1, he1⟩ : ∃ e, e = checkS tag1 l1 := ⟨_, rfl⟩
  obtain ⟨t, ht⟩ : ∃ t, t = if okP tag1 l1 then printS tag1 l1 else [] := ⟨_, rfl⟩
  have LD := Lib.hid L
  have RD1 := Lib.hid h1
  have LP : ∀ W, RdC W (.slice a1 n1 c1) l1 → Calls Tryd.prog 10 #[.agg #[.int .i64 tag1, .slice a1 n1 c1]] W fun e w' => ∃ g cap, e = .returned (.agg #[.int .i64 tag1, .slice (some ⟨g, 0, none⟩) n1 cap]) ∧ Lent w' (W.heap.size + 2) g n1 cap l1 ∧ Below W.heap.size W w' := fun W h => by
    refine (lent_walk tag1 _ l1 W h (by rw [← hn1]; exact b1)).mono ?_
    rintro e w' ⟨g, cap, he, o, b⟩
    exact ⟨g, cap, by rw [hn1]; exact he, ⟨by rw [hn1]; exact o, hn1⟩, b⟩
  have CP : ∀ v W, Laid2 W → RdC W v l1 → Calls Tryd.prog 11 #[.agg #[.int .i64 tag1, v]] W fun e w' => e = .returned (.tuple #[.string (S t), .int .i64 e1]) ∧ Below W.heap.size W w' := fun v W L h => by
    rw [he1, ht]; exact cprint_walk tag1 v l1 W L.laid h hx
  have DP : ∀ v W, RdC W v l1 → Calls Tryd.prog 12 #[.agg #[.int .i64 tag1, v]] W fun e w' => e = .returned (.tuple #[.string (S t), .int .i64 e1]) ∧ Below W.heap.size W w' := fun v W h => by
    rw [he1, ht]; exact dprint_walk tag1 v l1 W h hx
  have ST1 : ∀ B g cap W, Lent W B g n1 cap l1 → RdC W (.slice a1 n1 c1) l1 → Calls Tryd.prog 13 #[.agg #[.int .i64 tag1, .slice (some ⟨g, 0, none⟩) n1 cap], .agg #[.int .i64 tag1, .slice a1 n1 c1]] W fun e w' => e = .returned (.bool true) ∧ Below W.heap.size W w' := fun B g cap W h hr => still_walk tag1 B g n1 cap _ l1 W h hr (by rw [← hn1]; exact b1)
  clear L h1 hn1 b1 he1 ht hx
  go_enter Tryd.func4, Tryd.ntmps4
  go_wp2_with (first
    | (go_at_call 7; refine (live_walk _ (LD.out.below (below_of_chg ((Chg.refl _ _).alloc _)))).mono ?_; rintro e w1 ⟨rfl, b1⟩; have C1 := Lib.hid (((Chg.refl [] w).alloc _).trans (Chg.of_below b1)); have ZP1 := Lib.hid (zrow (Chg.of_below (S := []) b1) (heap_alloc_new w (.cells #[.int .i64 tag1, .slice a1 n1 c1] 29))); obtain ⟨xp0, xp1, xp2, xp3⟩ := row2 ZP1.out; clear b1)
    | (go_at_call 10; refine (LP _ (RD1.out.keep0 C1.out)).mono ?_; rintro e w2 ⟨ga, ca, rfl, o2, b2⟩; have K2 := Lib.hid ((Chg.refl [] _).trans (Chg.of_below (S := []) b2) : Chg [] w1 w2); have C2 := Lib.hid (C1.out.trans K2.out); have ZP2 := Lib.hid (zrow K2.out ZP1.out); have LA2 := Lib.hid o2; clear xp0 xp1 xp2 xp3; obtain ⟨xp0, xp1, xp2, xp3⟩ := row2 ZP2.out; clear b2 o2)
    | (go_at_call 11; refine (CP _ _ (LD.out.below (below_of_chg (C2.out.alloc _))) (LA2.out.keep ((Chg.refl [] _).alloc _)).rd).mono ?_; rintro e w3 ⟨rfl, b3⟩; have K3 := Lib.hid (((Chg.refl [] _).alloc _).trans (Chg.of_below (S := []) b3) : Chg [] w2 w3); have C3 := Lib.hid (C2.out.trans K3.out); have ZP3 := Lib.hid (zrow K3.out ZP2.out); have ZA3 := Lib.hid (zrow (Chg.of_below (S := []) b3) (heap_alloc_new w2 (.cells #[.int .i64 tag1, .slice (some ⟨ga, 0, none⟩) n1 ca] 29))); have LA3 := Lib.hid (LA2.out.keep K3.out); clear xp0 xp1 xp2 xp3; obtain ⟨xp0, xp1, xp2, xp3⟩ := row2 ZP3.out; obtain ⟨xa0, xa1, xa2, xa3⟩ := row2 ZA3.out; clear b3)
    | (go_at_call 12; refine (DP _ _ (RD1.out.keep0 C3.out)).mono ?_; rintro e w4 ⟨rfl, b4⟩; have K4 := Lib.hid ((Chg.refl [] _).trans (Chg.of_below (S := []) b4) : Chg [] w3 w4); have C4 := Lib.hid (C3.out.trans K4.out); have ZP4 := Lib.hid (zrow K4.out ZP3.out); have ZA4 := Lib.hid (zrow K4.out ZA3.out); have LA4 := Lib.hid (LA3.out.keep K4.out); clear xp0 xp1 xp2 xp3 xa0 xa1 xa2 xa3; obtain ⟨xp0, xp1, xp2, xp3⟩ := row2 ZP4.out; obtain ⟨xa0, xa1, xa2, xa3⟩ := row2 ZA4.out; clear b4)
    | (go_at_call 13; refine (ST1 _ _ _ _ LA4.out (RD1.out.keep0 C4.out)).mono ?_; rintro e w5 ⟨rfl, b5⟩; have K5 := Lib.hid ((Chg.refl [] _).trans (Chg.of_below (S := []) b5) : Chg [] w4 w5); have C5 := Lib.hid (C4.out.trans K5.out); have ZP5 := Lib.hid (zrow K5.out ZP4.out); have ZA5 := Lib.hid (zrow K5.out ZA4.out); have LA5 := Lib.hid (LA4.out.keep K5.out); clear xp0 xp1 xp2 xp3 xa0 xa1 xa2 xa3; obtain ⟨xp0, xp1, xp2, xp3⟩ := row2 ZP5.out; obtain ⟨xa0, xa1, xa2, xa3⟩ := row2 ZA5.out; clear b5))
  go_ret
  exact ⟨rfl, below_of_chg C5.out⟩

theorem prints (v1 : Value) (w : World) (L : Laid2 w) (i1 : InProg w v1) : Calls Tryd.prog 4 #[v1] w fun e w' => e = .returned (.bool true) ∧ Below w.heap.size w w' := by
  obtain ⟨t1, s1, l1, rfl, r1, hx, b1⟩ := i1
  obtain ⟨a1, c1, rfl⟩ := r1.slice
  exact prints_all t1 a1 _ c1 l1 w L r1 hx rfl b1
end Go.Proofs.YtjlnhifleepnoaaDoor
