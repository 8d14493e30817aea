import Derived.Test.YtphaeodcomgffaaGreatMO
set_option linter.unusedVariables false
set_option linter.unusedSimpArgs false
namespace Go.Proofs.YtphaeodcomgffaaGreat
open Go.RowKit

set_option maxRecDepth 100000 in
set_option maxHeartbeats 1000000 in
theorem reck_8 {ro : Nat → Nat} {r : Nat} {w : World} {M C tag code m p} {k : List Nat} {a : Nat} (h : MIs ro r w M C tag code m p) (j : Nat) (x : Nat) (hj : j < 8) (hs : m.stack = k ++ [a]) (hl : k.length < 64) :
    Calls Tryz.prog 170 #[ptr M, .agg #[.int .i64 8, .int .i64 j, .float .f64 x]] w (UpM ro r w M C tag code { m with stack := k, locals := fun i => if i = j then a else m.locals i } (.tuple #[])) := by
  have m0 : Mv ro [] w (setRo ro w.heap.size (r + 11)) (w.alloc (.cells #[.int .i64 8, .int .i64 j, .float .f64 x] 117)) := ((Mv.refl ro [] w).alloc _).give (Nat.le_refl _)
  have h0 := h.keep0 m0
  have PW := pop_snoc (h0.keep0 (Mv.refl _ [] _).drew) hs hl
  have bx := (Blk.new ro (r + 11) w #[.int .i64 8, .int .i64 j, .float .f64 x] 117).keep (Mv.refl _ [] _).drew (by simp)
  have hlt := h.blk.lt
  have hj' : (j : Int) < 8 := by omega
  simp only [ptr] at PW ⊢
  have sf := run_store_float
  have M0 := Lib.hid m0
  clear h m0 h0 hs
  go_enter Tryz.func170, Tryz.ntmps170
  go_wp2
  refine wp_region_noPanic ?_
  go_region_law (go_simp; go_at_call 167; refine PW.mono ?_; rintro e w1 ⟨rfl, ro1, v1, h1, m1⟩; have b1 := (bx.keep m1 (by simp)).cell 1; have hc1 : w1.cell? ⟨M, 15 + j, none⟩ = some (.float .f64 (m.locals j)) := (by rw [h1.blk.cell]; exact mcells_loc C tag _ _ j hj); have hf1 := h1.blk.free (15 + j))
  all_goals
    refine NoPanic.normal ?_
    go_wp2
    go_end0
    exact UpM.from M0.out.drew ⟨rfl, ro1, _, h1.put1 _ _ _ (mcells_setloc C tag _ _ a j hj) ⟨rfl, rfl, rfl, rfl, rfl⟩ rfl, (m1.mono fun _ => sR).setCell h1.inR _⟩
set_option maxRecDepth 100000 in
set_option maxHeartbeats 1000000 in
theorem reck_9 {ro : Nat → Nat} {r : Nat} {w : World} {M C tag code m p} {k : List Nat} {a : Nat} (h : MIs ro r w M C tag code m p) (n : Int) (x : Nat) (hn1 : 1 ≤ n) (hn2 : n ≤ 8) (ha : a < 18446744073709551616) (hs : m.stack = k ++ [a]) (hl : k.length < 64) :
    Calls Tryz.prog 170 #[ptr M, .agg #[.int .i64 9, .int .i64 n, .float .f64 x]] w (UpM ro r w M C tag code { m with stack := k ++ [oneF n (fx a)] } (.tuple #[])) := by
  have m0 : Mv ro [] w (setRo ro w.heap.size (r + 11)) (w.alloc (.cells #[.int .i64 9, .int .i64 n, .float .f64 x] 117)) := ((Mv.refl ro [] w).alloc _).give (Nat.le_refl _)
  have h0 := h.keep0 m0
  have PW := pop_snoc (h0.keep0 (Mv.refl _ [] _).drew) hs hl
  have bx := (Blk.new ro (r + 11) w #[.int .i64 9, .int .i64 n, .float .f64 x] 117).keep (Mv.refl _ [] _).drew (by simp)
  have OW := one_walk n a hn1 hn2 ha
  generalize oneF n (fx a) = y at *
  have hlt := h.blk.lt
  simp only [ptr] at PW ⊢
  have sf := run_store_float
  have M0 := Lib.hid m0
  clear h m0 h0 hs hn1 hn2 ha
  go_enter Tryz.func170, Tryz.ntmps170
  go_wp2
  refine wp_region_noPanic ?_
  go_region_law (go_simp; first | (go_at_call 167; refine PW.mono ?_; rintro e w1 ⟨rfl, ro1, v1, h1, m1⟩; have b1 := (bx.keep m1 (by simp)).cell 1) | (go_at_call 209; refine (OW _).mono ?_; rintro e w2 ⟨rfl, b2⟩; have h2 := h1.keep0 (Mv.of_below b2); have m2 := m1.then_below b2; clear b2))
  all_goals
    refine NoPanic.normal ?_
    go_wp2_with (go_at_call 133; refine (push_at (k := k) h2 rfl hl y).mono ?_; rintro e w3 ⟨rfl, ro3, v3, h3, m3⟩)
    go_end0
    exact UpM.from M0.out.drew ⟨rfl, ro3, _, h3, (m2.trans m3).mono fun _ => sR⟩
set_option maxRecDepth 100000 in
set_option maxHeartbeats 1000000 in
theorem reck_10 {ro : Nat → Nat} {r : Nat} {w : World} {M C tag code m p} {k : List Nat} {a b : Nat} (h : MIs ro r w M C tag code m p) (n : Int) (x : Nat) (hn1 : 1 ≤ n) (hn2 : n ≤ 12) (ha : a < 18446744073709551616) (hb : b < 18446744073709551616) (hs : m.stack = (k ++ [a]) ++ [b]) (hl : k.length < 63) :
    Calls Tryz.prog 170 #[ptr M, .agg #[.int .i64 10, .int .i64 n, .float .f64 x]] w (UpM ro r w M C tag code { m with stack := k ++ [twoF n (fx a) (fx b)] } (.tuple #[])) := by
  have m0 : Mv ro [] w (setRo ro w.heap.size (r + 11)) (w.alloc (.cells #[.int .i64 10, .int .i64 n, .float .f64 x] 117)) := ((Mv.refl ro [] w).alloc _).give (Nat.le_refl _)
  have h0 := h.keep0 m0
  have PW := pop_snoc h0 hs (by simp; omega)
  have bx := Blk.new ro (r + 11) w #[.int .i64 10, .int .i64 n, .float .f64 x] 117
  have OW := two_walk n a b hn1 hn2 ha hb
  generalize twoF n (fx a) (fx b) = y at *
  have hlt := h.blk.lt
  simp only [ptr] at PW ⊢
  have sf := run_store_float
  have M0 := Lib.hid m0
  clear h m0 h0 hs hn1 hn2 ha hb
  have tk1 : True := trivial
  go_enter Tryz.func170, Tryz.ntmps170
  go_wp2_with (first
    | (go_at_call 167; have _t := tk1; clear tk1; refine PW.mono ?_; rintro e w1 ⟨rfl, ro1, v1, h1, m1⟩)
    | (go_at_call 167; refine (pop_snoc h1 rfl (by omega)).mono ?_; rintro e w2 ⟨rfl, ro2, v2, h2, m2⟩; have m12 := m1.trans m2; have b2 := (bx.keep m12 (by simp)).cell 1)
    | (go_at_call 210; refine (OW _).mono ?_; rintro e w3 ⟨rfl, b3⟩; have h3 := h2.keep0 (Mv.of_below b3); have m3 := m12.then_below b3; clear b3)
    | (go_at_call 133; refine (push_at (k := k) h3 rfl (by omega) y).mono ?_; rintro e w4 ⟨rfl, ro4, v4, h4, m4⟩))
  go_end0
  exact UpM.from M0.out ⟨rfl, ro4, _, h4, (m3.trans m4).mono fun _ => sR⟩
end Go.Proofs.YtphaeodcomgffaaGreat
