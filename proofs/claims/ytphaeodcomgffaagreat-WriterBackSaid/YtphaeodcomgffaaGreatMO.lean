import Derived.Test.YtphaeodcomgffaaGreatMS
import Derived.Test.YtphaeodcomgffaaGreatN3
import Derived.Deep.RegionLaw
set_option linter.unusedVariables false
set_option linter.unusedSimpArgs false
namespace Go.Proofs.YtphaeodcomgffaaGreat
open Go.RowKit

theorem UpM.from {ro ro0 : Nat → Nat} {r : Nat} {w w0 : World} {M C tag code m' v e w'} (m0 : Mv ro [] w ro0 w0) (h : UpM ro0 r w0 M C tag code m' v e w') : UpM ro r w M C tag code m' v e w' := by
  obtain ⟨he, ro', p', h1, m1⟩ := h
  exact ⟨he, ro', p', h1, (m0.mono (by simp)).trans m1⟩
theorem pop_snoc {ro : Nat → Nat} {r : Nat} {w : World} {M C tag code m p} {k : List Nat} {a : Nat} (h : MIs ro r w M C tag code m p) (hs : m.stack = k ++ [a]) (hm : k.length < 64) :
    Calls Tryz.prog 167 #[ptr M] w (UpS ro r w M C tag code { m with stack := k } p (.float .f64 a)) := by
  have := pop_walk h (by rw [hs]; simp) (by rw [hs]; simp; omega)
  unfold Ms.top at this
  rw [hs] at this
  simpa using this
theorem push_at {ro : Nat → Nat} {r : Nat} {w : World} {M C tag code m p} {k : List Nat} (h : MIs ro r w M C tag code m p) (hs : m.stack = k) (hl : k.length < 64) (x : Nat) :
    Calls Tryz.prog 133 #[ptr M, .float .f64 x] w (UpS ro r w M C tag code { m with stack := k ++ [x] } p (.tuple #[])) := by
  subst hs
  exact push_walk h hl x

set_option maxRecDepth 100000 in
set_option maxHeartbeats 1000000 in
theorem reck_1 {ro : Nat → Nat} {r : Nat} {w : World} {M C tag code m p} (h : MIs ro r w M C tag code m p) (n : Int) (x : Nat) (hl : m.stack.length < 64) :
    Calls Tryz.prog 170 #[ptr M, .agg #[.int .i64 1, .int .i64 n, .float .f64 x]] w (UpM ro r w M C tag code { m with stack := m.stack ++ [fx x] } (.tuple #[])) := by
  have m0 : Mv ro [] w (setRo ro w.heap.size (r + 11)) (w.alloc (.cells #[.int .i64 1, .int .i64 n, .float .f64 x] 117)) := ((Mv.refl ro [] w).alloc _).give (Nat.le_refl _)
  have PW := push_at (h.keep0 m0) rfl hl (fx x)
  have sf := run_store_float
  have H := Lib.hid h
  have M0 := Lib.hid m0
  clear h m0
  go_enter Tryz.func170, Tryz.ntmps170
  go_wp2_with (first | (go_at_call 92; refine (fix_walk _ _).mono ?_; rintro e w1 ⟨rfl, rfl⟩) | (go_at_call 133; refine PW.mono ?_; rintro e w1 ⟨rfl, ro1, v1, h1, m1⟩))
  go_end0
  exact UpM.from M0.out ⟨rfl, ro1, _, h1, m1.mono fun _ => sR⟩
set_option maxRecDepth 100000 in
set_option maxHeartbeats 1000000 in
theorem reck_2 {ro : Nat → Nat} {r : Nat} {w : World} {M C tag code m p} {k : List Nat} {a : Nat} (h : MIs ro r w M C tag code m p) (n : Int) (x : Nat) (hs : m.stack = k ++ [a]) (hl : k.length < 64) :
    Calls Tryz.prog 170 #[ptr M, .agg #[.int .i64 2, .int .i64 n, .float .f64 x]] w (UpM ro r w M C tag code { m with stack := k } (.tuple #[])) := by
  have m0 : Mv ro [] w (setRo ro w.heap.size (r + 11)) (w.alloc (.cells #[.int .i64 2, .int .i64 n, .float .f64 x] 117)) := ((Mv.refl ro [] w).alloc _).give (Nat.le_refl _)
  have PW := pop_snoc (h.keep0 m0) hs hl
  have sf := run_store_float
  have M0 := Lib.hid m0
  clear h m0 hs
  go_enter Tryz.func170, Tryz.ntmps170
  go_wp2_with (first | (go_at_call 167; refine PW.mono ?_; rintro e w1 ⟨rfl, ro1, v1, h1, m1⟩))
  go_end0
  exact UpM.from M0.out ⟨rfl, ro1, _, h1, m1.mono fun _ => sR⟩
set_option maxRecDepth 100000 in
set_option maxHeartbeats 1000000 in
theorem reck_3 {ro : Nat → Nat} {r : Nat} {w : World} {M C tag code m p} {k : List Nat} {a : Nat} (h : MIs ro r w M C tag code m p) (n : Int) (x : Nat) (hs : m.stack = k ++ [a]) (hl : k.length < 63) :
    Calls Tryz.prog 170 #[ptr M, .agg #[.int .i64 3, .int .i64 n, .float .f64 x]] w (UpM ro r w M C tag code { m with stack := (k ++ [a]) ++ [a] } (.tuple #[])) := by
  have m0 : Mv ro [] w (setRo ro w.heap.size (r + 11)) (w.alloc (.cells #[.int .i64 3, .int .i64 n, .float .f64 x] 117)) := ((Mv.refl ro [] w).alloc _).give (Nat.le_refl _)
  have h0 := h.keep0 m0
  have KW := fpick_walk _ (r + 1) (r + 2) _ p.N p.vn m.stack 64 0 h0.num (by rw [hs]; simp) (by rw [hs]; simp; omega)
  rw [show m.stack.getD (m.stack.length - 1 - 0) 0 = a by rw [hs]; simp] at KW
  have PW := fun q => push_at (h0.keep0 ((Mv.refl _ [] _).drewN q)) rfl (by rw [hs]; simp; omega) a
  rw [hs] at PW
  have hc := h.blk.cell 23
  have hlt := h.blk.lt
  unfold mcells at hc
  simp only [ptr, List.getElem?_toArray, List.getElem?_cons_succ, List.getElem?_cons_zero] at hc KW PW ⊢
  have sf := run_store_float
  have M0 := Lib.hid m0
  clear h m0 hs h0
  go_enter Tryz.func170, Tryz.ntmps170
  go_wp2_with (first | (go_at_call 205; refine KW.mono ?_; rintro e w1 ⟨rfl, q, rfl⟩) | (go_at_call 133; refine (PW q).mono ?_; rintro e w1 ⟨rfl, ro1, v1, h1, m1⟩))
  go_end0
  exact UpM.from (M0.out.drewN q) ⟨rfl, ro1, _, h1, m1.mono fun _ => sR⟩
set_option maxRecDepth 100000 in
set_option maxHeartbeats 1000000 in
theorem reck_4 {ro : Nat → Nat} {r : Nat} {w : World} {M C tag code m p} {k : List Nat} {a b : Nat} (h : MIs ro r w M C tag code m p) (n : Int) (x : Nat) (hs : m.stack = (k ++ [b]) ++ [a]) (hl : k.length < 63) :
    Calls Tryz.prog 170 #[ptr M, .agg #[.int .i64 4, .int .i64 n, .float .f64 x]] w (UpM ro r w M C tag code { m with stack := (k ++ [a]) ++ [b] } (.tuple #[])) := by
  have m0 : Mv ro [] w (setRo ro w.heap.size (r + 11)) (w.alloc (.cells #[.int .i64 4, .int .i64 n, .float .f64 x] 117)) := ((Mv.refl ro [] w).alloc _).give (Nat.le_refl _)
  have h0 := h.keep0 m0
  have KW := pop_snoc h0 hs (by simp; omega)
  have sf := run_store_float
  have M0 := Lib.hid m0
  clear h m0 hs h0
  have tk1 : True := trivial
  have tk2 : True := trivial
  go_enter Tryz.func170, Tryz.ntmps170
  go_wp2_with (first
    | (go_at_call 167; have _t := tk1; clear tk1; refine KW.mono ?_; rintro e w1 ⟨rfl, ro1, v1, h1, m1⟩)
    | (go_at_call 167; refine (pop_snoc h1 rfl (by omega)).mono ?_; rintro e w2 ⟨rfl, ro2, v2, h2, m2⟩)
    | (go_at_call 133; have _t := tk2; clear tk2; refine (push_at (k := k) h2 rfl (by omega) a).mono ?_; rintro e w3 ⟨rfl, ro3, v3, h3, m3⟩)
    | (go_at_call 133; refine (push_at (k := k ++ [a]) h3 rfl (by simp; omega) b).mono ?_; rintro e w4 ⟨rfl, ro4, v4, h4, m4⟩))
  go_end0
  exact UpM.from M0.out ⟨rfl, ro4, _, h4, (((m1.trans m2).trans m3).trans m4).mono fun _ => sR⟩

theorem mcells_arg (C : Cfg) (tag : Int) (m : Ms) (p : Mp) : ∀ j < 8, (mcells C tag m p)[7 + j]? = some (.float .f64 (m.args j))
  | 0, _ | 1, _ | 2, _ | 3, _ | 4, _ | 5, _ | 6, _ | 7, _ => rfl
theorem mcells_loc (C : Cfg) (tag : Int) (m : Ms) (p : Mp) : ∀ j < 8, (mcells C tag m p)[15 + j]? = some (.float .f64 (m.locals j))
  | 0, _ | 1, _ | 2, _ | 3, _ | 4, _ | 5, _ | 6, _ | 7, _ => rfl
theorem mcells_setloc (C : Cfg) (tag : Int) (m : Ms) (p : Mp) (a : Nat) : ∀ j < 8, (mcells C tag m p).setIfInBounds (15 + j) (.float .f64 a) = mcells C tag { m with locals := fun k => if k = j then a else m.locals k } p
  | 0, _ | 1, _ | 2, _ | 3, _ | 4, _ | 5, _ | 6, _ | 7, _ => rfl

set_option maxRecDepth 100000 in
set_option maxHeartbeats 1000000 in
theorem reck_5 {ro : Nat → Nat} {r : Nat} {w : World} {M C tag code m p} (h : MIs ro r w M C tag code m p) (j : Nat) (x : Nat) (hj : j < m.stack.length) (hl : m.stack.length < 64) :
    Calls Tryz.prog 170 #[ptr M, .agg #[.int .i64 5, .int .i64 j, .float .f64 x]] w (UpM ro r w M C tag code { m with stack := m.stack ++ [m.top j] } (.tuple #[])) := by
  have m0 : Mv ro [] w (setRo ro w.heap.size (r + 11)) (w.alloc (.cells #[.int .i64 5, .int .i64 j, .float .f64 x] 117)) := ((Mv.refl ro [] w).alloc _).give (Nat.le_refl _)
  have h0 := h.keep0 m0
  have KW := fpick_walk _ (r + 1) (r + 2) _ p.N p.vn m.stack 64 j (h0.keep0 (Mv.refl _ [] _).drew).num hj (by omega)
  have PW := fun q => push_at (h0.keep0 ((Mv.refl _ [] _).drewN q)) rfl hl (m.top j)
  unfold Ms.top at PW ⊢
  generalize m.stack.getD (m.stack.length - 1 - j) 0 = a at *
  have hc := h.blk.cell 23
  have hlt := h.blk.lt
  unfold mcells at hc
  simp only [ptr, List.getElem?_toArray, List.getElem?_cons_succ, List.getElem?_cons_zero] at hc KW PW ⊢
  have sf := run_store_float
  have M0 := Lib.hid m0
  clear h m0 h0
  go_enter Tryz.func170, Tryz.ntmps170
  go_wp2
  refine wp_region_noPanic ?_
  go_region_law (go_simp; go_at_call 205; refine KW.mono ?_; rintro e w1 ⟨rfl, q, rfl⟩)
  all_goals
    refine NoPanic.normal ?_
    go_wp2_with (go_at_call 133; refine (PW _).mono ?_; rintro e w1 ⟨rfl, ro1, v1, h1, m1⟩)
    go_end0
    exact UpM.from (M0.out.drewN _) ⟨rfl, ro1, _, h1, m1.mono fun _ => sR⟩
set_option maxRecDepth 100000 in
set_option maxHeartbeats 1000000 in
theorem reck_6 {ro : Nat → Nat} {r : Nat} {w : World} {M C tag code m p} (h : MIs ro r w M C tag code m p) (j : Nat) (x : Nat) (hj : j < 8) (hl : m.stack.length < 64) :
    Calls Tryz.prog 170 #[ptr M, .agg #[.int .i64 6, .int .i64 j, .float .f64 x]] w (UpM ro r w M C tag code { m with stack := m.stack ++ [m.args j] } (.tuple #[])) := by
  have m0 : Mv ro [] w (setRo ro w.heap.size (r + 11)) (w.alloc (.cells #[.int .i64 6, .int .i64 j, .float .f64 x] 117)) := ((Mv.refl ro [] w).alloc _).give (Nat.le_refl _)
  have h0 := h.keep0 m0
  have PW := push_at (h0.keep0 (Mv.refl _ [] _).drew) rfl hl (m.args j)
  have hc : w.cell? ⟨M, 7 + j, none⟩ = some (.float .f64 (m.args j)) := by rw [h.blk.cell]; exact mcells_arg C tag m p j hj
  generalize m.args j = a at *
  have hlt := h.blk.lt
  have hj' : (j : Int) < 8 := by omega
  simp only [ptr] at PW ⊢
  have sf := run_store_float
  have M0 := Lib.hid m0
  clear h m0 h0
  go_enter Tryz.func170, Tryz.ntmps170
  go_wp2
  refine wp_region_noPanic ?_
  go_region_law (go_simp; go_at_call 133; refine PW.mono ?_; rintro e w1 ⟨rfl, ro1, v1, h1, m1⟩)
  all_goals
    refine NoPanic.normal ?_
    go_wp2
    go_end0
    exact UpM.from M0.out.drew ⟨rfl, ro1, _, h1, m1.mono fun _ => sR⟩
set_option maxRecDepth 100000 in
set_option maxHeartbeats 1000000 in
theorem reck_7 {ro : Nat → Nat} {r : Nat} {w : World} {M C tag code m p} (h : MIs ro r w M C tag code m p) (j : Nat) (x : Nat) (hj : j < 8) (hl : m.stack.length < 64) :
    Calls Tryz.prog 170 #[ptr M, .agg #[.int .i64 7, .int .i64 j, .float .f64 x]] w (UpM ro r w M C tag code { m with stack := m.stack ++ [m.locals j] } (.tuple #[])) := by
  have m0 : Mv ro [] w (setRo ro w.heap.size (r + 11)) (w.alloc (.cells #[.int .i64 7, .int .i64 j, .float .f64 x] 117)) := ((Mv.refl ro [] w).alloc _).give (Nat.le_refl _)
  have h0 := h.keep0 m0
  have PW := push_at (h0.keep0 (Mv.refl _ [] _).drew) rfl hl (m.locals j)
  have hc : w.cell? ⟨M, 15 + j, none⟩ = some (.float .f64 (m.locals j)) := by rw [h.blk.cell]; exact mcells_loc C tag m p j hj
  generalize m.locals j = a at *
  have hlt := h.blk.lt
  have hj' : (j : Int) < 8 := by omega
  simp only [ptr] at PW ⊢
  have sf := run_store_float
  have M0 := Lib.hid m0
  clear h m0 h0
  go_enter Tryz.func170, Tryz.ntmps170
  go_wp2
  refine wp_region_noPanic ?_
  go_region_law (go_simp; go_at_call 133; refine PW.mono ?_; rintro e w1 ⟨rfl, ro1, v1, h1, m1⟩)
  all_goals
    refine NoPanic.normal ?_
    go_wp2
    go_end0
    exact UpM.from M0.out.drew ⟨rfl, ro1, _, h1, m1.mono fun _ => sR⟩
end Go.Proofs.YtphaeodcomgffaaGreat
set_option linter.unusedVariables false
set_option linter.unusedSimpArgs false
namespace Go.Proofs.YtphaeodcomgffaaGreat
open Go.RowKit

theorem MIs.setOut {ro ro' : Nat → Nat} {r : Nat} {w w' : World} {M C tag code m p l v'} (h : MIs ro r w M C tag code m p) (mv : Mv ro [r + 8] w ro' w') (o : OwnL cF ro' (r + 8) w' 74 1 v' l) :
    MIs ro' r (w'.setCell ⟨M, 32, none⟩ v') M C tag code { m with out := l } { p with vo := v' } ∧ Mv ro (mR r) w ro' (w'.setCell ⟨M, 32, none⟩ v') := by
  have b := h.blk.keep mv (by simp)
  have ms : Mv ro' [r] w' ro' (w'.setCell ⟨M, 32, none⟩ v') := (Mv.refl _ _ _).setCell (by rw [b.role]; simp) _
  have ma : Mv ro [r, r + 8] w ro' (w'.setCell ⟨M, 32, none⟩ v') := (mv.mono (by simp)).trans (ms.mono (by simp))
  exact ⟨⟨b.put rfl, h.num.keep ma (by simp) (by simp), h.cal.keep ma (by simp) (by simp), h.buf.keep ma (by simp) (by simp <;> omega) (by simp <;> omega), o.keep ms (by simp), h.rds.keep ma (by simp), h.code.keep ma (by simp), h.nd, h.wait⟩, ma.mono (by simp [mR])⟩
theorem MIs.setReads {ro ro' : Nat → Nat} {r : Nat} {w w' : World} {M C tag code m p l v'} (h : MIs ro r w M C tag code m p) (mv : Mv ro [r + 9] w ro' w') (o : OwnL cT ro' (r + 9) w' 76 2 v' l) :
    MIs ro' r (w'.setCell ⟨M, 33, none⟩ v') M C tag code { m with reads := l } { p with vr := v' } ∧ Mv ro (mR r) w ro' (w'.setCell ⟨M, 33, none⟩ v') := by
  have b := h.blk.keep mv (by simp)
  have ms : Mv ro' [r] w' ro' (w'.setCell ⟨M, 33, none⟩ v') := (Mv.refl _ _ _).setCell (by rw [b.role]; simp) _
  have ma : Mv ro [r, r + 9] w ro' (w'.setCell ⟨M, 33, none⟩ v') := (mv.mono (by simp)).trans (ms.mono (by simp))
  exact ⟨⟨b.put rfl, h.num.keep ma (by simp) (by simp), h.cal.keep ma (by simp) (by simp), h.buf.keep ma (by simp) (by simp <;> omega) (by simp <;> omega), h.out.keep ma (by simp), o.keep ms (by simp), h.code.keep ma (by simp), h.nd, h.wait⟩, ma.mono (by simp [mR])⟩

end Go.Proofs.YtphaeodcomgffaaGreat
