import Derived.Test.YtldhlkkclmifmaaI1
set_option linter.unusedVariables false
set_option linter.unusedSimpArgs false
namespace Go.Proofs.Ytldhlkkclmifmaa
open Go.RowKit Go.Shelf
attribute [local go_sem] Oper.semAt_some

theorem mk_late (w : World) (own turn : Int) (a0 : Option Addr) (n0 c0 : Nat) :
    Calls Try.prog 36 #[.int .i64 own, .int .i64 turn, .slice a0 n0 c0] w fun e w' => e = .returned (.func (.func 41) #[] #[.pointer (some ⟨w.heap.size + 1 + 1, 0, none⟩), .pointer (some ⟨w.heap.size, 0, none⟩), .pointer (some ⟨w.heap.size + 1, 0, none⟩)]) ∧
      w' = ((w.alloc (.cells #[.int .i64 own] 3)).alloc (.cells #[.int .i64 turn] 3)).alloc (.cells #[.slice a0 n0 c0] 39) := by
  have hmf : ∀ (fn : Fn) (first cap : Array Value) (w : World), (Instr.makeFunc fn first cap).run Try.prog w = .ok (.func fn first cap) w := fun _ _ _ _ => rfl
  go_enter Try.func36, Try.ntmps36
  go_wp2
  go_ret
  exact ⟨rfl, rfl⟩

def big (a b c d : Int) : Int := max (max (max a b) c) d
def small (a b c d : Int) : Int := min (min (min a b) c) d
theorem mx_eq (x y : Int) : (if x < y then y else x) = max x y := by rw [Int.max_def]; split <;> split <;> omega
theorem mn_eq (x y : Int) : (if y < x then y else x) = min x y := by rw [Int.min_def]; split <;> split <;> omega
theorem run_big {P : Program} (w : World) (ats : Array TypeId) (ty : TypeId) (k k1 k2 k3 : IntKind) (a b c d : Int) : (Builtin.max_ ats ty #[.int k a, .int k1 b, .int k2 c, .int k3 d]).run P w = .ok (.int k (big a b c d)) w := by
  simp [Builtin.max_, Builtin.max2, Sem.run_bind, mx_eq, big]
theorem run_small {P : Program} (w : World) (ats : Array TypeId) (ty : TypeId) (k k1 k2 k3 : IntKind) (a b c d : Int) : (Builtin.min_ ats ty #[.int k a, .int k1 b, .int k2 c, .int k3 d]).run P w = .ok (.int k (small a b c d)) w := by
  simp [Builtin.min_, Builtin.min2, Sem.run_bind, mn_eq, small]
theorem bad_big {d : Dd} : badD d = true ↔ 1099511627776 < big d.steps d.ahead d.frm d.to ∨ small d.steps d.ahead d.frm d.to < 0 := by
  simp only [badD, badN, big, small, Bool.or_eq_true, decide_eq_true_eq]; omega
attribute [local go_sem] run_big run_small
/-- the two results are stored -/
theorem two_cells {W : World} {B : Nat} {x y x' y' : Int} (h1 : W.heap[B]? = some (.cells #[.int .i64 x] 3 (0, 0))) (h2 : W.heap[B + 1]? = some (.cells #[.int .i64 y] 23 (0, 0))) :
    ((W.setCell ⟨B, 0, none⟩ (.int .i64 x')).setCell ⟨B + 1, 0, none⟩ (.int .i64 y')).cell? ⟨B, 0, none⟩ = some (.int .i64 x') ∧ ((W.setCell ⟨B, 0, none⟩ (.int .i64 x')).setCell ⟨B + 1, 0, none⟩ (.int .i64 y')).cell? ⟨B + 1, 0, none⟩ = some (.int .i64 y') := by
  have a1 := heap_setCell_same W B 0 _ _ (.int .i64 x') h1
  have a2 := (Below.heap_setCell W ⟨B, 0, none⟩ (.int .i64 x') (B + 1) (by simp)).trans h2
  have b1 := (Below.heap_setCell (W.setCell ⟨B, 0, none⟩ (.int .i64 x')) ⟨B + 1, 0, none⟩ (.int .i64 y') B (by simp)).trans a1
  have b2 := heap_setCell_same _ (B + 1) 0 _ _ (.int .i64 y') a2
  exact ⟨cell_of_row _ _ _ _ _ _ b1, cell_of_row _ _ _ _ _ _ b2⟩
theorem two_in {W : World} {B : Nat} {x y x' y' : Int} (h1 : W.cell? ⟨B, 0, none⟩ = some (.int .i64 x)) (h2 : W.cell? ⟨B + 1, 0, none⟩ = some (.int .i64 y)) :
    ((W.setCell ⟨B, 0, none⟩ (.int .i64 x')).setCell ⟨B + 1, 0, none⟩ (.int .i64 y')).cell? ⟨B, 0, none⟩ = some (.int .i64 x') ∧ ((W.setCell ⟨B, 0, none⟩ (.int .i64 x')).setCell ⟨B + 1, 0, none⟩ (.int .i64 y')).cell? ⟨B + 1, 0, none⟩ = some (.int .i64 y') := by
  refine ⟨(World.cell?_setCell_other _ _ _ _ (by simp)).trans (World.cell?_setCell_same _ _ _ h1), World.cell?_setCell_same _ _ _ ((World.cell?_setCell_other _ _ _ _ (by simp)).trans h2)⟩
theorem first_of_lates {p : Dd → Bool} {l : List Dd} {x : Nat} (h : [x] <+: lates p l l.length) : fstLate p l 0 = (x : Int) := by
  obtain ⟨t, ht⟩ := h
  have hmem : x ∈ lates p l l.length := by rw [← ht]; simp
  have hx := List.mem_filter.1 hmem
  have hxl : x < l.length := List.mem_range.1 hx.1
  have hp : p l[x] = true := by simpa [hxl] using hx.2
  have hno : ∀ j y, j < x → l[j]? = some y → p y = false := fun j y hj hy => by
    cases hpy : p y with
    | false => rfl
    | true =>
      have hjl := (List.getElem?_eq_some_iff.1 hy).1
      have hjm : j ∈ lates p l l.length := by
        have hy2 := (List.getElem?_eq_some_iff.1 hy).2
        simp only [lates, List.mem_filter, List.mem_range]
        exact ⟨hjl, by rw [hy]; exact hpy⟩
      rw [← ht] at hjm
      have hsorted : (lates p l l.length).Pairwise (· < ·) := List.Pairwise.filter _ List.pairwise_lt_range
      rw [← ht] at hsorted
      rcases List.mem_cons.1 hjm with h | h
      · omega
      · have := (List.pairwise_cons.1 hsorted).1 j h; omega
  have := fst_hit p l 0 x l[x] (List.getElem?_eq_getElem hxl) hp hno
  simpa using this
theorem late_boxes {w w1 : World} {c t f r : Int} (c1 : Chg [] (((w.alloc (.cells #[.int .i64 c, .int .i64 t, .int .i64 f, .int .i64 r] 34)).alloc (.cells #[.int .i64 0] 3)).alloc (.cells #[.int .i64 0] 23)) w1) :
    w1.heap[w.heap.size]? = some (.cells #[.int .i64 c, .int .i64 t, .int .i64 f, .int .i64 r] 34 (0, 0)) ∧ w1.heap[w.heap.size + 1]? = some (.cells #[.int .i64 0] 3 (0, 0)) ∧ w1.heap[w.heap.size + 1 + 1]? = some (.cells #[.int .i64 0] 23 (0, 0)) ∧ w.heap.size + 3 ≤ w1.heap.size := by
  have hs := c1.size
  simp only [World.size_alloc] at hs
  refine ⟨?_, ?_, ?_, by omega⟩
  · exact (c1.block _ (by simp; omega) (by simp)).trans ((Below.heap_alloc _ _ _ (show w.heap.size < ((w.alloc (.cells #[.int .i64 c, .int .i64 t, .int .i64 f, .int .i64 r] 34)).alloc (.cells #[.int .i64 0] 3)).heap.size by rw [World.size_alloc, World.size_alloc]; omega)).trans ((Below.heap_alloc _ _ _ (by simp)).trans (heap_alloc_new w _)))
  · have h := heap_alloc_new (w.alloc (.cells #[.int .i64 c, .int .i64 t, .int .i64 f, .int .i64 r] 34)) (.cells #[.int .i64 0] 3)
    rw [World.size_alloc] at h
    exact (c1.block _ (by simp) (by simp)).trans ((Below.heap_alloc _ _ _ (by simp)).trans h)
  · have h := heap_alloc_new ((w.alloc (.cells #[.int .i64 c, .int .i64 t, .int .i64 f, .int .i64 r] 34)).alloc (.cells #[.int .i64 0] 3)) (.cells #[.int .i64 0] 23)
    rw [World.size_alloc, World.size_alloc] at h
    exact (c1.block _ (by simp) (by simp)).trans h
def LateR (w : World) (a e : Int) (en : Ending) (w' : World) : Prop := en = .returned (.tuple #[.int .i64 a, .int .i64 e]) ∧ Below w.heap.size w w'

set_option maxRecDepth 100000 in
set_option maxHeartbeats 8000000 in
theorem late_any (w : World) (c t f r : Int) (v : Value) (l : List Dd) (h : Rd w 19 v (l.map Dd.row)) (hok : ∀ d ∈ l, d.ok) (hlen : l.length ≤ 9223372036854775807) :
    Calls Try.prog 22 #[.agg #[.int .i64 c, .int .i64 t, .int .i64 f, .int .i64 r], v] w (LateR w (lateI c t f r l) (lateE c t f r l)) := by
  obtain ⟨a0, c0, e0⟩ := h.slice
  rw [List.length_map] at e0
  have H := Lib.hid h; clear h
  have OK := Lib.hid hok; clear hok
  refine (callsIn_wide (n := 5)).1 ?_
  refine callsIn_of_wp_marks Try.func22 rfl trivial ?_ rfl
  simp only [Try.ntmps22, List.size_toArray, List.length_cons, List.length_nil, Nat.reduceAdd, Nat.reduceSub, Array.replicate_succ, Array.replicate_zero, List.push_toArray, List.append_toArray, List.nil_append, List.cons_append]
  by_cases hc : okC c t f r
  · have E1 := Lib.hid (show lateI c t f r l = if l.any badD then 0 else fstLate (lateD (readB c t f r) (writeB c t f r)) l 0 from if_pos hc)
    have E2 := Lib.hid (show lateE c t f r l = if l.any badD then 170 else 0 from if_pos hc)
    have E3 := Lib.hid (show errB c t f r = 0 from if_pos hc)
    have hR : 0 ≤ readB c t f r ∧ readB c t f r ≤ 10000 := by unfold readB; rw [if_pos hc]; unfold okC at hc; omega
    have hW : 0 ≤ writeB c t f r ∧ writeB c t f r ≤ 10000 := by unfold writeB; rw [if_pos hc]; unfold okC at hc; omega
    clear hc
    gi_wp2_with fail
    refine ⟨trivial, (callsIn_wide.2 (reader_any _ c t f r)).mono ?_⟩
    rintro e w1 ⟨rfl, c1⟩
    obtain ⟨k0, k1, k2, kl⟩ := late_boxes c1
    have C1 := Lib.hid ((((Chg.refl [] w).alloc _).alloc _).alloc _ |>.trans c1)
    rw [E3.out]
    clear c1
    have q0 : ∀ o, w1.cell? ⟨w.heap.size, o, none⟩ = (#[.int .i64 c, .int .i64 t, .int .i64 f, .int .i64 r] : Array Value)[o]? := fun o => cell_of_row w1 _ o _ _ _ k0
    have K1 := Lib.hid k1
    have K2 := Lib.hid k2
    clear k0 k1 k2
    gi_wp2_with fail
    refine ⟨trivial, (callsIn_wide.2 (writer_any _ c t f r)).mono ?_⟩
    rintro e w2 ⟨rfl, c2⟩
    have C2 := Lib.hid (C1.out.trans c2)
    have k1 := (c2.block _ (lt_of_heap K1.out) (by simp)).trans K1.out
    have k2 := (c2.block _ (lt_of_heap K2.out) (by simp)).trans K2.out
    have K1 := Lib.hid k1
    have K2 := Lib.hid k2
    rw [E3.out]
    clear c2 q0 kl C1 k1 k2
    generalize readB c t f r = own at *
    generalize writeB c t f r = turn at *
    have e0' := e0
    subst e0
    gi_wp2_with fail
    gi_loopw [28] (fun i wr => ∃ k : Nat, k ≤ l.length ∧ i = .int .i64 k ∧ (∀ j d, j < k → l[j]? = some d → badD d = false) ∧ Chg [] w2 wr) (fun i _ => l.length - (intOf i).toNat)
    case atStart => exact ⟨0, Nat.zero_le _, rfl, fun j d hj => by omega, Chg.refl _ _⟩
    case round =>
      obtain ⟨k, hk, rfl, hno, hchg⟩ := hrel
      have NO := Lib.hid hno; clear hno
      by_cases hkn : k < l.length
      · obtain ⟨b', off, c', d, e, hb', hd, hcell⟩ := deedAt (H.out.keep0 (C2.out.trans hchg)) hkn
        simp only [Value.slice.injEq, true_and] at e
        obtain ⟨rfl, rfl⟩ := e
        have DO := OK.out d (List.mem_of_getElem? hd)
        obtain ⟨⟨s1, s2⟩, ⟨s3, s4⟩, ⟨s5, s6⟩, ⟨s7, s8⟩, _⟩ := DO
        have HD := Lib.hid hd
        have HC := Lib.hid hcell
        have CH := Lib.hid hchg
        clear hd hcell hchg
        by_cases hb : badD d = true
        · have hany : l.any badD = true := List.any_eq_true.2 ⟨d, List.mem_of_getElem? HD.out, hb⟩
          have F1 := Lib.hid (show lateI c t f r l = 0 from by rw [E1.out, if_pos hany])
          have F2 := Lib.hid (show lateE c t f r l = 170 from by rw [E2.out, if_pos hany])
          have hbb := bad_big.1 hb
          clear hany hb
          have tok1 : True := trivial
          have tok2 : True := trivial
          by_cases hbig : 1099511627776 < big d.steps d.ahead d.frm d.to
          · clear hbb
            gi_wp2_with (first | (have _t := tok1; refine wpListIn_load_cells rfl 63 _ rfl b' (off + k * 19) rfl d.arr _ HC.out Try.underlying63 rfl (size63 _ rfl) ?_; clear _t tok1) | (have _t := tok2; refine wpListIn_box_row rfl 63 _ _ rfl _ d.arr 63 rfl rfl (size63 _ rfl) rfl d.arr_one ?_; intro w3 c3 hlt3 hcl3; clear _t tok2; have y3 := hcl3 3; have y5 := hcl3 5; have y15 := hcl3 15; have y16 := hcl3 16; have y17 := hcl3 17; have y18 := hcl3 18; simp only [Dd.get3, Dd.get5, Dd.get15, Dd.get16, Dd.get17, Dd.get18] at y3 y5 y15 y16 y17 y18; clear hcl3; have C3 := Lib.hid (CH.out.trans c3); clear c3; have kk1 := (C3.out.block _ (lt_of_heap K1.out) (by simp)).trans K1.out; have kk2 := (C3.out.block _ (lt_of_heap K2.out) (by simp)).trans K2.out; have g1 := cell_of_row w3 _ 0 _ _ _ kk1; have f1 := frozen_of_row w3 _ 0 _ _ kk1; have g2 := cell_of_row w3 _ 0 _ _ _ kk2; have f2 := frozen_of_row w3 _ 0 _ _ kk2; have KK1 := Lib.hid kk1; have KK2 := Lib.hid kk2; clear kk1 kk2))
            obtain ⟨r1, r2⟩ := two_cells (x' := 0) (y' := 170) KK1.out KK2.out
            refine ⟨.tuple #[.int .i64 0, .int .i64 170], by simp [results, Try.results22, go_sem, r1, r2], ?_⟩
            rw [F1.out, F2.out]
            exact ⟨rfl, (((C2.out.trans C3.out).setCell (.inr (by simp)) _).setCell (.inr (by simp; omega)) _).below (Nat.le_refl _) (by simp)⟩
          · have hsm : small d.steps d.ahead d.frm d.to < 0 := by omega
            have hle : big d.steps d.ahead d.frm d.to ≤ 1099511627776 := by omega
            clear hbb hbig
            gi_wp2_with (first | (have _t := tok1; refine wpListIn_load_cells rfl 63 _ rfl b' (off + k * 19) rfl d.arr _ HC.out Try.underlying63 rfl (size63 _ rfl) ?_; clear _t tok1) | (have _t := tok2; refine wpListIn_box_row rfl 63 _ _ rfl _ d.arr 63 rfl rfl (size63 _ rfl) rfl d.arr_one ?_; intro w3 c3 hlt3 hcl3; clear _t tok2; have y3 := hcl3 3; have y5 := hcl3 5; have y15 := hcl3 15; have y16 := hcl3 16; have y17 := hcl3 17; have y18 := hcl3 18; simp only [Dd.get3, Dd.get5, Dd.get15, Dd.get16, Dd.get17, Dd.get18] at y3 y5 y15 y16 y17 y18; clear hcl3; have C3 := Lib.hid (CH.out.trans c3); clear c3; have kk1 := (C3.out.block _ (lt_of_heap K1.out) (by simp)).trans K1.out; have kk2 := (C3.out.block _ (lt_of_heap K2.out) (by simp)).trans K2.out; have g1 := cell_of_row w3 _ 0 _ _ _ kk1; have f1 := frozen_of_row w3 _ 0 _ _ kk1; have g2 := cell_of_row w3 _ 0 _ _ _ kk2; have f2 := frozen_of_row w3 _ 0 _ _ kk2; have KK1 := Lib.hid kk1; have KK2 := Lib.hid kk2; clear kk1 kk2))
            obtain ⟨r1, r2⟩ := two_cells (x' := 0) (y' := 170) KK1.out KK2.out
            refine ⟨.tuple #[.int .i64 0, .int .i64 170], by simp [results, Try.results22, go_sem, r1, r2], ?_⟩
            rw [F1.out, F2.out]
            exact ⟨rfl, (((C2.out.trans C3.out).setCell (.inr (by simp)) _).setCell (.inr (by simp; omega)) _).below (Nat.le_refl _) (by simp)⟩
        · have hnb : ¬ (1099511627776 < big d.steps d.ahead d.frm d.to ∨ small d.steps d.ahead d.frm d.to < 0) := fun h => hb (bad_big.2 h)
          have hle : big d.steps d.ahead d.frm d.to ≤ 1099511627776 := by omega
          have hsm : 0 ≤ small d.steps d.ahead d.frm d.to := by omega
          have HB := Lib.hid (show badD d = false from by simpa using hb)
          clear hb hnb
          have tok1 : True := trivial
          have tok2 : True := trivial
          gi_wp2_with (first | (have _t := tok1; refine wpListIn_load_cells rfl 63 _ rfl b' (off + k * 19) rfl d.arr _ HC.out Try.underlying63 rfl (size63 _ rfl) ?_; clear _t tok1) | (have _t := tok2; refine wpListIn_box_row rfl 63 _ _ rfl _ d.arr 63 rfl rfl (size63 _ rfl) rfl d.arr_one ?_; intro w3 c3 hlt3 hcl3; clear _t tok2; have y3 := hcl3 3; have y5 := hcl3 5; have y15 := hcl3 15; have y16 := hcl3 16; have y17 := hcl3 17; have y18 := hcl3 18; simp only [Dd.get3, Dd.get5, Dd.get15, Dd.get16, Dd.get17, Dd.get18] at y3 y5 y15 y16 y17 y18; clear hcl3; have C3 := Lib.hid (CH.out.trans c3); clear c3; have kk1 := (C3.out.block _ (lt_of_heap K1.out) (by simp)).trans K1.out; have kk2 := (C3.out.block _ (lt_of_heap K2.out) (by simp)).trans K2.out; have g1 := cell_of_row w3 _ 0 _ _ _ kk1; have f1 := frozen_of_row w3 _ 0 _ _ kk1; have g2 := cell_of_row w3 _ 0 _ _ _ kk2; have f2 := frozen_of_row w3 _ 0 _ _ kk2; have KK1 := Lib.hid kk1; have KK2 := Lib.hid kk2; clear kk1 kk2))
          go_roundw
          case rel => exact ⟨k + 1, by omega, by go_num, fun m d' hm hd' => by
            rcases Nat.lt_succ_iff_lt_or_eq.1 hm with h | rfl
            · exact NO.out m d' h hd'
            · rw [HD.out] at hd'; cases hd'; exact HB.out, C3.out⟩
          case measure => simp [intOf]; omega
      · have hkk : k = l.length := by omega
        subst hkk
        have hall : ∀ d ∈ l, badD d = false := fun d hd => by
          obtain ⟨j, hj, rfl⟩ := List.mem_iff_getElem.1 hd
          exact NO.out j _ hj (List.getElem?_eq_getElem hj)
        have hany : l.any badD = false := by
          rw [List.any_eq_false]; intro d hd; simp [hall d hd]
        have ALL := Lib.hid hall
        have F1 := Lib.hid (show lateI c t f r l = fstLate (lateD own turn) l 0 from by rw [E1.out, if_neg (by simp [hany])])
        have F2 := Lib.hid (show lateE c t f r l = 0 from by rw [E2.out, if_neg (by simp [hany])])
        have CH := Lib.hid hchg
        have kk1 := (hchg.block _ (lt_of_heap K1.out) (by simp)).trans K1.out
        have kk2 := (hchg.block _ (lt_of_heap K2.out) (by simp)).trans K2.out
        have KK1 := Lib.hid kk1
        have KK2 := Lib.hid kk2
        clear hany hall hchg hk hkn E1 E2 kk1 kk2
        gi_wp2_with fail
        refine ⟨trivial, (callsIn_wide.2 (mk_late _ own turn a0 l.length c0)).mono ?_⟩
        rintro e w5 ⟨rfl, rfl⟩
        gi_wp2_with fail
        obtain ⟨W0, hW0⟩ : ∃ W0, ((wr.alloc (.cells #[.int .i64 own] 3)).alloc (.cells #[.int .i64 turn] 3)).alloc (.cells #[.slice a0 l.length c0] 39) = W0 := ⟨_, rfl⟩
        have cw : Chg [] wr W0 := hW0 ▸ ((((Chg.refl [] wr).alloc _).alloc _).alloc _)
        have hs0 : W0.heap.size = wr.heap.size + 3 := by rw [← hW0]; simp
        have bo : W0.cell? ⟨wr.heap.size, 0, none⟩ = some (.int .i64 own) := by
          refine cell_of_row W0 _ 0 #[.int .i64 own] 3 (0, 0) ?_
          rw [← hW0]
          exact (Below.heap_alloc _ _ _ (by rw [World.size_alloc, World.size_alloc]; omega)).trans ((Below.heap_alloc _ _ _ (by rw [World.size_alloc]; omega)).trans (heap_alloc_new _ _))
        have bt : W0.cell? ⟨wr.heap.size + 1, 0, none⟩ = some (.int .i64 turn) := by
          refine cell_of_row W0 _ 0 #[.int .i64 turn] 3 (0, 0) ?_
          have h := heap_alloc_new (wr.alloc (.cells #[.int .i64 own] 3)) (.cells #[.int .i64 turn] 3)
          rw [World.size_alloc] at h
          rw [← hW0]
          exact (Below.heap_alloc _ _ _ (by rw [World.size_alloc, World.size_alloc]; omega)).trans h
        have bl : W0.cell? ⟨wr.heap.size + 1 + 1, 0, none⟩ = some (.slice a0 l.length c0) := by
          refine cell_of_row W0 _ 0 #[.slice a0 l.length c0] 39 (0, 0) ?_
          have h := heap_alloc_new ((wr.alloc (.cells #[.int .i64 own] 3)).alloc (.cells #[.int .i64 turn] 3)) (.cells #[.slice a0 l.length c0] 39)
          rw [World.size_alloc, World.size_alloc] at h
          rw [← hW0]
          exact h
        have CW := Lib.hid ((C2.out.trans CH.out).trans cw)
        have kk1 := (cw.block _ (lt_of_heap KK1.out) (by simp)).trans KK1.out
        have kk2 := (cw.block _ (lt_of_heap KK2.out) (by simp)).trans KK2.out
        have hwr : w.heap.size ≤ wr.heap.size := (C2.out.trans CH.out).size
        rw [hW0]
        clear hW0 cw CH K1 K2 C2 KK1 KK2
        generalize wr.heap.size = B at *
        clear wr
        have RD0 := Lib.hid (H.out.keep0 CW.out)
        have i1 := cell_of_row W0 _ 0 _ _ _ kk1
        have j1 := frozen_of_row W0 _ 0 _ _ kk1
        have i2 := cell_of_row W0 _ 0 _ _ _ kk2
        have j2 := frozen_of_row W0 _ 0 _ _ kk2
        have hB0 : Below w.heap.size w W0 := CW.out.below (Nat.le_refl _) (by simp)
        have hsB : w.heap.size + 1 + 1 < W0.heap.size := lt_of_heap kk2
        have LT := Lib.hid (show lates (lateD own turn) l l.length = lates (lateD own turn) l l.length from rfl)
        refine wpIn_rangeFunc_ownF (α := Nat) rfl (by omega) (gf := 41) (lb := #[.pointer (some ⟨B + 1 + 1, 0, none⟩), .pointer (some ⟨B, 0, none⟩), .pointer (some ⟨B + 1, 0, none⟩)]) rfl trivial (enters_of Try.func41 (by kernel_rfl) rfl)
          (show SeqStopsK Fence.wide 4 Try.prog 41 #[.pointer (some ⟨B + 1 + 1, 0, none⟩), .pointer (some ⟨B, 0, none⟩), .pointer (some ⟨B + 1, 0, none⟩)] (fun x : Nat => #[Value.int .i64 (x : Nat)]) (Below W0.heap.size) (fun ys => ys = lates (lateD own turn) l l.length) (fun pre => pre <+: lates (lateD own turn) l l.length) l.length W0 from
            fun lp J Jx W hBW hJ hJx hY h0 => late1_in 4 (by omega) lp (B + 1 + 1) B (B + 1) W0.heap.size a0 c0 l own turn J Jx W hJ hY ((hBW.cell (p := ⟨B + 1 + 1, 0, none⟩) (show B + 1 + 1 < W0.heap.size by omega)).trans bl) ((hBW.cell (p := ⟨B, 0, none⟩) (show B < W0.heap.size by omega)).trans bo) ((hBW.cell (p := ⟨B + 1, 0, none⟩) (show B + 1 < W0.heap.size by omega)).trans bt) (by omega) (by omega) hBW.size
              (fun k hk => by
                obtain ⟨b', off, c', d, e, hb', hd, hcell⟩ := deedAt RD0.out hk
                simp only [Value.slice.injEq, true_and] at e
                exact ⟨b', off, c', d, e.1, e.2, hb', hd, fun j hj => (hBW.cell (p := ⟨b', off + k * 19 + j, none⟩) hb').trans (hcell j hj)⟩) OK.out ALL.out hR hW hlen h0)
          belowK_t (belowK_b (Nat.le_refl _)) (Below.refl _ _) (fun _ => rfl)
          (fun pre W => (pre = [] ∧ W.cell? ⟨w.heap.size + 1, 0, none⟩ = some (.int .i64 0) ∧ W.frozen? ⟨w.heap.size + 1, 0, none⟩ = false ∧ W.cell? ⟨w.heap.size + 1 + 1, 0, none⟩ = some (.int .i64 0) ∧ W.frozen? ⟨w.heap.size + 1 + 1, 0, none⟩ = false) ∧ Below w.heap.size w W)
          (fun c pre W => (c = .ret ∧ ∃ x : Nat, pre = [x] ∧ W.cell? ⟨w.heap.size + 1, 0, none⟩ = some (.int .i64 (x : Nat)) ∧ W.cell? ⟨w.heap.size + 1 + 1, 0, none⟩ = some (.int .i64 0)) ∧ Below w.heap.size w W)
          (OwnFrom.and (Own.from (fun s A B row hs hg hr => ⟨hs.1, cell_kept hs.2.1 hg hr, (frozen_kept hs.2.1 hg hr).trans hs.2.2.1, cell_kept hs.2.2.2.1 hg hr, (frozen_kept hs.2.2.2.1 hg hr).trans hs.2.2.2.2⟩) _) (ownFrom_below (Nat.le_refl _) (by omega)))
          (fun c => OwnFrom.and (Own.from (fun s A B row hs hg hr => ⟨hs.1, by obtain ⟨x, e, g1, g2⟩ := hs.2; exact ⟨x, e, cell_kept g1 hg hr, cell_kept g2 hg hr⟩⟩) _) (ownFrom_below (Nat.le_refl _) (by omega)))
          ⟨⟨rfl, i1, j1, i2, j2⟩, hB0⟩
          (fun x => { tmps := #[Value.agg #[Value.int IntKind.i64 c, Value.int IntKind.i64 t, Value.int IntKind.i64 f, Value.int IntKind.i64 r], Value.slice a0 l.length c0, Value.pointer (some ⟨w.heap.size, 0, Option.none⟩), undef, Value.pointer (some ⟨w.heap.size + 1, 0, Option.none⟩), Value.pointer (some ⟨w.heap.size + 1 + 1, 0, Option.none⟩), Value.int IntKind.i64 own, Value.int IntKind.i64 0, Value.int IntKind.i64 turn, Value.int IntKind.i64 0, undef, u11, Value.int IntKind.i64 (x : Nat), Value.tuple #[Value.int IntKind.i64 own, Value.int IntKind.i64 0], Value.agg #[Value.int IntKind.i64 c, Value.int IntKind.i64 t, Value.int IntKind.i64 f, Value.int IntKind.i64 r], Value.tuple #[Value.int IntKind.i64 own, Value.int IntKind.i64 0], Value.int IntKind.i64 own, Value.int IntKind.i64 0, Value.int IntKind.i64 0, Value.bool false, undef, Value.tuple #[Value.int IntKind.i64 turn, Value.int IntKind.i64 0], Value.agg #[Value.int IntKind.i64 c, Value.int IntKind.i64 t, Value.int IntKind.i64 f, Value.int IntKind.i64 r], Value.tuple #[Value.int IntKind.i64 turn, Value.int IntKind.i64 0], Value.int IntKind.i64 turn, Value.int IntKind.i64 0, Value.slice a0 l.length c0, Value.int IntKind.i64 ↑l.length, Value.int IntKind.i64 ↑l.length, Value.bool false, u30, u31, u32, u33, u34, u35, u36, u37, u38, u39, u40, u41, u42, u43, u44, u45, u46, u47, u48, u49, u50, u51, u52, u53, u54, Value.int IntKind.i64 own, Value.int IntKind.i64 turn, Value.slice a0 l.length c0, Value.func (Fn.func 41) #[] #[Value.pointer (some ⟨B + 1 + 1, 0, Option.none⟩), Value.pointer (some ⟨B, 0, Option.none⟩), Value.pointer (some ⟨B + 1, 0, Option.none⟩)], Value.int IntKind.i64 (x : Nat), undef], defers := [] }) ?assign ?body ?done ?stop
        case assign =>
          intro lp x W K hK
          gi_wp2
          exact hK
        case body =>
          rintro lp pre x W ⟨⟨rfl, g1, f1, g2, f2⟩, hB⟩ _
          gi_wp2
          have r := two_in (x' := (x : Int)) (y' := 0) g1 g2
          exact ⟨(KeepsOthers.setCell _ _ _).trans (KeepsOthers.setCell _ _ _), ⟨rfl, x, rfl, r.1, r.2⟩, (hB.setCell (p := ⟨w.heap.size + 1, 0, none⟩) (show w.heap.size ≤ w.heap.size + 1 by omega) _).setCell (p := ⟨w.heap.size + 1 + 1, 0, none⟩) (show w.heap.size ≤ w.heap.size + 1 + 1 by omega) _⟩
        case done =>
          rintro D ys W hD rfl ⟨⟨hne, g1, f1, g2, f2⟩, hB⟩ hK
          have r := two_in (x' := -1) (y' := 0) g1 g2
          have R1 := Lib.hid r.1
          have R2 := Lib.hid r.2
          clear r
          gi_wp2
          have hK' := ((KeepsOthers.setCell W ⟨w.heap.size + 1, 0, none⟩ (.int .i64 (-1))).trans (KeepsOthers.setCell _ ⟨w.heap.size + 1 + 1, 0, none⟩ (.int .i64 0))).same D _ hK rfl
          refine ⟨by simp, .inl ⟨_, _, rfl, run_takeDeferred hK', ?_⟩⟩
          have hc5 := cell_kept R1.out (grownBy_putObj' _ D (.deferred none)) (fun r e => by cases e; exact ⟨_, hK', rfl⟩)
          have hc6 := cell_kept R2.out (grownBy_putObj' _ D (.deferred none)) (fun r e => by cases e; exact ⟨_, hK', rfl⟩)
          have hno : ∀ d ∈ l, lateD own turn d = false := fun d hd => by
            obtain ⟨j, hj, rfl⟩ := List.mem_iff_getElem.1 hd
            cases hx : lateD own turn l[j] with
            | false => rfl
            | true =>
              have : j ∈ lates (lateD own turn) l l.length := by simp [lates, hj, hx]
              rw [hne] at this; cases this
          refine ⟨.tuple #[.int .i64 (-1), .int .i64 0], by simp [results, Try.results22, go_sem, hc5, hc6], ?_⟩
          rw [F1.out, F2.out, fst_none _ _ _ hno]
          exact ⟨rfl, ((hB.setCell (p := ⟨w.heap.size + 1, 0, none⟩) (show w.heap.size ≤ w.heap.size + 1 by omega) _).setCell (p := ⟨w.heap.size + 1 + 1, 0, none⟩) (show w.heap.size ≤ w.heap.size + 1 + 1 by omega) _).trans (belowK_b (w := w) (Nat.le_refl _) _ D _ _ (by omega) hK' rfl rfl)⟩
        case stop =>
          rintro D c pre W hD hpre ⟨⟨rfl, x, rfl, g1, g2⟩, hB⟩ hK
          gi_wp2
          refine ⟨by simp, .inl ⟨_, _, rfl, run_takeDeferred hK, ?_⟩⟩
          have hc5 := cell_kept g1 (grownBy_putObj' _ D (.deferred none)) (fun r e => by cases e; exact ⟨_, hK, rfl⟩)
          have hc6 := cell_kept g2 (grownBy_putObj' _ D (.deferred none)) (fun r e => by cases e; exact ⟨_, hK, rfl⟩)
          refine ⟨.tuple #[.int .i64 (x : Nat), .int .i64 0], by simp [results, Try.results22, go_sem, hc5, hc6], ?_⟩
          rw [F1.out, F2.out, first_of_lates hpre]
          exact ⟨rfl, hB.trans (belowK_b (w := w) (Nat.le_refl _) W D _ _ (by omega) hK rfl rfl)⟩
  · have E1 := Lib.hid (show lateI c t f r l = 0 from if_neg hc)
    have E2 := Lib.hid (show lateE c t f r l = 1 from if_neg hc)
    have E3 := Lib.hid (show errB c t f r = 1 from if_neg hc)
    have E4 := Lib.hid (show readB c t f r = 0 from if_neg hc)
    clear hc
    gi_wp2_with fail
    refine ⟨trivial, (callsIn_wide.2 (reader_any _ c t f r)).mono ?_⟩
    rintro e w1 ⟨rfl, c1⟩
    obtain ⟨k0, k1, k2, kl⟩ := late_boxes c1
    have C1 := Lib.hid ((((Chg.refl [] w).alloc _).alloc _).alloc _ |>.trans c1)
    rw [E3.out, E4.out]
    clear c1 k0
    have g1 := cell_of_row w1 _ 0 _ _ _ k1
    have f1 := frozen_of_row w1 _ 0 _ _ k1
    have g2 := cell_of_row w1 _ 0 _ _ _ k2
    have f2 := frozen_of_row w1 _ 0 _ _ k2
    have KK1 := Lib.hid k1
    have KK2 := Lib.hid k2
    clear k1 k2
    gi_wp2
    obtain ⟨r1, r2⟩ := two_cells (x' := 0) (y' := 1) KK1.out KK2.out
    refine ⟨.tuple #[.int .i64 0, .int .i64 1], by simp [results, Try.results22, go_sem, r1, r2], ?_⟩
    rw [E1.out, E2.out]
    exact ⟨rfl, ((C1.out.setCell (.inr (by simp)) _).setCell (.inr (by simp; omega)) _).below (Nat.le_refl _) (by simp)⟩

end Go.Proofs.Ytldhlkkclmifmaa
