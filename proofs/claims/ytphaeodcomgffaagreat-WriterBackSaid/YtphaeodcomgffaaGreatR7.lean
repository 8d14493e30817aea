import Derived.Test.YtphaeodcomgffaaGreatR3
import Derived.Deep.RegionHeldLaw
import Derived.Test.YtphaeodcomgffaaGreatMO
import Derived.Defers
import Derived.Recover
import Derived.Laws.Pointers
set_option linter.unusedVariables false
set_option linter.unusedSimpArgs false
namespace Go.Proofs.YtphaeodcomgffaaGreat
open Go.RowKit

theorem putS_nodup {most : Int} {l : List (Int × Nat)} {c : Int} {x : Nat} {q : List (Int × Nat) × Bool} (h : putS most l c x = some q) (hn : (l.map (·.1)).Nodup) : (q.1.map (·.1)).Nodup := by
  unfold putS at h
  cases hw : wrote l c with
  | none =>
    rw [hw] at h
    simp only at h
    split at h
    · cases h
    · cases h
      rw [List.map_append, List.nodup_append]
      refine ⟨hn, by simp, ?_⟩
      intro a ha b hb
      simp at hb
      subst hb
      obtain ⟨t, ht, rfl⟩ := List.mem_map.1 ha
      exact wrote_none_mem hw t ht
  | some y =>
    rw [hw] at h
    cases h
    simp only
    rw [rewrite_fst]
    exact hn
set_option maxRecDepth 100000 in
set_option maxHeartbeats 1000000 in
theorem write_tag {ro : Nat → Nat} {r : Nat} {w : World} {M C tag code m p} (h : MIs ro r w M C tag code m p) (ht : tag ≠ 2) :
    Calls Tryz.prog 165 #[ptr M] w (Or2 ro r w M C tag code m (.error 81)) := by
  have m0 : Mv ro [] w (setRo ro w.heap.size (r + 11)) (w.alloc (.cells #[.int .i64 0, .int .i64 0, .float .f64 0, .bool false] 139)) := ((Mv.refl ro [] w).alloc _).give (Nat.le_refl _)
  have h0 := h.keep0 m0
  have hc := h.blk.cell 4
  have hlt := h.blk.lt
  unfold mcells at hc
  simp only [List.getElem?_toArray, List.getElem?_cons_succ, List.getElem?_cons_zero] at hc
  have hm := must_bad 81 (by decide)
  unfold faultE at hm
  have ht' : (tag != 2) = true := by simpa using ht
  have M0 := Lib.hid m0
  clear h m0 ht
  simp only [ptr]
  go_enter Tryz.func165, Tryz.ntmps165
  go_wp2_with (go_at_call 129; refine (hm _).mono ?_; rintro e w1 ⟨rfl, rfl⟩)
  exact ⟨rfl, rfl, _, p, h0, M0.out.mono (by simp)⟩
set_option maxRecDepth 100000 in
set_option maxHeartbeats 1000000 in
theorem write_addr {ro : Nat → Nat} {r : Nat} {w : World} {M C code m p} {k : List Nat} {a : Nat} (h : MIs ro r w M C 2 code m p) (hs : m.stack = k ++ [a]) (hl : k.length < 64) (hi : indexF a C.cells = none) :
    Calls Tryz.prog 165 #[ptr M] w (Or2 ro r w M C 2 code m (.error 50)) := by
  have m0 : Mv ro [] w (setRo ro w.heap.size (r + 11)) (w.alloc (.cells #[.int .i64 0, .int .i64 0, .float .f64 0, .bool false] 139)) := ((Mv.refl ro [] w).alloc _).give (Nat.le_refl _)
  have h0 := h.keep0 m0
  have hc := h.blk.cell 4
  have hlt := h.blk.lt
  unfold mcells at hc
  simp only [List.getElem?_toArray, List.getElem?_cons_succ, List.getElem?_cons_zero] at hc
  have AW := address_no h0 hs hl hi
  unfold faultE at AW
  have M0 := Lib.hid m0
  clear h m0 hs hi
  simp only [ptr] at AW ⊢
  go_enter Tryz.func165, Tryz.ntmps165
  go_wp2_with (go_at_call 203; refine AW.mono ?_; rintro e w1 ⟨rfl, q, rfl⟩)
  exact ⟨rfl, rfl, _, p, h0.keep0 ((Mv.refl _ [] _).drewN q), (M0.out.mono (by simp)).drewN q⟩
set_option maxRecDepth 100000 in
set_option maxHeartbeats 1000000 in
theorem write_many {ro : Nat → Nat} {r : Nat} {w : World} {M C code m p} {k : List Nat} {a x : Nat} {c : Int} (h : MIs ro r w M C 2 code m p) (hs : m.stack = (k ++ [x]) ++ [a]) (hl : k.length < 63) (hi : indexF a C.cells = some c) (hb : (m.writes.length : Int) ≤ C.writes) (hm : C.writes ≤ 32) (hw : putS C.writes m.writes c (fx x) = none) :
    Calls Tryz.prog 165 #[ptr M] w (Or2 ro r w M C 2 code m (.error 70)) := by
  have m0 : Mv ro [] w (setRo ro w.heap.size (r + 11)) (w.alloc (.cells #[.int .i64 0, .int .i64 0, .float .f64 0, .bool false] 139)) := ((Mv.refl ro [] w).alloc _).give (Nat.le_refl _)
  have h0 := h.keep0 m0
  have hc := h.blk.cell
  have hlt := h.blk.lt
  unfold mcells at hc
  have AW := address_ok h0 hs (by simp; omega) hi
  have KW := fun q => fpick_walk _ (r + 1) (r + 2) _ p.N p.vn m.stack 64 1 (h0.keep0 ((Mv.refl _ [] _).drewN q)).num (by rw [hs]; simp) (by rw [hs]; simp; omega)
  rw [show m.stack.getD (m.stack.length - 1 - 1) 0 = x by rw [hs]; simp] at KW
  have BW := fun q => bput_walk _ (r + 5) _ p.B p.D p.vw m.writes C.writes c x (h0.keep0 ((Mv.refl _ [] _).drewN q)).buf h.nd hb hm
  rw [hw] at BW
  have hm := must_bad 70 (by decide)
  unfold faultE at hm
  have M0 := Lib.hid m0
  clear h m0 hs hi hw
  simp only [ptr] at AW KW BW hc ⊢
  go_enter Tryz.func165, Tryz.ntmps165
  go_wp2_with (first
    | (go_at_call 203; refine AW.mono ?_; rintro e w1 ⟨rfl, q, rfl⟩)
    | (go_at_call 205; refine (KW _).mono ?_; rintro e w1 ⟨rfl, q2, rfl⟩)
    | (go_at_call 206; refine (BW _).mono ?_; rintro e w1 ⟨rfl, q3, rfl⟩)
    | (go_at_call 129; refine (hm _).mono ?_; rintro e w1 ⟨rfl, rfl⟩))
  exact ⟨rfl, rfl, _, p, h0.keep0 ((Mv.refl _ [] _).drewN _), (M0.out.mono (by simp)).drewN _⟩
set_option maxRecDepth 100000 in
set_option maxHeartbeats 1000000 in
theorem write_ok {ro : Nat → Nat} {r : Nat} {w : World} {M C code m p} {k : List Nat} {a x : Nat} {c : Int} {l : List (Int × Nat)} {f : Bool} (h : MIs ro r w M C 2 code m p) (hs : m.stack = (k ++ [x]) ++ [a]) (hl : k.length < 63) (hi : indexF a C.cells = some c) (hb : (m.writes.length : Int) ≤ C.writes) (hm : C.writes ≤ 32) (hw : putS C.writes m.writes c (fx x) = some (l, f)) :
    Calls Tryz.prog 165 #[ptr M] w (UpM ro r w M C 2 code { m with stack := k, writes := l } (askV 3 c x f)) := by
  have m0 : Mv ro [] w (setRo ro w.heap.size (r + 11)) (w.alloc (.cells #[.int .i64 0, .int .i64 0, .float .f64 0, .bool false] 139)) := ((Mv.refl ro [] w).alloc _).give (Nat.le_refl _)
  have h0 := h.keep0 m0
  have hc := h.blk.cell
  have hlt := h.blk.lt
  unfold mcells at hc
  have AW := address_ok h0 hs (by simp; omega) hi
  have KW := fun q => fpick_walk _ (r + 1) (r + 2) _ p.N p.vn m.stack 64 1 (h0.keep0 ((Mv.refl _ [] _).drewN q)).num (by rw [hs]; simp) (by rw [hs]; simp; omega)
  rw [show m.stack.getD (m.stack.length - 1 - 1) 0 = x by rw [hs]; simp] at KW
  have BW := fun q => bput_walk _ (r + 5) _ p.B p.D p.vw m.writes C.writes c x (h0.keep0 ((Mv.refl _ [] _).drewN q)).buf h.nd hb hm
  have bx := fun q => (Blk.new ro (r + 11) w #[.int .i64 0, .int .i64 0, .float .f64 0, .bool false] 139).keep ((Mv.refl _ [] _).drewN q) (by simp)
  rw [hw] at BW
  have ND := Lib.hid (putS_nodup hw h.nd)
  have HS := Lib.hid hs
  have sf := run_store_float
  have M0 := Lib.hid m0
  clear h m0 hs hi hw
  simp only [ptr] at AW KW BW hc ⊢
  have tk1 : True := trivial
  go_enter Tryz.func165, Tryz.ntmps165
  go_wp2_with (first
    | (go_at_call 203; refine AW.mono ?_; rintro e w1 ⟨rfl, q, rfl⟩)
    | (go_at_call 205; refine (KW _).mono ?_; rintro e w1 ⟨rfl, q2, rfl⟩)
    | (go_at_call 206; refine (BW _).mono ?_; rintro e w1 ⟨rfl, ro1, v1, b1, m1⟩; have h1 := (h0.keep0 ((Mv.refl _ [] _).drewN _)).setBuf m1 b1 ND.out; have x1 := (bx _).keep m1 (by simp <;> omega); have tk2 : True := trivial)
    | (go_at_call 129; refine (must_ok _).mono ?_; rintro e w2 ⟨rfl, rfl⟩)
    | (go_at_call 167; have _t := tk1; clear tk1; refine (pop_snoc h1 HS.out (by simp; omega)).mono ?_; rintro e w3 ⟨rfl, ro3, v3, h3, m3⟩; have x3 := x1.keep m3 (by simp))
    | (go_at_call 167; refine (pop_snoc (k := k) (a := x) h3 rfl (by omega)).mono ?_; rintro e w4 ⟨rfl, ro4, v4, h4, m4⟩; have x4 := x3.keep m4 (by simp); have bc := x4.cell; have bf := x4.free))
  refine bodyPost_ret (v := .agg #[.int .i64 3, .int .i64 c, .float .f64 x, .bool f]) (by simp [results, Tryz.results165, go_sem, bc, bf]) rfl ?_
  have hR : ro4 w.heap.size ∈ [r + 11] := by rw [x4.role]; simp
  have n0 := Nat.le_refl w.heap.size
  exact ⟨rfl, _, _, h4.keep (((((Mv.refl _ _ _).setCell hR _).setCell hR _).setCell hR _).setCell hR _) (by simp), ((((((((M0.out.mono (by simp)).drewN _).trans (m1.mono (by simp [mR]))).trans ((m3.trans m4).mono fun _ => sR))).setNew n0 _).setNew n0 _).setNew n0 _).setNew n0 _⟩
end Go.Proofs.YtphaeodcomgffaaGreat
set_option linter.unusedVariables false
set_option linter.unusedSimpArgs false
namespace Go.Proofs.YtphaeodcomgffaaGreat
open Go.RowKit

/-- The roles behind do's two boxes. -/
def ro2 (ro : Nat → Nat) (n r : Nat) : Nat → Nat := setRo (setRo ro n (r + 11)) (n + 1) (r + 12)
def insV (o n : Int) (x : Nat) : Value := .agg #[.int .i64 o, .int .i64 n, .float .f64 x]
def boxW (w : World) (o n : Int) (x : Nat) : World := (w.alloc (.cells #[.int .i64 o, .int .i64 n, .float .f64 x] 117)).alloc (.cells #[.int .i64 0, .int .i64 0, .float .f64 0, .bool false] 139)
theorem box_mv (ro : Nat → Nat) (r : Nat) (w : World) (o n : Int) (x : Nat) : Mv ro [] w (ro2 ro w.heap.size r) (boxW w o n x) := ((((Mv.refl ro [] w).alloc _).alloc _).give (Nat.le_refl _)).give (by omega)
theorem box_ins (ro : Nat → Nat) (r : Nat) (w : World) (o n : Int) (x : Nat) : Blk (ro2 ro w.heap.size r) (r + 11) (boxW w o n x) w.heap.size #[.int .i64 o, .int .i64 n, .float .f64 x] 117 := by
  refine ⟨?_, ?_⟩
  · unfold boxW
    rw [Below.heap_alloc _ _ _ (by simp)]
    exact heap_alloc_new _ _
  · unfold ro2
    rw [setRo_ne (by omega), setRo_at]
theorem box_res (ro : Nat → Nat) (r : Nat) (w : World) (o n : Int) (x : Nat) : Blk (ro2 ro w.heap.size r) (r + 12) (boxW w o n x) (w.heap.size + 1) #[.int .i64 0, .int .i64 0, .float .f64 0, .bool false] 139 := by
  refine ⟨?_, ?_⟩
  · unfold boxW
    simpa using heap_alloc_new (w.alloc (.cells #[.int .i64 o, .int .i64 n, .float .f64 x] 117)) _
  · unfold ro2
    rw [setRo_at]
/-- What do leaves. -/
def DoP (ro : Nat → Nat) (r : Nat) (w : World) (M : Nat) (C : Cfg) (tag : Int) (code : List Ins) (m : Ms) : Except Int (Ms × Ask) → Ending → World → Prop
  | .error x, e, w' => e = faultE x ∧ ∃ ro' p', MIs ro' r w' M C tag code m p' ∧ Mv ro (mR r) w ro' w'
  | .ok x, e, w' => UpM ro r w M C tag code x.1 x.2.v e w'
theorem mR_mv {ro ro0 ro1 : Nat → Nat} {r : Nat} {w W w' : World} (m0 : Mv ro [] w ro0 W) (m1 : Mv ro0 (mR r) W ro1 w') : Mv ro (mR r) w ro1 w' := (m0.mono (by simp)).trans m1

set_option maxRecDepth 100000 in
set_option maxHeartbeats 1000000 in
theorem do_16_err {ro : Nat → Nat} {r : Nat} {w : World} {M C tag code m p} (h : MIs ro r w M C tag code m p) (n : Int) (x : Nat) (er : Int)
    (CW : ∀ ro' W, MIs ro' r W M C tag code m p → Calls Tryz.prog 164 #[ptr M] W (Or2 ro' r W M C tag code m (.error er))) :
    Calls Tryz.prog 131 #[ptr M, insV 16 n x] w (DoP ro r w M C tag code m (.error er)) := by
  have KW := CW _ _ (h.keep0 (box_mv ro r w 16 n x))
  have M0 := Lib.hid (box_mv ro r w 16 n x)
  have sf := run_store_float
  clear CW h
  unfold boxW at KW
  simp only [ptr, insV] at KW ⊢
  go_enter Tryz.func131, Tryz.ntmps131
  go_wp2_with (go_at_call 164; refine KW.mono ?_; rintro e w1 ⟨he, ro1, p1, h1, m1⟩; unfold faultE at he; subst he)
  exact ⟨rfl, rfl, ro1, p1, h1, mR_mv M0.out m1⟩
set_option maxRecDepth 100000 in
set_option maxHeartbeats 1000000 in
theorem do_16_ok {ro : Nat → Nat} {r : Nat} {w : World} {M C tag code m p} (h : MIs ro r w M C tag code m p) (n : Int) (x : Nat) (m' : Ms) (a : Ask)
    (CW : ∀ ro' W, MIs ro' r W M C tag code m p → Calls Tryz.prog 164 #[ptr M] W (UpM ro' r W M C tag code m' a.v)) :
    Calls Tryz.prog 131 #[ptr M, insV 16 n x] w (DoP ro r w M C tag code m (.ok (m', a))) := by
  have KW := CW _ _ (h.keep0 (box_mv ro r w 16 n x))
  have rx := box_res ro r w 16 n x
  have M0 := Lib.hid (box_mv ro r w 16 n x)
  have sf := run_store_float
  obtain ⟨a1, a2, a3, a4⟩ := a
  clear CW h
  unfold boxW at KW rx
  simp only [ptr, insV, Ask.v] at KW ⊢
  go_enter Tryz.func131, Tryz.ntmps131
  go_wp2_with (go_at_call 164; refine KW.mono ?_; rintro e w1 ⟨rfl, ro1, p1, h1, m1⟩; have r1 := rx.keep m1 (by simp [mR]); have bc := r1.cell; have bf := r1.free)
  refine bodyPost_ret (v := .agg #[.int .i64 a1, .int .i64 a2, .float .f64 a3, .bool a4]) (by simp [results, Tryz.results131, go_sem, bc, bf]) rfl ?_
  have hR : ro1 (w.heap.size + 1) ∈ [r + 12] := by rw [r1.role]; simp
  have n0 := Nat.le_succ w.heap.size
  exact ⟨rfl, ro1, p1, h1.keep (((((Mv.refl _ _ _).setCell hR _).setCell hR _).setCell hR _).setCell hR _) (by simp), ((((mR_mv M0.out m1).setNew n0 _).setNew n0 _).setNew n0 _).setNew n0 _⟩

set_option maxRecDepth 100000 in
set_option maxHeartbeats 1000000 in
theorem do_17_err {ro : Nat → Nat} {r : Nat} {w : World} {M C tag code m p} (h : MIs ro r w M C tag code m p) (n : Int) (x : Nat) (er : Int)
    (CW : ∀ ro' W, MIs ro' r W M C tag code m p → Calls Tryz.prog 165 #[ptr M] W (Or2 ro' r W M C tag code m (.error er))) :
    Calls Tryz.prog 131 #[ptr M, insV 17 n x] w (DoP ro r w M C tag code m (.error er)) := by
  have KW := CW _ _ (h.keep0 (box_mv ro r w 17 n x))
  have M0 := Lib.hid (box_mv ro r w 17 n x)
  have sf := run_store_float
  clear CW h
  unfold boxW at KW
  simp only [ptr, insV] at KW ⊢
  go_enter Tryz.func131, Tryz.ntmps131
  go_wp2_with (go_at_call 165; refine KW.mono ?_; rintro e w1 ⟨he, ro1, p1, h1, m1⟩; unfold faultE at he; subst he)
  exact ⟨rfl, rfl, ro1, p1, h1, mR_mv M0.out m1⟩
set_option maxRecDepth 100000 in
set_option maxHeartbeats 1000000 in
theorem do_17_ok {ro : Nat → Nat} {r : Nat} {w : World} {M C tag code m p} (h : MIs ro r w M C tag code m p) (n : Int) (x : Nat) (m' : Ms) (a : Ask)
    (CW : ∀ ro' W, MIs ro' r W M C tag code m p → Calls Tryz.prog 165 #[ptr M] W (UpM ro' r W M C tag code m' a.v)) :
    Calls Tryz.prog 131 #[ptr M, insV 17 n x] w (DoP ro r w M C tag code m (.ok (m', a))) := by
  have KW := CW _ _ (h.keep0 (box_mv ro r w 17 n x))
  have rx := box_res ro r w 17 n x
  have M0 := Lib.hid (box_mv ro r w 17 n x)
  have sf := run_store_float
  obtain ⟨a1, a2, a3, a4⟩ := a
  clear CW h
  unfold boxW at KW rx
  simp only [ptr, insV, Ask.v] at KW ⊢
  go_enter Tryz.func131, Tryz.ntmps131
  go_wp2_with (go_at_call 165; refine KW.mono ?_; rintro e w1 ⟨rfl, ro1, p1, h1, m1⟩; have r1 := rx.keep m1 (by simp [mR]); have bc := r1.cell; have bf := r1.free)
  refine bodyPost_ret (v := .agg #[.int .i64 a1, .int .i64 a2, .float .f64 a3, .bool a4]) (by simp [results, Tryz.results131, go_sem, bc, bf]) rfl ?_
  have hR : ro1 (w.heap.size + 1) ∈ [r + 12] := by rw [r1.role]; simp
  have n0 := Nat.le_succ w.heap.size
  exact ⟨rfl, ro1, p1, h1.keep (((((Mv.refl _ _ _).setCell hR _).setCell hR _).setCell hR _).setCell hR _) (by simp), ((((mR_mv M0.out m1).setNew n0 _).setNew n0 _).setNew n0 _).setNew n0 _⟩

set_option maxRecDepth 100000 in
set_option maxHeartbeats 1000000 in
theorem do_19 {ro : Nat → Nat} {r : Nat} {w : World} {M C tag code m p} (h : MIs ro r w M C tag code m p) (n : Int) (x : Nat) :
    Calls Tryz.prog 131 #[ptr M, insV 19 n x] w (DoP ro r w M C tag code m (.ok (m.ends 2 n 0))) := by
  have KW := ends_walk (h.keep0 (box_mv ro r w 19 n x)) 2 n 0
  have rx := box_res ro r w 19 n x
  have M0 := Lib.hid (box_mv ro r w 19 n x)
  have sf := run_store_float
  clear h
  unfold boxW at KW rx
  simp only [ptr, insV, Ask.v, askEnd] at KW ⊢
  go_enter Tryz.func131, Tryz.ntmps131
  go_wp2_with (go_at_call 128; refine KW.mono ?_; rintro e w1 ⟨rfl, ro1, p1, h1, m1⟩; have r1 := rx.keep m1 (by simp [mR]); have bc := r1.cell; have bf := r1.free)
  refine bodyPost_ret (v := .agg #[.int .i64 4, .int .i64 0, .float .f64 0, .bool false]) (by simp [results, Tryz.results131, go_sem, bc, bf]) rfl ?_
  have hR : ro1 (w.heap.size + 1) ∈ [r + 12] := by rw [r1.role]; simp
  have n0 := Nat.le_succ w.heap.size
  exact ⟨rfl, ro1, p1, h1.keep (((((Mv.refl _ _ _).setCell hR _).setCell hR _).setCell hR _).setCell hR _) (by simp), ((((mR_mv M0.out m1).setNew n0 _).setNew n0 _).setNew n0 _).setNew n0 _⟩

set_option maxRecDepth 100000 in
set_option maxHeartbeats 1000000 in
theorem do_20 {ro : Nat → Nat} {r : Nat} {w : World} {M C tag code m p} (h : MIs ro r w M C tag code m p) (n : Int) (x : Nat) :
    Calls Tryz.prog 131 #[ptr M, insV 20 n x] w (DoP ro r w M C tag code m (.ok (m.ends 1 0 0))) := by
  have KW := ends_walk (h.keep0 (box_mv ro r w 20 n x)) 1 0 0
  have rx := box_res ro r w 20 n x
  have M0 := Lib.hid (box_mv ro r w 20 n x)
  have sf := run_store_float
  clear h
  unfold boxW at KW rx
  simp only [ptr, insV, Ask.v, askEnd] at KW ⊢
  go_enter Tryz.func131, Tryz.ntmps131
  go_wp2_with (go_at_call 128; refine KW.mono ?_; rintro e w1 ⟨rfl, ro1, p1, h1, m1⟩; have r1 := rx.keep m1 (by simp [mR]); have bc := r1.cell; have bf := r1.free)
  refine bodyPost_ret (v := .agg #[.int .i64 4, .int .i64 0, .float .f64 0, .bool false]) (by simp [results, Tryz.results131, go_sem, bc, bf]) rfl ?_
  have hR : ro1 (w.heap.size + 1) ∈ [r + 12] := by rw [r1.role]; simp
  have n0 := Nat.le_succ w.heap.size
  exact ⟨rfl, ro1, p1, h1.keep (((((Mv.refl _ _ _).setCell hR _).setCell hR _).setCell hR _).setCell hR _) (by simp), ((((mR_mv M0.out m1).setNew n0 _).setNew n0 _).setNew n0 _).setNew n0 _⟩

set_option maxRecDepth 100000 in
set_option maxHeartbeats 1000000 in
theorem do_11 {ro : Nat → Nat} {r : Nat} {w : World} {M C tag code m p} (h : MIs ro r w M C tag code m p) (n : Int) (x : Nat) :
    Calls Tryz.prog 131 #[ptr M, insV 11 n x] w (DoP ro r w M C tag code m (.ok ({ m with place := n }, askNone))) := by
  have hc := h.blk.cell
  have hf := h.blk.free
  have hlt := h.blk.lt
  have H := Lib.hid (h.put1 25 (.int .i64 n) { m with place := n } rfl ⟨rfl, rfl, rfl, rfl, rfl⟩ rfl)
  have hM := h.inR
  have sf := run_store_float
  unfold mcells at hc
  clear h
  simp only [ptr, insV] at hc ⊢
  go_enter Tryz.func131, Tryz.ntmps131
  go_wp2
  refine bodyPost_ret (v := .agg #[.int .i64 0, .int .i64 0, .float .f64 0, .bool false]) (by simp [results, Tryz.results131, go_sem]) rfl ?_
  exact ⟨rfl, ro, p, H.out.keep0 (((Mv.refl _ _ _).alloc _).alloc _), (((Mv.refl _ _ _).setCell hM _).alloc _).alloc _⟩
set_option maxRecDepth 100000 in
set_option maxHeartbeats 1000000 in
theorem do_12 {ro : Nat → Nat} {r : Nat} {w : World} {M C tag code m p} {k : List Nat} {a : Nat} (h : MIs ro r w M C tag code m p) (n : Int) (x : Nat) (hs : m.stack = k ++ [a]) (hl : k.length < 64) :
    Calls Tryz.prog 131 #[ptr M, insV 12 n x] w (DoP ro r w M C tag code m (.ok ({ m with stack := k, place := if trueF a = true then n else m.place }, askNone))) := by
  have PW := pop_snoc (h.keep0 (box_mv ro r w 12 n x).drew) hs hl
  have ix := (box_ins ro r w 12 n x).keep (Mv.refl _ [] _).drew (by simp)
  have ix0 := (box_ins ro r w 12 n x).cell 0
  have rx := (box_res ro r w 12 n x).keep (Mv.refl _ [] _).drew (by simp)
  have M0 := Lib.hid (box_mv ro r w 12 n x).drew
  have TW := true_walk a
  have sf := run_store_float
  clear h hs
  unfold boxW at PW rx ix ix0
  simp only [List.getElem?_toArray, List.getElem?_cons_zero] at ix0
  simp only [ptr, insV] at PW ⊢
  cases hT : trueF a
  · rw [hT] at TW
    simp only [Bool.false_eq_true, if_false, if_true, reduceCtorEq]
    clear hT
    go_enter Tryz.func131, Tryz.ntmps131
    go_wp2
    go_region_held_law (fun w' => w'.cell? ⟨w.heap.size, 0, none⟩ = some (.int .i64 12)) (first | assumption | go_keep) (first
      | (go_at_call 167; refine PW.mono ?_; rintro e w1 ⟨rfl, ro1, v1, h1, m1⟩; have i1 := (ix.keep m1 (by simp)).cell 0; have i2 := (ix.keep m1 (by simp)).cell 1; have r1 := rx.keep m1 (by simp); have bc := r1.cell; have bf := r1.free; have hc := h1.blk.cell 25; unfold mcells at hc; simp only [List.getElem?_toArray, List.getElem?_cons_succ, List.getElem?_cons_zero] at hc i1 i2; have hf := h1.blk.free 25; have ne1 : M ≠ w.heap.size + 1 := (by have := h1.blk.ne r1 (by omega); exact this))
      | (go_at_call 166; refine (TW _).mono ?_; rintro e w2 ⟨rfl, rfl⟩))
    all_goals
      go_wp2
      refine bodyPost_ret (v := .agg #[.int .i64 0, .int .i64 0, .float .f64 0, .bool false]) (by simp [results, Tryz.results131, go_sem, bc, bf, ne1, ne1.symm]) rfl ?_
      have hR : ro1 (w.heap.size + 1) ∈ [r + 12] := by rw [r1.role]; simp
      have n0 := Nat.le_succ w.heap.size
      exact ⟨rfl, ro1, _, h1.keep (((((Mv.refl _ _ _).setCell hR _).setCell hR _).setCell hR _).setCell hR _) (by simp), ((((mR_mv M0.out (m1.mono fun _ => sR)).setNew n0 _).setNew n0 _).setNew n0 _).setNew n0 _⟩
  · rw [hT] at TW
    simp only [Bool.false_eq_true, if_false, if_true, reduceCtorEq]
    clear hT
    go_enter Tryz.func131, Tryz.ntmps131
    go_wp2
    go_region_held_law (fun w' => w'.cell? ⟨w.heap.size, 0, none⟩ = some (.int .i64 12)) (first | assumption | go_keep) (first
      | (go_at_call 167; refine PW.mono ?_; rintro e w1 ⟨rfl, ro1, v1, h1, m1⟩; have i1 := (ix.keep m1 (by simp)).cell 0; have i2 := (ix.keep m1 (by simp)).cell 1; have r1 := rx.keep m1 (by simp); have bc := r1.cell; have bf := r1.free; have hc := h1.blk.cell 25; unfold mcells at hc; simp only [List.getElem?_toArray, List.getElem?_cons_succ, List.getElem?_cons_zero] at hc i1 i2; have hf := h1.blk.free 25; have ne1 : M ≠ w.heap.size + 1 := (by have := h1.blk.ne r1 (by omega); exact this))
      | (go_at_call 166; refine (TW _).mono ?_; rintro e w2 ⟨rfl, rfl⟩))
    all_goals
      go_wp2
      refine bodyPost_ret (v := .agg #[.int .i64 0, .int .i64 0, .float .f64 0, .bool false]) (by simp [results, Tryz.results131, go_sem, bc, bf, ne1, ne1.symm]) rfl ?_
      have hR : ro1 (w.heap.size + 1) ∈ [r + 12] := by rw [r1.role]; simp
      have n0 := Nat.le_succ w.heap.size
      exact ⟨rfl, ro1, _, (h1.put1 25 (.int .i64 n) { m with stack := k, place := n } rfl ⟨rfl, rfl, rfl, rfl, rfl⟩ rfl).keep (((((Mv.refl _ _ _).setCell hR _).setCell hR _).setCell hR _).setCell hR _) (by simp), (((((mR_mv M0.out (m1.mono fun _ => sR)).setCell h1.inR _).setNew n0 _).setNew n0 _).setNew n0 _).setNew n0 _⟩
set_option maxRecDepth 100000 in
set_option maxHeartbeats 1000000 in
theorem do_13 {ro : Nat → Nat} {r : Nat} {w : World} {M C tag code m p} {k : List Nat} {a : Nat} (h : MIs ro r w M C tag code m p) (n : Int) (x : Nat) (hs : m.stack = k ++ [a]) (hl : k.length < 64) :
    Calls Tryz.prog 131 #[ptr M, insV 13 n x] w (DoP ro r w M C tag code m (.ok ({ m with stack := k, place := if trueF a = false then n else m.place }, askNone))) := by
  have PW := pop_snoc (h.keep0 (box_mv ro r w 13 n x).drew) hs hl
  have ix := (box_ins ro r w 13 n x).keep (Mv.refl _ [] _).drew (by simp)
  have ix0 := (box_ins ro r w 13 n x).cell 0
  have rx := (box_res ro r w 13 n x).keep (Mv.refl _ [] _).drew (by simp)
  have M0 := Lib.hid (box_mv ro r w 13 n x).drew
  have TW := true_walk a
  have sf := run_store_float
  clear h hs
  unfold boxW at PW rx ix ix0
  simp only [List.getElem?_toArray, List.getElem?_cons_zero] at ix0
  simp only [ptr, insV] at PW ⊢
  cases hT : trueF a
  · rw [hT] at TW
    simp only [Bool.false_eq_true, if_false, if_true, reduceCtorEq]
    clear hT
    go_enter Tryz.func131, Tryz.ntmps131
    go_wp2
    go_region_held_law (fun w' => w'.cell? ⟨w.heap.size, 0, none⟩ = some (.int .i64 13)) (first | assumption | go_keep) (first
      | (go_at_call 167; refine PW.mono ?_; rintro e w1 ⟨rfl, ro1, v1, h1, m1⟩; have i1 := (ix.keep m1 (by simp)).cell 0; have i2 := (ix.keep m1 (by simp)).cell 1; have r1 := rx.keep m1 (by simp); have bc := r1.cell; have bf := r1.free; have hc := h1.blk.cell 25; unfold mcells at hc; simp only [List.getElem?_toArray, List.getElem?_cons_succ, List.getElem?_cons_zero] at hc i1 i2; have hf := h1.blk.free 25; have ne1 : M ≠ w.heap.size + 1 := (by have := h1.blk.ne r1 (by omega); exact this))
      | (go_at_call 166; refine (TW _).mono ?_; rintro e w2 ⟨rfl, rfl⟩))
    all_goals
      go_wp2
      refine bodyPost_ret (v := .agg #[.int .i64 0, .int .i64 0, .float .f64 0, .bool false]) (by simp [results, Tryz.results131, go_sem, bc, bf, ne1, ne1.symm]) rfl ?_
      have hR : ro1 (w.heap.size + 1) ∈ [r + 12] := by rw [r1.role]; simp
      have n0 := Nat.le_succ w.heap.size
      exact ⟨rfl, ro1, _, (h1.put1 25 (.int .i64 n) { m with stack := k, place := n } rfl ⟨rfl, rfl, rfl, rfl, rfl⟩ rfl).keep (((((Mv.refl _ _ _).setCell hR _).setCell hR _).setCell hR _).setCell hR _) (by simp), (((((mR_mv M0.out (m1.mono fun _ => sR)).setCell h1.inR _).setNew n0 _).setNew n0 _).setNew n0 _).setNew n0 _⟩
  · rw [hT] at TW
    simp only [Bool.false_eq_true, if_false, if_true, reduceCtorEq]
    clear hT
    go_enter Tryz.func131, Tryz.ntmps131
    go_wp2
    go_region_held_law (fun w' => w'.cell? ⟨w.heap.size, 0, none⟩ = some (.int .i64 13)) (first | assumption | go_keep) (first
      | (go_at_call 167; refine PW.mono ?_; rintro e w1 ⟨rfl, ro1, v1, h1, m1⟩; have i1 := (ix.keep m1 (by simp)).cell 0; have i2 := (ix.keep m1 (by simp)).cell 1; have r1 := rx.keep m1 (by simp); have bc := r1.cell; have bf := r1.free; have hc := h1.blk.cell 25; unfold mcells at hc; simp only [List.getElem?_toArray, List.getElem?_cons_succ, List.getElem?_cons_zero] at hc i1 i2; have hf := h1.blk.free 25; have ne1 : M ≠ w.heap.size + 1 := (by have := h1.blk.ne r1 (by omega); exact this))
      | (go_at_call 166; refine (TW _).mono ?_; rintro e w2 ⟨rfl, rfl⟩))
    all_goals
      go_wp2
      refine bodyPost_ret (v := .agg #[.int .i64 0, .int .i64 0, .float .f64 0, .bool false]) (by simp [results, Tryz.results131, go_sem, bc, bf, ne1, ne1.symm]) rfl ?_
      have hR : ro1 (w.heap.size + 1) ∈ [r + 12] := by rw [r1.role]; simp
      have n0 := Nat.le_succ w.heap.size
      exact ⟨rfl, ro1, _, h1.keep (((((Mv.refl _ _ _).setCell hR _).setCell hR _).setCell hR _).setCell hR _) (by simp), ((((mR_mv M0.out (m1.mono fun _ => sR)).setNew n0 _).setNew n0 _).setNew n0 _).setNew n0 _⟩
set_option maxRecDepth 100000 in
set_option maxHeartbeats 1000000 in
theorem do_14 {ro : Nat → Nat} {r : Nat} {w : World} {M C tag code m p} (h : MIs ro r w M C tag code m p) (n : Int) (x : Nat) (hl : m.calls.length < 16) :
    Calls Tryz.prog 131 #[ptr M, insV 14 n x] w (DoP ro r w M C tag code m (.ok ({ m with calls := m.calls ++ [m.place], place := n }, askNone))) := by
  have h0 := h.keep0 (box_mv ro r w 14 n x).drew
  have PW := ipush_walk _ (r + 3) (r + 4) _ p.K p.vk m.calls 16 m.place h0.cal (by omega) (by omega) (by omega)
  have ix := (box_ins ro r w 14 n x).keep (Mv.refl _ [] _).drew (by simp)
  have rx := (box_res ro r w 14 n x).keep (Mv.refl _ [] _).drew (by simp)
  have M0 := Lib.hid (box_mv ro r w 14 n x).drew
  have hcM := h.blk.cell
  have hlt := h.blk.lt
  have sf := run_store_float
  clear h
  unfold boxW at PW rx ix
  unfold mcells at hcM
  simp only [ptr, insV] at PW hcM ⊢
  go_enter Tryz.func131, Tryz.ntmps131
  go_wp2
  refine wp_region_noPanic ?_
  go_region_law (go_simp; (go_at_call 168; refine PW.mono ?_; rintro e w1 ⟨rfl, ro1, v1, s1, m1⟩; have h1 := h0.setCalls m1 s1; have i2 := (ix.keep m1 (by simp)).cell 1; have r1 := rx.keep m1 (by simp); have bc := r1.cell; have bf := r1.free; have hc := h1.blk.cell 25; unfold mcells at hc; simp only [List.getElem?_toArray, List.getElem?_cons_succ, List.getElem?_cons_zero] at hc i2; have hf := h1.blk.free 25; have ne1 : M ≠ w.heap.size + 1 := (by have := h1.blk.ne r1 (by omega); exact this)))
  all_goals
    refine NoPanic.normal ?_
    go_wp2
    refine bodyPost_ret (v := .agg #[.int .i64 0, .int .i64 0, .float .f64 0, .bool false]) (by simp [results, Tryz.results131, go_sem, bc, bf, ne1, ne1.symm]) rfl ?_
    have hR : ro1 (w.heap.size + 1) ∈ [r + 12] := by rw [r1.role]; simp
    have n0 := Nat.le_succ w.heap.size
    exact ⟨rfl, ro1, _, (h1.put1 25 (.int .i64 n) { m with calls := m.calls ++ [m.place], place := n } rfl ⟨rfl, rfl, rfl, rfl, rfl⟩ rfl).keep (((((Mv.refl _ _ _).setCell hR _).setCell hR _).setCell hR _).setCell hR _) (by simp), (((((mR_mv M0.out (m1.mono (by simp [mR]))).setCell h1.inR _).setNew n0 _).setNew n0 _).setNew n0 _).setNew n0 _⟩
set_option maxRecDepth 100000 in
set_option maxHeartbeats 1000000 in
theorem do_15_none {ro : Nat → Nat} {r : Nat} {w : World} {M C tag code m p} (h : MIs ro r w M C tag code m p) (n : Int) (x : Nat) (hl : m.calls = []) :
    Calls Tryz.prog 131 #[ptr M, insV 15 n x] w (DoP ro r w M C tag code m (.ok (m.ends 1 0 0))) := by
  have h0 := h.keep0 (box_mv ro r w 15 n x)
  have PW := ipop_none _ (r + 3) (r + 4) _ p.K p.vk 16 (by have := h0.cal; rw [hl] at this; exact this)
  have KW := ends_walk h0 1 0 0
  have rx := box_res ro r w 15 n x
  have M0 := Lib.hid (box_mv ro r w 15 n x)
  have hcM := h.blk.cell
  have hlt := h.blk.lt
  have sf := run_store_float
  clear h hl
  unfold boxW at PW rx KW
  unfold mcells at hcM
  simp only [ptr, insV, Ask.v, askEnd] at PW KW hcM ⊢
  go_enter Tryz.func131, Tryz.ntmps131
  go_wp2_with (first
    | (go_at_call 169; refine PW.mono ?_; rintro e w1 ⟨rfl, rfl⟩)
    | (go_at_call 128; refine KW.mono ?_; rintro e w1 ⟨rfl, ro1, p1, h1, m1⟩; have r1 := rx.keep m1 (by simp [mR]); have bc := r1.cell; have bf := r1.free))
  refine bodyPost_ret (v := .agg #[.int .i64 4, .int .i64 0, .float .f64 0, .bool false]) (by simp [results, Tryz.results131, go_sem, bc, bf]) rfl ?_
  have hR : ro1 (w.heap.size + 1) ∈ [r + 12] := by rw [r1.role]; simp
  have n0 := Nat.le_succ w.heap.size
  exact ⟨rfl, ro1, p1, h1.keep (((((Mv.refl _ _ _).setCell hR _).setCell hR _).setCell hR _).setCell hR _) (by simp), ((((mR_mv M0.out m1).setNew n0 _).setNew n0 _).setNew n0 _).setNew n0 _⟩
set_option maxRecDepth 100000 in
set_option maxHeartbeats 1000000 in
theorem do_15_some {ro : Nat → Nat} {r : Nat} {w : World} {M C tag code m p} {k : List Int} {q : Int} (h : MIs ro r w M C tag code m p) (n : Int) (x : Nat) (hl : m.calls = k ++ [q]) (h16 : k.length < 16) :
    Calls Tryz.prog 131 #[ptr M, insV 15 n x] w (DoP ro r w M C tag code m (.ok ({ m with calls := k, place := q }, askNone))) := by
  have h0 := h.keep0 (box_mv ro r w 15 n x)
  have PW := ipop_walk _ (r + 3) (r + 4) _ p.K p.vk m.calls 16 h0.cal (by rw [hl]; simp) (by rw [hl]; simp; omega) (by omega)
  rw [show m.calls.getD (m.calls.length - 1) 0 = q by rw [hl]; simp, show m.calls.take (m.calls.length - 1) = k by rw [hl]; simp] at PW
  have rx := box_res ro r w 15 n x
  have M0 := Lib.hid (box_mv ro r w 15 n x)
  have hcM := h.blk.cell
  have hlt := h.blk.lt
  have sf := run_store_float
  clear h hl
  unfold boxW at PW rx
  unfold mcells at hcM
  simp only [ptr, insV] at PW hcM ⊢
  go_enter Tryz.func131, Tryz.ntmps131
  go_wp2_with (first
    | (go_at_call 169; refine PW.mono ?_; rintro e w1 ⟨rfl, v1, s1, m1⟩; have h1 := h0.setCalls m1 s1; have r1 := rx.keep m1 (by simp); have bc := r1.cell; have bf := r1.free; have hc := h1.blk.cell 25; unfold mcells at hc; simp only [List.getElem?_toArray, List.getElem?_cons_succ, List.getElem?_cons_zero] at hc; have hf := h1.blk.free 25; have ne1 : M ≠ w.heap.size + 1 := (by have := h1.blk.ne r1 (by omega); exact this)))
  refine bodyPost_ret (v := .agg #[.int .i64 0, .int .i64 0, .float .f64 0, .bool false]) (by simp [results, Tryz.results131, go_sem, bc, bf, ne1, ne1.symm]) rfl ?_
  have hR : ro2 ro w.heap.size r (w.heap.size + 1) ∈ [r + 12] := by rw [r1.role]; simp
  have n0 := Nat.le_succ w.heap.size
  exact ⟨rfl, _, _, (h1.put1 25 (.int .i64 q) { m with calls := k, place := q } rfl ⟨rfl, rfl, rfl, rfl, rfl⟩ rfl).keep (((((Mv.refl _ _ _).setCell hR _).setCell hR _).setCell hR _).setCell hR _) (by simp), (((((mR_mv M0.out (m1.mono (by simp [mR]))).setCell h1.inR _).setNew n0 _).setNew n0 _).setNew n0 _).setNew n0 _⟩
set_option maxRecDepth 100000 in
set_option maxHeartbeats 1000000 in
theorem do_reck {ro : Nat → Nat} {r : Nat} {w : World} {M C tag code m p} (h : MIs ro r w M C tag code m p) (op n : Int) (x : Nat) (m' : Ms) (ho : op ≠ 11 ∧ op ≠ 12 ∧ op ≠ 13 ∧ op ≠ 14 ∧ op ≠ 15 ∧ op ≠ 16 ∧ op ≠ 17 ∧ op ≠ 19 ∧ op ≠ 20)
    (RW : ∀ ro' W, MIs ro' r W M C tag code m p → Calls Tryz.prog 170 #[ptr M, insV op n x] W (UpM ro' r W M C tag code m' (.tuple #[]))) :
    Calls Tryz.prog 131 #[ptr M, insV op n x] w (DoP ro r w M C tag code m (.ok (m', askNone))) := by
  have KW := RW _ _ (h.keep0 (box_mv ro r w op n x))
  have rx := box_res ro r w op n x
  have M0 := Lib.hid (box_mv ro r w op n x)
  have sf := run_store_float
  obtain ⟨o1, o2, o3, o4, o5, o6, o7, o8, o9⟩ := ho
  have o1' : (op == 11) = false := by simpa using o1
  have o2' : (op == 12) = false := by simpa using o2
  have o3' : (op == 13) = false := by simpa using o3
  have o4' : (op == 14) = false := by simpa using o4
  have o5' : (op == 15) = false := by simpa using o5
  have o6' : (op == 16) = false := by simpa using o6
  have o7' : (op == 17) = false := by simpa using o7
  have o8' : (op == 19) = false := by simpa using o8
  have o9' : (op == 20) = false := by simpa using o9
  clear RW h o1 o2 o3 o4 o5 o6 o7 o8 o9
  unfold boxW at KW rx
  simp only [ptr, insV] at KW ⊢
  go_enter Tryz.func131, Tryz.ntmps131
  go_wp2_with (go_at_call 170; refine KW.mono ?_; rintro e w1 ⟨rfl, ro1, p1, h1, m1⟩; have r1 := rx.keep m1 (by simp [mR]); have bc := r1.cell; have bf := r1.free)
  refine bodyPost_ret (v := .agg #[.int .i64 0, .int .i64 0, .float .f64 0, .bool false]) (by simp [results, Tryz.results131, go_sem, bc, bf]) rfl ?_
  have hR : ro1 (w.heap.size + 1) ∈ [r + 12] := by rw [r1.role]; simp
  have n0 := Nat.le_succ w.heap.size
  exact ⟨rfl, ro1, p1, h1.keep (((((Mv.refl _ _ _).setCell hR _).setCell hR _).setCell hR _).setCell hR _) (by simp), ((((mR_mv M0.out m1).setNew n0 _).setNew n0 _).setNew n0 _).setNew n0 _⟩
end Go.Proofs.YtphaeodcomgffaaGreat
set_option linter.unusedVariables false
set_option linter.unusedSimpArgs false
namespace Go.Proofs.YtphaeodcomgffaaGreat
open Go.RowKit

set_option maxRecDepth 100000 in
theorem catch_idle (a b : Addr) (w : World) :
    CallsD Tryz.prog 127 #[.pointer (some a), .pointer (some b)] .returning w fun e u' w' => e = .returned (.tuple #[]) ∧ u' = .returning ∧ w' = w := by
  refine callsD_of_wpS Tryz.func127 rfl fun c₀ cs hu => ?_
  apply wpS_seq
  apply wpS_region
  simp [wpOpsS, go_sem, recoverD, hu, Tryz.ntmps127, Exit.thenS]
  apply wpS_seq
  apply wpS_region
  simp [wpOpsS, go_sem, recoverD, hu, Tryz.ntmps127, Exit.thenS]
  refine wpS_cond (t := false) (by simp [Act.eval, Array.replicate]) ?_
  simp only [Bool.false_eq_true, if_false]
  refine wpS_of_wp (wp_skip ?_)
  cases c₀
  simp_all [bodyPostS, results, Tryz.results127]
theorem assertF (v : Value) (W : World) : (Instr.typeAssert (.iface 208 v) 20 208 true).run Tryz.prog W = .ok (.tuple #[v, .bool true]) W := by kernel_rfl
theorem at_tmps {P : Program} {c : Code} {Q : Exit → Act → World → Prop} {t t' : Array Value} {d : List Deferred} {w : World} (e : t = t') (h : Code.wp P c Q { tmps := t', defers := d } w) : Code.wp P c Q { tmps := t, defers := d } w := e ▸ h

/-- Step's two boxes: where the machine is, and the answer. -/
structure Boxes (ro : Nat → Nat) (r : Nat) (w : World) (g : Nat) (M : Nat) (a : Ask) : Prop where
  at' : Blk ro (r + 13) w g #[ptr M] 52
  ans : Blk ro (r + 14) w (g + 1) #[.int .i64 a.kind, .int .i64 a.cell, .float .f64 a.x, .bool a.first] 139
theorem Boxes.keep {ro ro' : Nat → Nat} {r : Nat} {w w' : World} {g M a R} (h : Boxes ro r w g M a) (m : Mv ro R w ro' w') (h1 : r + 13 ∉ R) (h2 : r + 14 ∉ R) : Boxes ro' r w' g M a := ⟨h.at'.keep m h1, h.ans.keep m h2⟩
set_option maxRecDepth 100000 in
set_option maxHeartbeats 1000000 in
theorem catch_fault {ro : Nat → Nat} {r : Nat} {w : World} {M C tag code m p} (h : MIs ro r w M C tag code m p) (g : Nat) (a : Ask) (bx : Boxes ro r w g M a) (er : Int) (older : List PanicEntry) :
    CallsD Tryz.prog 127 #[.pointer (some ⟨g, 0, none⟩), .pointer (some ⟨g + 1, 0, none⟩)] (.panicking ({ v := .iface 208 (.int .i64 er), recovered := false } :: older)) w fun e' u' w' =>
      e' = .returned (.tuple #[]) ∧ u' = .panicking ({ v := .iface 208 (.int .i64 er), recovered := true } :: older) ∧ ∃ ro' p', MIs ro' r w' M C tag code (m.ends 3 0 er).1 p' ∧ Boxes ro' r w' g M askEnd ∧ Mv ro ((r + 14) :: mR r) w ro' w' := by
  have hc := bx.at'.cell
  have KW := ends_walk h 3 0 er
  have ta := assertF
  refine callsD_of_wpS Tryz.func127 rfl fun c₀ cs hu => ?_
  apply wpS_seq
  apply wpS_region
  simp [wpOpsS, go_sem, recoverD, hu, Tryz.ntmps127, Exit.thenS]
  apply wpS_seq
  apply wpS_region
  simp [wpOpsS, go_sem, recoverD, hu, Tryz.ntmps127, Exit.thenS]
  refine wpS_cond (t := true) (by simp [Act.eval, Array.replicate]) ?_
  simp only [if_true]
  apply wpS_seq
  apply wpS_region
  simp [wpOpsS, go_sem, recoverD, hu, Tryz.ntmps127, Exit.thenS, assertF]
  apply wpS_seq
  apply wpS_seq
  apply wpS_region
  simp [wpOpsS, go_sem, recoverD, hu, Tryz.ntmps127, Exit.thenS, assertF]
  refine wpS_cond (t := false) (by simp [Act.eval, Array.replicate]) ?_
  simp only [Bool.false_eq_true, if_false]
  refine wpS_of_wp (wp_skip ?_)
  simp only [Exit.thenS]
  refine wpS_of_wp ?_
  have ec : (c₀.fn, c₀.tmps, c₀.todo, c₀.defers, c₀.kind, c₀.roundOf) = (c₀.fn, c₀.tmps, c₀.todo, c₀.defers, c₀.kind, c₀.roundOf) := rfl
  refine at_tmps (t' := #[.pointer (some ⟨g, 0, none⟩), .pointer (some ⟨g + 1, 0, none⟩), .iface 208 (.int .i64 er), .int .i64 er, .bool true, .iface 208 (.int .i64 er), .iface 208 (.int .i64 er), .bool true, .tuple #[.int .i64 er, .bool true], .iface 208 (.int .i64 er), .tuple #[.int .i64 er, .bool true], .int .i64 er, .bool true, .bool true, .bool false, undef, undef, undef, undef, undef]) (by kernel_rfl) ?_
  have sf := run_store_float
  have BX := Lib.hid bx
  clear bx h
  simp only [ptr, Ask.v, askEnd] at hc KW
  go_wp2_with (go_at_call 128; refine KW.mono ?_; rintro e w1 ⟨rfl, ro1, p1, h1, m1⟩; have b1 := BX.out.keep m1 (by simp [mR]) (by simp [mR]); have bc := b1.ans.cell; have bf := b1.ans.free)
  change bodyPostS Tryz.prog Tryz.f127 c₀ cs _ _ _ _ _
  cases c₀
  simp only [bodyPostS]
  have hR : ro1 (g + 1) ∈ [r + 14] := by rw [b1.ans.role]; simp
  have mA : Mv ro1 [r + 14] w1 ro1 ((((w1.setCell ⟨g + 1, 0, none⟩ (.int .i64 4)).setCell ⟨g + 1, 1, none⟩ (.int .i64 0)).setCell ⟨g + 1, 2, none⟩ (.float .f64 0)).setCell ⟨g + 1, 3, none⟩ (.bool false)) := ((((Mv.refl _ _ _).setCell hR _).setCell hR _).setCell hR _).setCell hR _
  refine ⟨trivial, _, rfl, .tuple #[], by kernel_rfl, rfl, rfl, ro1, ⟨p1, h1.keep mA (by simp)⟩, ⟨b1.at'.keep mA (by simp), ?_⟩, (m1.mono (fun x hx => List.mem_cons_of_mem _ hx)).trans (mA.mono (by simp))⟩
  exact (((b1.ans.put (i := 0) rfl).put (i := 1) rfl).put (i := 2) rfl).put (i := 3) rfl
end Go.Proofs.YtphaeodcomgffaaGreat
set_option linter.unusedVariables false
set_option linter.unusedSimpArgs false
namespace Go.Proofs.YtphaeodcomgffaaGreat
open Go.RowKit

theorem eff_bd (op : Int) : 0 ≤ effT op ∧ effT op ≤ 2 ∧ 0 ≤ effL op ∧ effL op ≤ 2 := by
  unfold effT effL
  by_cases h : inOp op
  · rw [if_pos h, if_pos h]
    obtain ⟨h1, h2⟩ := h
    rcases (by omega : op = 1 ∨ op = 2 ∨ op = 3 ∨ op = 4 ∨ op = 5 ∨ op = 6 ∨ op = 7 ∨ op = 8 ∨ op = 9 ∨ op = 10 ∨ op = 11 ∨ op = 12 ∨ op = 13 ∨ op = 14 ∨ op = 15 ∨ op = 16 ∨ op = 17 ∨ op = 18 ∨ op = 19 ∨ op = 20) with rfl | rfl | rfl | rfl | rfl | rfl | rfl | rfl | rfl | rfl | rfl | rfl | rfl | rfl | rfl | rfl | rfl | rfl | rfl | rfl <;> decide
  · rw [if_neg h, if_neg h]; omega

/-- How ready ends. -/
def RdyE (b : Bool) : Ending := if b then .returned (.tuple #[]) else faultE 82
set_option maxRecDepth 100000 in
set_option maxHeartbeats 2000000 in
theorem ready_core {ro : Nat → Nat} {r : Nat} {w : World} {M C tag code m p} (h : MIs ro r w M C tag code m p) (op n : Int) (x : Nat) (t l : Int) (hE : ∀ w, Calls Tryz.prog 161 #[.int .i64 op] w fun e w' => e = .returned (.tuple #[.int .i64 t, .int .i64 l, .int .i64 (effE op)]) ∧ Below w.heap.size w w')
    (ht : 0 ≤ t ∧ t ≤ 2 ∧ 0 ≤ l ∧ l ≤ 2) (h5 : op = 5 → 0 ≤ n ∧ n ≤ 63) (hs : m.stack.length ≤ 64) (hk : m.calls.length ≤ 16) (need : Int) (hneed : need = if op = 5 then n + 1 else t) (A B K : Bool) (hA : A = decide ((m.stack.length : Int) < need)) (hB : B = decide (64 < (m.stack.length : Int) - t + l)) (hK : K = (op == 14 && m.calls.length == 16)) :
    Calls Tryz.prog 130 #[ptr M, .agg #[.int .i64 op, .int .i64 n, .float .f64 x]] w fun e w' => e = RdyE (!(A || B || K)) ∧ Mv ro [] w ro w' := by
  obtain ⟨t1, t2, t3, t4⟩ := ht
  have m0 : Mv ro [] w ro (w.alloc (.cells #[.int .i64 op, .int .i64 n, .float .f64 x] 117)) := (Mv.refl ro [] w).alloc _
  have bx : ∀ W, Below (w.alloc (.cells #[.int .i64 op, .int .i64 n, .float .f64 x] 117)).heap.size (w.alloc (.cells #[.int .i64 op, .int .i64 n, .float .f64 x] 117)) W → ∀ o, W.cell? ⟨w.heap.size, o, none⟩ = (#[.int .i64 op, .int .i64 n, .float .f64 x] : Array Value)[o]? := fun W b o => (b.cell (p := ⟨w.heap.size, o, none⟩) (by simp)).trans (cell_of_row _ _ _ _ _ _ (heap_alloc_new _ _))
  have M0 := Lib.hid m0
  have sf := run_store_float
  have hm := must_bad 82 (by decide)
  unfold faultE at hm
  obtain ⟨sl, hsl⟩ : ∃ k, k = m.stack.length := ⟨_, rfl⟩
  obtain ⟨kl, hkl⟩ : ∃ k, k = m.calls.length := ⟨_, rfl⟩
  have SL : ∀ W, Mv ro [] w ro W → Calls Tryz.prog 162 #[.pointer (some ⟨p.N, 0, none⟩)] W fun e w' => e = .returned (.int .i64 sl) ∧ w' = W := fun W mv => by
    rw [hsl]; exact slen_walk _ _ _ W p.N p.vn m.stack 64 (h.keep0 mv).num
  have IL : ∀ W, Mv ro [] w ro W → Calls Tryz.prog 163 #[.pointer (some ⟨p.K, 0, none⟩)] W fun e w' => e = .returned (.int .i64 kl) ∧ w' = W := fun W mv => by
    rw [hkl]; exact ilen_walk _ _ _ W p.K p.vk m.calls 16 (h.keep0 mv).cal
  rw [← hsl] at hA hB hs
  rw [← hkl] at hK hk
  have cM : ∀ W, Mv ro [] w ro W → W.cell? ⟨M, 23, none⟩ = some (.pointer (some ⟨p.N, 0, none⟩)) ∧ W.cell? ⟨M, 24, none⟩ = some (.pointer (some ⟨p.K, 0, none⟩)) := fun W mv => by
    have hc := (h.keep0 mv).blk.cell
    unfold mcells at hc
    exact ⟨hc 23, hc 24⟩
  clear hsl hkl m0 h
  have fin : ∀ W, Mv ro [] w ro W → ∀ e, e = RdyE (!(A || B || K)) → e = RdyE (!(A || B || K)) ∧ Mv ro [] w ro W := fun W mv e he => ⟨he, mv⟩
  simp only [ptr]
  by_cases o5 : op = 5
  · subst o5
    obtain ⟨n0, n1⟩ := h5 rfl
    rw [if_pos rfl] at hneed
    subst hneed
    have hK' : K = false := hK
    subst hK'
    clear hK h5
    cases A
    · have hA' : ¬ (sl : Int) < n + 1 := of_decide_eq_false hA.symm
      cases B
      · have hB' : ¬ 64 < (sl : Int) - t + l := of_decide_eq_false hB.symm
        clear hA hB fin
        go_enter Tryz.func130, Tryz.ntmps130
        go_wp2_with (first
          | (go_at_call 161; refine (hE _).mono ?_; rintro e w1 ⟨rfl, b1⟩; have bc := bx _ b1; have m1 := M0.out.then_below b1; obtain ⟨c1, c2⟩ := cM _ m1; clear b1)
          | (go_at_call 162; refine (SL _ m1).mono ?_; rintro e w2 ⟨rfl, rfl⟩)
          | (go_at_call 163; refine (IL _ m1).mono ?_; rintro e w2 ⟨rfl, rfl⟩))
        go_end0
        exact ⟨rfl, m1⟩
      · have hB' : 64 < (sl : Int) - t + l := of_decide_eq_true hB.symm
        clear hA hB fin
        go_enter Tryz.func130, Tryz.ntmps130
        go_wp2_with (first
          | (go_at_call 161; refine (hE _).mono ?_; rintro e w1 ⟨rfl, b1⟩; have bc := bx _ b1; have m1 := M0.out.then_below b1; obtain ⟨c1, c2⟩ := cM _ m1; clear b1)
          | (go_at_call 162; refine (SL _ m1).mono ?_; rintro e w2 ⟨rfl, rfl⟩)
          | (go_at_call 129; refine (hm _).mono ?_; rintro e w2 ⟨rfl, rfl⟩))
        exact ⟨rfl, rfl, m1⟩
    · have hA' : (sl : Int) < n + 1 := of_decide_eq_true hA.symm
      clear hA hB fin
      go_enter Tryz.func130, Tryz.ntmps130
      go_wp2_with (first
        | (go_at_call 161; refine (hE _).mono ?_; rintro e w1 ⟨rfl, b1⟩; have bc := bx _ b1; have m1 := M0.out.then_below b1; obtain ⟨c1, c2⟩ := cM _ m1; clear b1)
        | (go_at_call 162; refine (SL _ m1).mono ?_; rintro e w2 ⟨rfl, rfl⟩)
        | (go_at_call 129; refine (hm _).mono ?_; rintro e w2 ⟨rfl, rfl⟩))
      exact ⟨rfl, rfl, m1⟩
  · rw [if_neg o5] at hneed
    subst hneed
    have o5' : (op == 5) = false := by simpa using o5
    clear h5 o5
    cases A
    · have hA' : ¬ (sl : Int) < need := of_decide_eq_false hA.symm
      cases B
      · have hB' : ¬ 64 < (sl : Int) - need + l := of_decide_eq_false hB.symm
        cases K
        · rcases (by simp at hK; rcases (by omega : op = 14 ∨ op ≠ 14) with h | h; exact .inl ⟨h, hK h⟩; exact .inr h : (op = 14 ∧ ¬ kl = 16) ∨ op ≠ 14) with ⟨rfl, hk2⟩ | h14
          · have hk3 : ((kl : Int) == 16) = false := by simp; omega
            clear hA hB hK fin
            go_enter Tryz.func130, Tryz.ntmps130
            go_wp2_with (first
              | (go_at_call 161; refine (hE _).mono ?_; rintro e w1 ⟨rfl, b1⟩; have bc := bx _ b1; have m1 := M0.out.then_below b1; obtain ⟨c1, c2⟩ := cM _ m1; clear b1)
              | (go_at_call 162; refine (SL _ m1).mono ?_; rintro e w2 ⟨rfl, rfl⟩)
              | (go_at_call 163; refine (IL _ m1).mono ?_; rintro e w2 ⟨rfl, rfl⟩))
            go_end0
            exact ⟨rfl, m1⟩
          · have h14' : (op == 14) = false := by simpa using h14
            clear hA hB hK fin h14
            go_enter Tryz.func130, Tryz.ntmps130
            go_wp2_with (first
              | (go_at_call 161; refine (hE _).mono ?_; rintro e w1 ⟨rfl, b1⟩; have bc := bx _ b1; have m1 := M0.out.then_below b1; obtain ⟨c1, c2⟩ := cM _ m1; clear b1)
              | (go_at_call 162; refine (SL _ m1).mono ?_; rintro e w2 ⟨rfl, rfl⟩))
            go_end0
            exact ⟨rfl, m1⟩
        · obtain ⟨rfl, rfl⟩ : op = 14 ∧ kl = 16 := by simpa using hK.symm
          clear hA hB hK fin
          go_enter Tryz.func130, Tryz.ntmps130
          go_wp2_with (first
            | (go_at_call 161; refine (hE _).mono ?_; rintro e w1 ⟨rfl, b1⟩; have bc := bx _ b1; have m1 := M0.out.then_below b1; obtain ⟨c1, c2⟩ := cM _ m1; clear b1)
            | (go_at_call 162; refine (SL _ m1).mono ?_; rintro e w2 ⟨rfl, rfl⟩)
            | (go_at_call 163; refine (IL _ m1).mono ?_; rintro e w2 ⟨rfl, rfl⟩)
            | (go_at_call 129; refine (hm _).mono ?_; rintro e w2 ⟨rfl, rfl⟩))
          exact ⟨rfl, rfl, m1⟩
      · have hB' : 64 < (sl : Int) - need + l := of_decide_eq_true hB.symm
        clear hA hB fin
        go_enter Tryz.func130, Tryz.ntmps130
        go_wp2_with (first
          | (go_at_call 161; refine (hE _).mono ?_; rintro e w1 ⟨rfl, b1⟩; have bc := bx _ b1; have m1 := M0.out.then_below b1; obtain ⟨c1, c2⟩ := cM _ m1; clear b1)
          | (go_at_call 162; refine (SL _ m1).mono ?_; rintro e w2 ⟨rfl, rfl⟩)
          | (go_at_call 129; refine (hm _).mono ?_; rintro e w2 ⟨rfl, rfl⟩))
        exact ⟨rfl, rfl, m1⟩
    · have hA' : (sl : Int) < need := of_decide_eq_true hA.symm
      clear hA hB fin
      go_enter Tryz.func130, Tryz.ntmps130
      go_wp2_with (first
        | (go_at_call 161; refine (hE _).mono ?_; rintro e w1 ⟨rfl, b1⟩; have bc := bx _ b1; have m1 := M0.out.then_below b1; obtain ⟨c1, c2⟩ := cM _ m1; clear b1)
        | (go_at_call 162; refine (SL _ m1).mono ?_; rintro e w2 ⟨rfl, rfl⟩)
        | (go_at_call 129; refine (hm _).mono ?_; rintro e w2 ⟨rfl, rfl⟩))
      exact ⟨rfl, rfl, m1⟩
theorem ready_walk {ro : Nat → Nat} {r : Nat} {w : World} {M C tag code m p} (h : MIs ro r w M C tag code m p) (x : Ins) (h5 : x.op = 5 → 0 ≤ x.n ∧ x.n ≤ 63) (hs : m.stack.length ≤ 64) (hk : m.calls.length ≤ 16) :
    Calls Tryz.prog 130 #[ptr M, .agg #[.int .i64 x.op, .int .i64 x.n, .float .f64 x.x]] w fun e w' => e = RdyE (m.room x) ∧ Mv ro [] w ro w' :=
  ready_core h x.op x.n x.x (effT x.op) (effL x.op) (fun w => effect_walk x.op w) (eff_bd x.op) h5 hs hk _ rfl _ _ _ rfl rfl rfl
end Go.Proofs.YtphaeodcomgffaaGreat
