import Derived.Test.YtphaeodcomgffaaGreatR4
import Derived.Deep.RegionHeldLaw
set_option linter.unusedVariables false
set_option linter.unusedSimpArgs false
namespace Go.Proofs.YtphaeodcomgffaaGreat
open Go.RowKit

/-- The roles behind do's two boxes. -/
def ro2 (ro : Nat → Nat) (n r : Nat) : Nat → Nat := setRo (setRo ro n (r + 11)) (n + 1) (r + 12)
def insV (o n : Int) (x : Nat) : Value := .agg #[.int .i64 o, .int .i64 n, .float .f64 x]
def boxW (w : World) (o n : Int) (x : Nat) : World := (w.alloc (.cells #[.int .i64 o, .int .i64 n, .float .f64 x] 117)).alloc (.cells #[.int .i64 0, .int .i64 0, .float .f64 0, .bool false] 139)
theorem box_mv (ro : Nat → Nat) (r : Nat) (w : World) (o n : Int) (x : Nat) : Mv ro [] w (ro2 ro w.heap.size r) (boxW w o n x) := ((((Mv.refl ro [] w).alloc _).alloc _).give (Nat.le_refl _)).give (by omega)
theorem box_ins (ro : Nat → Nat) (r : Nat) (w : World) (o n : Int) (x : Nat) : Blk (ro2 ro w.heap.size r) (r + 11) (boxW w o n x) w.heap.size #[.int .i64 o, .int .i64 n, .float .f64 x] 117 := by
  refine ⟨?_, ?_⟩
  · unfold boxW
    rw [Below.heap_alloc _ _ _ (by simp)]
    exact heap_alloc_new _ _
  · unfold ro2
    rw [setRo_ne (by omega), setRo_at]
theorem box_res (ro : Nat → Nat) (r : Nat) (w : World) (o n : Int) (x : Nat) : Blk (ro2 ro w.heap.size r) (r + 12) (boxW w o n x) (w.heap.size + 1) #[.int .i64 0, .int .i64 0, .float .f64 0, .bool false] 139 := by
  refine ⟨?_, ?_⟩
  · unfold boxW
    simpa using heap_alloc_new (w.alloc (.cells #[.int .i64 o, .int .i64 n, .float .f64 x] 117)) _
  · unfold ro2
    rw [setRo_at]
/-- What do leaves. -/
def DoP (ro : Nat → Nat) (r : Nat) (w : World) (M : Nat) (C : Cfg) (tag : Int) (code : List Ins) (m : Ms) : Except Int (Ms × Ask) → Ending → World → Prop
  | .error x, e, w' => e = faultE x ∧ ∃ ro' p', MIs ro' r w' M C tag code m p' ∧ Mv ro (mR r) w ro' w'
  | .ok x, e, w' => UpM ro r w M C tag code x.1 x.2.v e w'
theorem mR_mv {ro ro0 ro1 : Nat → Nat} {r : Nat} {w W w' : World} (m0 : Mv ro [] w ro0 W) (m1 : Mv ro0 (mR r) W ro1 w') : Mv ro (mR r) w ro1 w' := (m0.mono (by simp)).trans m1

set_option maxRecDepth 100000 in
set_option maxHeartbeats 1000000 in
theorem do_16_err {ro : Nat → Nat} {r : Nat} {w : World} {M C tag code m p} (h : MIs ro r w M C tag code m p) (n : Int) (x : Nat) (er : Int)
    (CW : ∀ ro' W, MIs ro' r W M C tag code m p → Calls Tryz.prog 164 #[ptr M] W (Or2 ro' r W M C tag code m (.error er))) :
    Calls Tryz.prog 131 #[ptr M, insV 16 n x] w (DoP ro r w M C tag code m (.error er)) := by
  have KW := CW _ _ (h.keep0 (box_mv ro r w 16 n x))
  have M0 := Lib.hid (box_mv ro r w 16 n x)
  have sf := run_store_float
  clear CW h
  unfold boxW at KW
  simp only [ptr, insV] at KW ⊢
  go_enter Tryz.func131, Tryz.ntmps131
  go_wp2_with (go_at_call 164; refine KW.mono ?_; rintro e w1 ⟨he, ro1, p1, h1, m1⟩; unfold faultE at he; subst he)
  exact ⟨rfl, rfl, ro1, p1, h1, mR_mv M0.out m1⟩
set_option maxRecDepth 100000 in
set_option maxHeartbeats 1000000 in
theorem do_16_ok {ro : Nat → Nat} {r : Nat} {w : World} {M C tag code m p} (h : MIs ro r w M C tag code m p) (n : Int) (x : Nat) (m' : Ms) (a : Ask)
    (CW : ∀ ro' W, MIs ro' r W M C tag code m p → Calls Tryz.prog 164 #[ptr M] W (UpM ro' r W M C tag code m' a.v)) :
    Calls Tryz.prog 131 #[ptr M, insV 16 n x] w (DoP ro r w M C tag code m (.ok (m', a))) := by
  have KW := CW _ _ (h.keep0 (box_mv ro r w 16 n x))
  have rx := box_res ro r w 16 n x
  have M0 := Lib.hid (box_mv ro r w 16 n x)
  have sf := run_store_float
  obtain ⟨a1, a2, a3, a4⟩ := a
  clear CW h
  unfold boxW at KW rx
  simp only [ptr, insV, Ask.v] at KW ⊢
  go_enter Tryz.func131, Tryz.ntmps131
  go_wp2_with (go_at_call 164; refine KW.mono ?_; rintro e w1 ⟨rfl, ro1, p1, h1, m1⟩; have r1 := rx.keep m1 (by simp [mR]); have bc := r1.cell; have bf := r1.free)
  refine bodyPost_ret (v := .agg #[.int .i64 a1, .int .i64 a2, .float .f64 a3, .bool a4]) (by simp [results, Tryz.results131, go_sem, bc, bf]) rfl ?_
  have hR : ro1 (w.heap.size + 1) ∈ [r + 12] := by rw [r1.role]; simp
  have n0 := Nat.le_succ w.heap.size
  exact ⟨rfl, ro1, p1, h1.keep (((((Mv.refl _ _ _).setCell hR _).setCell hR _).setCell hR _).setCell hR _) (by simp), ((((mR_mv M0.out m1).setNew n0 _).setNew n0 _).setNew n0 _).setNew n0 _⟩

set_option maxRecDepth 100000 in
set_option maxHeartbeats 1000000 in
theorem do_17_err {ro : Nat → Nat} {r : Nat} {w : World} {M C tag code m p} (h : MIs ro r w M C tag code m p) (n : Int) (x : Nat) (er : Int)
    (CW : ∀ ro' W, MIs ro' r W M C tag code m p → Calls Tryz.prog 165 #[ptr M] W (Or2 ro' r W M C tag code m (.error er))) :
    Calls Tryz.prog 131 #[ptr M, insV 17 n x] w (DoP ro r w M C tag code m (.error er)) := by
  have KW := CW _ _ (h.keep0 (box_mv ro r w 17 n x))
  have M0 := Lib.hid (box_mv ro r w 17 n x)
  have sf := run_store_float
  clear CW h
  unfold boxW at KW
  simp only [ptr, insV] at KW ⊢
  go_enter Tryz.func131, Tryz.ntmps131
  go_wp2_with (go_at_call 165; refine KW.mono ?_; rintro e w1 ⟨he, ro1, p1, h1, m1⟩; unfold faultE at he; subst he)
  exact ⟨rfl, rfl, ro1, p1, h1, mR_mv M0.out m1⟩
set_option maxRecDepth 100000 in
set_option maxHeartbeats 1000000 in
theorem do_17_ok {ro : Nat → Nat} {r : Nat} {w : World} {M C tag code m p} (h : MIs ro r w M C tag code m p) (n : Int) (x : Nat) (m' : Ms) (a : Ask)
    (CW : ∀ ro' W, MIs ro' r W M C tag code m p → Calls Tryz.prog 165 #[ptr M] W (UpM ro' r W M C tag code m' a.v)) :
    Calls Tryz.prog 131 #[ptr M, insV 17 n x] w (DoP ro r w M C tag code m (.ok (m', a))) := by
  have KW := CW _ _ (h.keep0 (box_mv ro r w 17 n x))
  have rx := box_res ro r w 17 n x
  have M0 := Lib.hid (box_mv ro r w 17 n x)
  have sf := run_store_float
  obtain ⟨a1, a2, a3, a4⟩ := a
  clear CW h
  unfold boxW at KW rx
  simp only [ptr, insV, Ask.v] at KW ⊢
  go_enter Tryz.func131, Tryz.ntmps131
  go_wp2_with (go_at_call 165; refine KW.mono ?_; rintro e w1 ⟨rfl, ro1, p1, h1, m1⟩; have r1 := rx.keep m1 (by simp [mR]); have bc := r1.cell; have bf := r1.free)
  refine bodyPost_ret (v := .agg #[.int .i64 a1, .int .i64 a2, .float .f64 a3, .bool a4]) (by simp [results, Tryz.results131, go_sem, bc, bf]) rfl ?_
  have hR : ro1 (w.heap.size + 1) ∈ [r + 12] := by rw [r1.role]; simp
  have n0 := Nat.le_succ w.heap.size
  exact ⟨rfl, ro1, p1, h1.keep (((((Mv.refl _ _ _).setCell hR _).setCell hR _).setCell hR _).setCell hR _) (by simp), ((((mR_mv M0.out m1).setNew n0 _).setNew n0 _).setNew n0 _).setNew n0 _⟩

set_option maxRecDepth 100000 in
set_option maxHeartbeats 1000000 in
theorem do_19 {ro : Nat → Nat} {r : Nat} {w : World} {M C tag code m p} (h : MIs ro r w M C tag code m p) (n : Int) (x : Nat) :
    Calls Tryz.prog 131 #[ptr M, insV 19 n x] w (DoP ro r w M C tag code m (.ok (m.ends 2 n 0))) := by
  have KW := ends_walk (h.keep0 (box_mv ro r w 19 n x)) 2 n 0
  have rx := box_res ro r w 19 n x
  have M0 := Lib.hid (box_mv ro r w 19 n x)
  have sf := run_store_float
  clear h
  unfold boxW at KW rx
  simp only [ptr, insV, Ask.v, askEnd] at KW ⊢
  go_enter Tryz.func131, Tryz.ntmps131
  go_wp2_with (go_at_call 128; refine KW.mono ?_; rintro e w1 ⟨rfl, ro1, p1, h1, m1⟩; have r1 := rx.keep m1 (by simp [mR]); have bc := r1.cell; have bf := r1.free)
  refine bodyPost_ret (v := .agg #[.int .i64 4, .int .i64 0, .float .f64 0, .bool false]) (by simp [results, Tryz.results131, go_sem, bc, bf]) rfl ?_
  have hR : ro1 (w.heap.size + 1) ∈ [r + 12] := by rw [r1.role]; simp
  have n0 := Nat.le_succ w.heap.size
  exact ⟨rfl, ro1, p1, h1.keep (((((Mv.refl _ _ _).setCell hR _).setCell hR _).setCell hR _).setCell hR _) (by simp), ((((mR_mv M0.out m1).setNew n0 _).setNew n0 _).setNew n0 _).setNew n0 _⟩

set_option maxRecDepth 100000 in
set_option maxHeartbeats 1000000 in
theorem do_20 {ro : Nat → Nat} {r : Nat} {w : World} {M C tag code m p} (h : MIs ro r w M C tag code m p) (n : Int) (x : Nat) :
    Calls Tryz.prog 131 #[ptr M, insV 20 n x] w (DoP ro r w M C tag code m (.ok (m.ends 1 0 0))) := by
  have KW := ends_walk (h.keep0 (box_mv ro r w 20 n x)) 1 0 0
  have rx := box_res ro r w 20 n x
  have M0 := Lib.hid (box_mv ro r w 20 n x)
  have sf := run_store_float
  clear h
  unfold boxW at KW rx
  simp only [ptr, insV, Ask.v, askEnd] at KW ⊢
  go_enter Tryz.func131, Tryz.ntmps131
  go_wp2_with (go_at_call 128; refine KW.mono ?_; rintro e w1 ⟨rfl, ro1, p1, h1, m1⟩; have r1 := rx.keep m1 (by simp [mR]); have bc := r1.cell; have bf := r1.free)
  refine bodyPost_ret (v := .agg #[.int .i64 4, .int .i64 0, .float .f64 0, .bool false]) (by simp [results, Tryz.results131, go_sem, bc, bf]) rfl ?_
  have hR : ro1 (w.heap.size + 1) ∈ [r + 12] := by rw [r1.role]; simp
  have n0 := Nat.le_succ w.heap.size
  exact ⟨rfl, ro1, p1, h1.keep (((((Mv.refl _ _ _).setCell hR _).setCell hR _).setCell hR _).setCell hR _) (by simp), ((((mR_mv M0.out m1).setNew n0 _).setNew n0 _).setNew n0 _).setNew n0 _⟩

set_option maxRecDepth 100000 in
set_option maxHeartbeats 1000000 in
theorem do_11 {ro : Nat → Nat} {r : Nat} {w : World} {M C tag code m p} (h : MIs ro r w M C tag code m p) (n : Int) (x : Nat) :
    Calls Tryz.prog 131 #[ptr M, insV 11 n x] w (DoP ro r w M C tag code m (.ok ({ m with place := n }, askNone))) := by
  have hc := h.blk.cell
  have hf := h.blk.free
  have hlt := h.blk.lt
  have H := Lib.hid (h.put1 25 (.int .i64 n) { m with place := n } rfl ⟨rfl, rfl, rfl, rfl, rfl⟩ rfl)
  have hM := h.inR
  have sf := run_store_float
  unfold mcells at hc
  clear h
  simp only [ptr, insV] at hc ⊢
  go_enter Tryz.func131, Tryz.ntmps131
  go_wp2
  refine bodyPost_ret (v := .agg #[.int .i64 0, .int .i64 0, .float .f64 0, .bool false]) (by simp [results, Tryz.results131, go_sem]) rfl ?_
  exact ⟨rfl, ro, p, H.out.keep0 (((Mv.refl _ _ _).alloc _).alloc _), (((Mv.refl _ _ _).setCell hM _).alloc _).alloc _⟩
set_option maxRecDepth 100000 in
set_option maxHeartbeats 1000000 in
theorem do_12 {ro : Nat → Nat} {r : Nat} {w : World} {M C tag code m p} {k : List Nat} {a : Nat} (h : MIs ro r w M C tag code m p) (n : Int) (x : Nat) (hs : m.stack = k ++ [a]) (hl : k.length < 64) :
    Calls Tryz.prog 131 #[ptr M, insV 12 n x] w (DoP ro r w M C tag code m (.ok ({ m with stack := k, place := if trueF a = true then n else m.place }, askNone))) := by
  have PW := pop_snoc (h.keep0 (box_mv ro r w 12 n x).drew) hs hl
  have ix := (box_ins ro r w 12 n x).keep (Mv.refl _ [] _).drew (by simp)
  have ix0 := (box_ins ro r w 12 n x).cell 0
  have rx := (box_res ro r w 12 n x).keep (Mv.refl _ [] _).drew (by simp)
  have M0 := Lib.hid (box_mv ro r w 12 n x).drew
  have TW := true_walk a
  have sf := run_store_float
  clear h hs
  unfold boxW at PW rx ix ix0
  simp only [List.getElem?_toArray, List.getElem?_cons_zero] at ix0
  simp only [ptr, insV] at PW ⊢
  cases hT : trueF a
  · rw [hT] at TW
    simp only [Bool.false_eq_true, if_false, if_true, reduceCtorEq]
    clear hT
    go_enter Tryz.func131, Tryz.ntmps131
    go_wp2
    go_region_held_law (fun w' => w'.cell? ⟨w.heap.size, 0, none⟩ = some (.int .i64 12)) (first | assumption | go_keep) (first
      | (go_at_call 167; refine PW.mono ?_; rintro e w1 ⟨rfl, ro1, v1, h1, m1⟩; have i1 := (ix.keep m1 (by simp)).cell 0; have i2 := (ix.keep m1 (by simp)).cell 1; have r1 := rx.keep m1 (by simp); have bc := r1.cell; have bf := r1.free; have hc := h1.blk.cell 25; unfold mcells at hc; simp only [List.getElem?_toArray, List.getElem?_cons_succ, List.getElem?_cons_zero] at hc i1 i2; have hf := h1.blk.free 25; have ne1 : M ≠ w.heap.size + 1 := (by have := h1.blk.ne r1 (by omega); exact this))
      | (go_at_call 166; refine (TW _).mono ?_; rintro e w2 ⟨rfl, rfl⟩))
    all_goals
      go_wp2
      refine bodyPost_ret (v := .agg #[.int .i64 0, .int .i64 0, .float .f64 0, .bool false]) (by simp [results, Tryz.results131, go_sem, bc, bf, ne1, ne1.symm]) rfl ?_
      have hR : ro1 (w.heap.size + 1) ∈ [r + 12] := by rw [r1.role]; simp
      have n0 := Nat.le_succ w.heap.size
      exact ⟨rfl, ro1, _, h1.keep (((((Mv.refl _ _ _).setCell hR _).setCell hR _).setCell hR _).setCell hR _) (by simp), ((((mR_mv M0.out (m1.mono fun _ => sR)).setNew n0 _).setNew n0 _).setNew n0 _).setNew n0 _⟩
  · rw [hT] at TW
    simp only [Bool.false_eq_true, if_false, if_true, reduceCtorEq]
    clear hT
    go_enter Tryz.func131, Tryz.ntmps131
    go_wp2
    go_region_held_law (fun w' => w'.cell? ⟨w.heap.size, 0, none⟩ = some (.int .i64 12)) (first | assumption | go_keep) (first
      | (go_at_call 167; refine PW.mono ?_; rintro e w1 ⟨rfl, ro1, v1, h1, m1⟩; have i1 := (ix.keep m1 (by simp)).cell 0; have i2 := (ix.keep m1 (by simp)).cell 1; have r1 := rx.keep m1 (by simp); have bc := r1.cell; have bf := r1.free; have hc := h1.blk.cell 25; unfold mcells at hc; simp only [List.getElem?_toArray, List.getElem?_cons_succ, List.getElem?_cons_zero] at hc i1 i2; have hf := h1.blk.free 25; have ne1 : M ≠ w.heap.size + 1 := (by have := h1.blk.ne r1 (by omega); exact this))
      | (go_at_call 166; refine (TW _).mono ?_; rintro e w2 ⟨rfl, rfl⟩))
    all_goals
      go_wp2
      refine bodyPost_ret (v := .agg #[.int .i64 0, .int .i64 0, .float .f64 0, .bool false]) (by simp [results, Tryz.results131, go_sem, bc, bf, ne1, ne1.symm]) rfl ?_
      have hR : ro1 (w.heap.size + 1) ∈ [r + 12] := by rw [r1.role]; simp
      have n0 := Nat.le_succ w.heap.size
      exact ⟨rfl, ro1, _, (h1.put1 25 (.int .i64 n) { m with stack := k, place := n } rfl ⟨rfl, rfl, rfl, rfl, rfl⟩ rfl).keep (((((Mv.refl _ _ _).setCell hR _).setCell hR _).setCell hR _).setCell hR _) (by simp), (((((mR_mv M0.out (m1.mono fun _ => sR)).setCell h1.inR _).setNew n0 _).setNew n0 _).setNew n0 _).setNew n0 _⟩
set_option maxRecDepth 100000 in
set_option maxHeartbeats 1000000 in
theorem do_13 {ro : Nat → Nat} {r : Nat} {w : World} {M C tag code m p} {k : List Nat} {a : Nat} (h : MIs ro r w M C tag code m p) (n : Int) (x : Nat) (hs : m.stack = k ++ [a]) (hl : k.length < 64) :
    Calls Tryz.prog 131 #[ptr M, insV 13 n x] w (DoP ro r w M C tag code m (.ok ({ m with stack := k, place := if trueF a = false then n else m.place }, askNone))) := by
  have PW := pop_snoc (h.keep0 (box_mv ro r w 13 n x).drew) hs hl
  have ix := (box_ins ro r w 13 n x).keep (Mv.refl _ [] _).drew (by simp)
  have ix0 := (box_ins ro r w 13 n x).cell 0
  have rx := (box_res ro r w 13 n x).keep (Mv.refl _ [] _).drew (by simp)
  have M0 := Lib.hid (box_mv ro r w 13 n x).drew
  have TW := true_walk a
  have sf := run_store_float
  clear h hs
  unfold boxW at PW rx ix ix0
  simp only [List.getElem?_toArray, List.getElem?_cons_zero] at ix0
  simp only [ptr, insV] at PW ⊢
  cases hT : trueF a
  · rw [hT] at TW
    simp only [Bool.false_eq_true, if_false, if_true, reduceCtorEq]
    clear hT
    go_enter Tryz.func131, Tryz.ntmps131
    go_wp2
    go_region_held_law (fun w' => w'.cell? ⟨w.heap.size, 0, none⟩ = some (.int .i64 13)) (first | assumption | go_keep) (first
      | (go_at_call 167; refine PW.mono ?_; rintro e w1 ⟨rfl, ro1, v1, h1, m1⟩; have i1 := (ix.keep m1 (by simp)).cell 0; have i2 := (ix.keep m1 (by simp)).cell 1; have r1 := rx.keep m1 (by simp); have bc := r1.cell; have bf := r1.free; have hc := h1.blk.cell 25; unfold mcells at hc; simp only [List.getElem?_toArray, List.getElem?_cons_succ, List.getElem?_cons_zero] at hc i1 i2; have hf := h1.blk.free 25; have ne1 : M ≠ w.heap.size + 1 := (by have := h1.blk.ne r1 (by omega); exact this))
      | (go_at_call 166; refine (TW _).mono ?_; rintro e w2 ⟨rfl, rfl⟩))
    all_goals
      go_wp2
      refine bodyPost_ret (v := .agg #[.int .i64 0, .int .i64 0, .float .f64 0, .bool false]) (by simp [results, Tryz.results131, go_sem, bc, bf, ne1, ne1.symm]) rfl ?_
      have hR : ro1 (w.heap.size + 1) ∈ [r + 12] := by rw [r1.role]; simp
      have n0 := Nat.le_succ w.heap.size
      exact ⟨rfl, ro1, _, (h1.put1 25 (.int .i64 n) { m with stack := k, place := n } rfl ⟨rfl, rfl, rfl, rfl, rfl⟩ rfl).keep (((((Mv.refl _ _ _).setCell hR _).setCell hR _).setCell hR _).setCell hR _) (by simp), (((((mR_mv M0.out (m1.mono fun _ => sR)).setCell h1.inR _).setNew n0 _).setNew n0 _).setNew n0 _).setNew n0 _⟩
  · rw [hT] at TW
    simp only [Bool.false_eq_true, if_false, if_true, reduceCtorEq]
    clear hT
    go_enter Tryz.func131, Tryz.ntmps131
    go_wp2
    go_region_held_law (fun w' => w'.cell? ⟨w.heap.size, 0, none⟩ = some (.int .i64 13)) (first | assumption | go_keep) (first
      | (go_at_call 167; refine PW.mono ?_; rintro e w1 ⟨rfl, ro1, v1, h1, m1⟩; have i1 := (ix.keep m1 (by simp)).cell 0; have i2 := (ix.keep m1 (by simp)).cell 1; have r1 := rx.keep m1 (by simp); have bc := r1.cell; have bf := r1.free; have hc := h1.blk.cell 25; unfold mcells at hc; simp only [List.getElem?_toArray, List.getElem?_cons_succ, List.getElem?_cons_zero] at hc i1 i2; have hf := h1.blk.free 25; have ne1 : M ≠ w.heap.size + 1 := (by have := h1.blk.ne r1 (by omega); exact this))
      | (go_at_call 166; refine (TW _).mono ?_; rintro e w2 ⟨rfl, rfl⟩))
    all_goals
      go_wp2
      refine bodyPost_ret (v := .agg #[.int .i64 0, .int .i64 0, .float .f64 0, .bool false]) (by simp [results, Tryz.results131, go_sem, bc, bf, ne1, ne1.symm]) rfl ?_
      have hR : ro1 (w.heap.size + 1) ∈ [r + 12] := by rw [r1.role]; simp
      have n0 := Nat.le_succ w.heap.size
      exact ⟨rfl, ro1, _, h1.keep (((((Mv.refl _ _ _).setCell hR _).setCell hR _).setCell hR _).setCell hR _) (by simp), ((((mR_mv M0.out (m1.mono fun _ => sR)).setNew n0 _).setNew n0 _).setNew n0 _).setNew n0 _⟩
set_option maxRecDepth 100000 in
set_option maxHeartbeats 1000000 in
theorem do_14 {ro : Nat → Nat} {r : Nat} {w : World} {M C tag code m p} (h : MIs ro r w M C tag code m p) (n : Int) (x : Nat) (hl : m.calls.length < 16) :
    Calls Tryz.prog 131 #[ptr M, insV 14 n x] w (DoP ro r w M C tag code m (.ok ({ m with calls := m.calls ++ [m.place], place := n }, askNone))) := by
  have h0 := h.keep0 (box_mv ro r w 14 n x).drew
  have PW := ipush_walk _ (r + 3) (r + 4) _ p.K p.vk m.calls 16 m.place h0.cal (by omega) (by omega) (by omega)
  have ix := (box_ins ro r w 14 n x).keep (Mv.refl _ [] _).drew (by simp)
  have rx := (box_res ro r w 14 n x).keep (Mv.refl _ [] _).drew (by simp)
  have M0 := Lib.hid (box_mv ro r w 14 n x).drew
  have hcM := h.blk.cell
  have hlt := h.blk.lt
  have sf := run_store_float
  clear h
  unfold boxW at PW rx ix
  unfold mcells at hcM
  simp only [ptr, insV] at PW hcM ⊢
  go_enter Tryz.func131, Tryz.ntmps131
  go_wp2
  refine wp_region_noPanic ?_
  go_region_law (go_simp; (go_at_call 168; refine PW.mono ?_; rintro e w1 ⟨rfl, ro1, v1, s1, m1⟩; have h1 := h0.setCalls m1 s1; have i2 := (ix.keep m1 (by simp)).cell 1; have r1 := rx.keep m1 (by simp); have bc := r1.cell; have bf := r1.free; have hc := h1.blk.cell 25; unfold mcells at hc; simp only [List.getElem?_toArray, List.getElem?_cons_succ, List.getElem?_cons_zero] at hc i2; have hf := h1.blk.free 25; have ne1 : M ≠ w.heap.size + 1 := (by have := h1.blk.ne r1 (by omega); exact this)))
  all_goals
    refine NoPanic.normal ?_
    go_wp2
    refine bodyPost_ret (v := .agg #[.int .i64 0, .int .i64 0, .float .f64 0, .bool false]) (by simp [results, Tryz.results131, go_sem, bc, bf, ne1, ne1.symm]) rfl ?_
    have hR : ro1 (w.heap.size + 1) ∈ [r + 12] := by rw [r1.role]; simp
    have n0 := Nat.le_succ w.heap.size
    exact ⟨rfl, ro1, _, (h1.put1 25 (.int .i64 n) { m with calls := m.calls ++ [m.place], place := n } rfl ⟨rfl, rfl, rfl, rfl, rfl⟩ rfl).keep (((((Mv.refl _ _ _).setCell hR _).setCell hR _).setCell hR _).setCell hR _) (by simp), (((((mR_mv M0.out (m1.mono (by simp [mR]))).setCell h1.inR _).setNew n0 _).setNew n0 _).setNew n0 _).setNew n0 _⟩
set_option maxRecDepth 100000 in
set_option maxHeartbeats 1000000 in
theorem do_15_none {ro : Nat → Nat} {r : Nat} {w : World} {M C tag code m p} (h : MIs ro r w M C tag code m p) (n : Int) (x : Nat) (hl : m.calls = []) :
    Calls Tryz.prog 131 #[ptr M, insV 15 n x] w (DoP ro r w M C tag code m (.ok (m.ends 1 0 0))) := by
  have h0 := h.keep0 (box_mv ro r w 15 n x)
  have PW := ipop_none _ (r + 3) (r + 4) _ p.K p.vk 16 (by have := h0.cal; rw [hl] at this; exact this)
  have KW := ends_walk h0 1 0 0
  have rx := box_res ro r w 15 n x
  have M0 := Lib.hid (box_mv ro r w 15 n x)
  have hcM := h.blk.cell
  have hlt := h.blk.lt
  have sf := run_store_float
  clear h hl
  unfold boxW at PW rx KW
  unfold mcells at hcM
  simp only [ptr, insV, Ask.v, askEnd] at PW KW hcM ⊢
  go_enter Tryz.func131, Tryz.ntmps131
  go_wp2_with (first
    | (go_at_call 169; refine PW.mono ?_; rintro e w1 ⟨rfl, rfl⟩)
    | (go_at_call 128; refine KW.mono ?_; rintro e w1 ⟨rfl, ro1, p1, h1, m1⟩; have r1 := rx.keep m1 (by simp [mR]); have bc := r1.cell; have bf := r1.free))
  refine bodyPost_ret (v := .agg #[.int .i64 4, .int .i64 0, .float .f64 0, .bool false]) (by simp [results, Tryz.results131, go_sem, bc, bf]) rfl ?_
  have hR : ro1 (w.heap.size + 1) ∈ [r + 12] := by rw [r1.role]; simp
  have n0 := Nat.le_succ w.heap.size
  exact ⟨rfl, ro1, p1, h1.keep (((((Mv.refl _ _ _).setCell hR _).setCell hR _).setCell hR _).setCell hR _) (by simp), ((((mR_mv M0.out m1).setNew n0 _).setNew n0 _).setNew n0 _).setNew n0 _⟩
set_option maxRecDepth 100000 in
set_option maxHeartbeats 1000000 in
theorem do_15_some {ro : Nat → Nat} {r : Nat} {w : World} {M C tag code m p} {k : List Int} {q : Int} (h : MIs ro r w M C tag code m p) (n : Int) (x : Nat) (hl : m.calls = k ++ [q]) (h16 : k.length < 16) :
    Calls Tryz.prog 131 #[ptr M, insV 15 n x] w (DoP ro r w M C tag code m (.ok ({ m with calls := k, place := q }, askNone))) := by
  have h0 := h.keep0 (box_mv ro r w 15 n x)
  have PW := ipop_walk _ (r + 3) (r + 4) _ p.K p.vk m.calls 16 h0.cal (by rw [hl]; simp) (by rw [hl]; simp; omega) (by omega)
  rw [show m.calls.getD (m.calls.length - 1) 0 = q by rw [hl]; simp, show m.calls.take (m.calls.length - 1) = k by rw [hl]; simp] at PW
  have rx := box_res ro r w 15 n x
  have M0 := Lib.hid (box_mv ro r w 15 n x)
  have hcM := h.blk.cell
  have hlt := h.blk.lt
  have sf := run_store_float
  clear h hl
  unfold boxW at PW rx
  unfold mcells at hcM
  simp only [ptr, insV] at PW hcM ⊢
  go_enter Tryz.func131, Tryz.ntmps131
  go_wp2_with (first
    | (go_at_call 169; refine PW.mono ?_; rintro e w1 ⟨rfl, v1, s1, m1⟩; have h1 := h0.setCalls m1 s1; have r1 := rx.keep m1 (by simp); have bc := r1.cell; have bf := r1.free; have hc := h1.blk.cell 25; unfold mcells at hc; simp only [List.getElem?_toArray, List.getElem?_cons_succ, List.getElem?_cons_zero] at hc; have hf := h1.blk.free 25; have ne1 : M ≠ w.heap.size + 1 := (by have := h1.blk.ne r1 (by omega); exact this)))
  refine bodyPost_ret (v := .agg #[.int .i64 0, .int .i64 0, .float .f64 0, .bool false]) (by simp [results, Tryz.results131, go_sem, bc, bf, ne1, ne1.symm]) rfl ?_
  have hR : ro2 ro w.heap.size r (w.heap.size + 1) ∈ [r + 12] := by rw [r1.role]; simp
  have n0 := Nat.le_succ w.heap.size
  exact ⟨rfl, _, _, (h1.put1 25 (.int .i64 q) { m with calls := k, place := q } rfl ⟨rfl, rfl, rfl, rfl, rfl⟩ rfl).keep (((((Mv.refl _ _ _).setCell hR _).setCell hR _).setCell hR _).setCell hR _) (by simp), (((((mR_mv M0.out (m1.mono (by simp [mR]))).setCell h1.inR _).setNew n0 _).setNew n0 _).setNew n0 _).setNew n0 _⟩
set_option maxRecDepth 100000 in
set_option maxHeartbeats 1000000 in
theorem do_reck {ro : Nat → Nat} {r : Nat} {w : World} {M C tag code m p} (h : MIs ro r w M C tag code m p) (op n : Int) (x : Nat) (m' : Ms) (ho : op ≠ 11 ∧ op ≠ 12 ∧ op ≠ 13 ∧ op ≠ 14 ∧ op ≠ 15 ∧ op ≠ 16 ∧ op ≠ 17 ∧ op ≠ 19 ∧ op ≠ 20)
    (RW : ∀ ro' W, MIs ro' r W M C tag code m p → Calls Tryz.prog 170 #[ptr M, insV op n x] W (UpM ro' r W M C tag code m' (.tuple #[]))) :
    Calls Tryz.prog 131 #[ptr M, insV op n x] w (DoP ro r w M C tag code m (.ok (m', askNone))) := by
  have KW := RW _ _ (h.keep0 (box_mv ro r w op n x))
  have rx := box_res ro r w op n x
  have M0 := Lib.hid (box_mv ro r w op n x)
  have sf := run_store_float
  obtain ⟨o1, o2, o3, o4, o5, o6, o7, o8, o9⟩ := ho
  have o1' : (op == 11) = false := by simpa using o1
  have o2' : (op == 12) = false := by simpa using o2
  have o3' : (op == 13) = false := by simpa using o3
  have o4' : (op == 14) = false := by simpa using o4
  have o5' : (op == 15) = false := by simpa using o5
  have o6' : (op == 16) = false := by simpa using o6
  have o7' : (op == 17) = false := by simpa using o7
  have o8' : (op == 19) = false := by simpa using o8
  have o9' : (op == 20) = false := by simpa using o9
  clear RW h o1 o2 o3 o4 o5 o6 o7 o8 o9
  unfold boxW at KW rx
  simp only [ptr, insV] at KW ⊢
  go_enter Tryz.func131, Tryz.ntmps131
  go_wp2_with (go_at_call 170; refine KW.mono ?_; rintro e w1 ⟨rfl, ro1, p1, h1, m1⟩; have r1 := rx.keep m1 (by simp [mR]); have bc := r1.cell; have bf := r1.free)
  refine bodyPost_ret (v := .agg #[.int .i64 0, .int .i64 0, .float .f64 0, .bool false]) (by simp [results, Tryz.results131, go_sem, bc, bf]) rfl ?_
  have hR : ro1 (w.heap.size + 1) ∈ [r + 12] := by rw [r1.role]; simp
  have n0 := Nat.le_succ w.heap.size
  exact ⟨rfl, ro1, p1, h1.keep (((((Mv.refl _ _ _).setCell hR _).setCell hR _).setCell hR _).setCell hR _) (by simp), ((((mR_mv M0.out m1).setNew n0 _).setNew n0 _).setNew n0 _).setNew n0 _⟩
end Go.Proofs.YtphaeodcomgffaaGreat
