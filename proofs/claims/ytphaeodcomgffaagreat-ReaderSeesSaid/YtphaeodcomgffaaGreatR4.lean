import Derived.Test.YtphaeodcomgffaaGreatR3
set_option linter.unusedVariables false
set_option linter.unusedSimpArgs false
namespace Go.Proofs.YtphaeodcomgffaaGreat
open Go.RowKit

theorem putS_nodup {most : Int} {l : List (Int × Nat)} {c : Int} {x : Nat} {q : List (Int × Nat) × Bool} (h : putS most l c x = some q) (hn : (l.map (·.1)).Nodup) : (q.1.map (·.1)).Nodup := by
  unfold putS at h
  cases hw : wrote l c with
  | none =>
    rw [hw] at h
    simp only at h
    split at h
    · cases h
    · cases h
      rw [List.map_append, List.nodup_append]
      refine ⟨hn, by simp, ?_⟩
      intro a ha b hb
      simp at hb
      subst hb
      obtain ⟨t, ht, rfl⟩ := List.mem_map.1 ha
      exact wrote_none_mem hw t ht
  | some y =>
    rw [hw] at h
    cases h
    simp only
    rw [rewrite_fst]
    exact hn
set_option maxRecDepth 100000 in
set_option maxHeartbeats 1000000 in
theorem write_tag {ro : Nat → Nat} {r : Nat} {w : World} {M C tag code m p} (h : MIs ro r w M C tag code m p) (ht : tag ≠ 2) :
    Calls Tryz.prog 165 #[ptr M] w (Or2 ro r w M C tag code m (.error 81)) := by
  have m0 : Mv ro [] w (setRo ro w.heap.size (r + 11)) (w.alloc (.cells #[.int .i64 0, .int .i64 0, .float .f64 0, .bool false] 139)) := ((Mv.refl ro [] w).alloc _).give (Nat.le_refl _)
  have h0 := h.keep0 m0
  have hc := h.blk.cell 4
  have hlt := h.blk.lt
  unfold mcells at hc
  simp only [List.getElem?_toArray, List.getElem?_cons_succ, List.getElem?_cons_zero] at hc
  have hm := must_bad 81 (by decide)
  unfold faultE at hm
  have ht' : (tag != 2) = true := by simpa using ht
  have M0 := Lib.hid m0
  clear h m0 ht
  simp only [ptr]
  go_enter Tryz.func165, Tryz.ntmps165
  go_wp2_with (go_at_call 129; refine (hm _).mono ?_; rintro e w1 ⟨rfl, rfl⟩)
  exact ⟨rfl, rfl, _, p, h0, M0.out.mono (by simp)⟩
set_option maxRecDepth 100000 in
set_option maxHeartbeats 1000000 in
theorem write_addr {ro : Nat → Nat} {r : Nat} {w : World} {M C code m p} {k : List Nat} {a : Nat} (h : MIs ro r w M C 2 code m p) (hs : m.stack = k ++ [a]) (hl : k.length < 64) (hi : indexF a C.cells = none) :
    Calls Tryz.prog 165 #[ptr M] w (Or2 ro r w M C 2 code m (.error 50)) := by
  have m0 : Mv ro [] w (setRo ro w.heap.size (r + 11)) (w.alloc (.cells #[.int .i64 0, .int .i64 0, .float .f64 0, .bool false] 139)) := ((Mv.refl ro [] w).alloc _).give (Nat.le_refl _)
  have h0 := h.keep0 m0
  have hc := h.blk.cell 4
  have hlt := h.blk.lt
  unfold mcells at hc
  simp only [List.getElem?_toArray, List.getElem?_cons_succ, List.getElem?_cons_zero] at hc
  have AW := address_no h0 hs hl hi
  unfold faultE at AW
  have M0 := Lib.hid m0
  clear h m0 hs hi
  simp only [ptr] at AW ⊢
  go_enter Tryz.func165, Tryz.ntmps165
  go_wp2_with (go_at_call 203; refine AW.mono ?_; rintro e w1 ⟨rfl, q, rfl⟩)
  exact ⟨rfl, rfl, _, p, h0.keep0 ((Mv.refl _ [] _).drewN q), (M0.out.mono (by simp)).drewN q⟩
set_option maxRecDepth 100000 in
set_option maxHeartbeats 1000000 in
theorem write_many {ro : Nat → Nat} {r : Nat} {w : World} {M C code m p} {k : List Nat} {a x : Nat} {c : Int} (h : MIs ro r w M C 2 code m p) (hs : m.stack = (k ++ [x]) ++ [a]) (hl : k.length < 63) (hi : indexF a C.cells = some c) (hb : (m.writes.length : Int) ≤ C.writes) (hm : C.writes ≤ 32) (hw : putS C.writes m.writes c (fx x) = none) :
    Calls Tryz.prog 165 #[ptr M] w (Or2 ro r w M C 2 code m (.error 70)) := by
  have m0 : Mv ro [] w (setRo ro w.heap.size (r + 11)) (w.alloc (.cells #[.int .i64 0, .int .i64 0, .float .f64 0, .bool false] 139)) := ((Mv.refl ro [] w).alloc _).give (Nat.le_refl _)
  have h0 := h.keep0 m0
  have hc := h.blk.cell
  have hlt := h.blk.lt
  unfold mcells at hc
  have AW := address_ok h0 hs (by simp; omega) hi
  have KW := fun q => fpick_walk _ (r + 1) (r + 2) _ p.N p.vn m.stack 64 1 (h0.keep0 ((Mv.refl _ [] _).drewN q)).num (by rw [hs]; simp) (by rw [hs]; simp; omega)
  rw [show m.stack.getD (m.stack.length - 1 - 1) 0 = x by rw [hs]; simp] at KW
  have BW := fun q => bput_walk _ (r + 5) _ p.B p.D p.vw m.writes C.writes c x (h0.keep0 ((Mv.refl _ [] _).drewN q)).buf h.nd hb hm
  rw [hw] at BW
  have hm := must_bad 70 (by decide)
  unfold faultE at hm
  have M0 := Lib.hid m0
  clear h m0 hs hi hw
  simp only [ptr] at AW KW BW hc ⊢
  go_enter Tryz.func165, Tryz.ntmps165
  go_wp2_with (first
    | (go_at_call 203; refine AW.mono ?_; rintro e w1 ⟨rfl, q, rfl⟩)
    | (go_at_call 205; refine (KW _).mono ?_; rintro e w1 ⟨rfl, q2, rfl⟩)
    | (go_at_call 206; refine (BW _).mono ?_; rintro e w1 ⟨rfl, q3, rfl⟩)
    | (go_at_call 129; refine (hm _).mono ?_; rintro e w1 ⟨rfl, rfl⟩))
  exact ⟨rfl, rfl, _, p, h0.keep0 ((Mv.refl _ [] _).drewN _), (M0.out.mono (by simp)).drewN _⟩
set_option maxRecDepth 100000 in
set_option maxHeartbeats 1000000 in
theorem write_ok {ro : Nat → Nat} {r : Nat} {w : World} {M C code m p} {k : List Nat} {a x : Nat} {c : Int} {l : List (Int × Nat)} {f : Bool} (h : MIs ro r w M C 2 code m p) (hs : m.stack = (k ++ [x]) ++ [a]) (hl : k.length < 63) (hi : indexF a C.cells = some c) (hb : (m.writes.length : Int) ≤ C.writes) (hm : C.writes ≤ 32) (hw : putS C.writes m.writes c (fx x) = some (l, f)) :
    Calls Tryz.prog 165 #[ptr M] w (UpM ro r w M C 2 code { m with stack := k, writes := l } (askV 3 c x f)) := by
  have m0 : Mv ro [] w (setRo ro w.heap.size (r + 11)) (w.alloc (.cells #[.int .i64 0, .int .i64 0, .float .f64 0, .bool false] 139)) := ((Mv.refl ro [] w).alloc _).give (Nat.le_refl _)
  have h0 := h.keep0 m0
  have hc := h.blk.cell
  have hlt := h.blk.lt
  unfold mcells at hc
  have AW := address_ok h0 hs (by simp; omega) hi
  have KW := fun q => fpick_walk _ (r + 1) (r + 2) _ p.N p.vn m.stack 64 1 (h0.keep0 ((Mv.refl _ [] _).drewN q)).num (by rw [hs]; simp) (by rw [hs]; simp; omega)
  rw [show m.stack.getD (m.stack.length - 1 - 1) 0 = x by rw [hs]; simp] at KW
  have BW := fun q => bput_walk _ (r + 5) _ p.B p.D p.vw m.writes C.writes c x (h0.keep0 ((Mv.refl _ [] _).drewN q)).buf h.nd hb hm
  have bx := fun q => (Blk.new ro (r + 11) w #[.int .i64 0, .int .i64 0, .float .f64 0, .bool false] 139).keep ((Mv.refl _ [] _).drewN q) (by simp)
  rw [hw] at BW
  have ND := Lib.hid (putS_nodup hw h.nd)
  have HS := Lib.hid hs
  have sf := run_store_float
  have M0 := Lib.hid m0
  clear h m0 hs hi hw
  simp only [ptr] at AW KW BW hc ⊢
  have tk1 : True := trivial
  go_enter Tryz.func165, Tryz.ntmps165
  go_wp2_with (first
    | (go_at_call 203; refine AW.mono ?_; rintro e w1 ⟨rfl, q, rfl⟩)
    | (go_at_call 205; refine (KW _).mono ?_; rintro e w1 ⟨rfl, q2, rfl⟩)
    | (go_at_call 206; refine (BW _).mono ?_; rintro e w1 ⟨rfl, ro1, v1, b1, m1⟩; have h1 := (h0.keep0 ((Mv.refl _ [] _).drewN _)).setBuf m1 b1 ND.out; have x1 := (bx _).keep m1 (by simp <;> omega); have tk2 : True := trivial)
    | (go_at_call 129; refine (must_ok _).mono ?_; rintro e w2 ⟨rfl, rfl⟩)
    | (go_at_call 167; have _t := tk1; clear tk1; refine (pop_snoc h1 HS.out (by simp; omega)).mono ?_; rintro e w3 ⟨rfl, ro3, v3, h3, m3⟩; have x3 := x1.keep m3 (by simp))
    | (go_at_call 167; refine (pop_snoc (k := k) (a := x) h3 rfl (by omega)).mono ?_; rintro e w4 ⟨rfl, ro4, v4, h4, m4⟩; have x4 := x3.keep m4 (by simp); have bc := x4.cell; have bf := x4.free))
  refine bodyPost_ret (v := .agg #[.int .i64 3, .int .i64 c, .float .f64 x, .bool f]) (by simp [results, Tryz.results165, go_sem, bc, bf]) rfl ?_
  have hR : ro4 w.heap.size ∈ [r + 11] := by rw [x4.role]; simp
  have n0 := Nat.le_refl w.heap.size
  exact ⟨rfl, _, _, h4.keep (((((Mv.refl _ _ _).setCell hR _).setCell hR _).setCell hR _).setCell hR _) (by simp), ((((((((M0.out.mono (by simp)).drewN _).trans (m1.mono (by simp [mR]))).trans ((m3.trans m4).mono fun _ => sR))).setNew n0 _).setNew n0 _).setNew n0 _).setNew n0 _⟩
end Go.Proofs.YtphaeodcomgffaaGreat
