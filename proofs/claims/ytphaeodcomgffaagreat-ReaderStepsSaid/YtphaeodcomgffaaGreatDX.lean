import Derived.Test.YtphaeodcomgffaaGreatDV
import Derived.Test.YtphaeodcomgffaaGreatC0
set_option linter.unusedVariables false
set_option linter.unusedSimpArgs false
namespace Go.Proofs.YtphaeodcomgffaaGreat
open Go.RowKit

/-! The document's machine: a write. -/
theorem copy_new {α : Type} {f : α → List Value} {ro1 : Nat → Nat} {r : Nat} {w w' : World} {E size : Nat} {v : Value} {l : List α} (o : OwnL f (newRo (fun _ => 0) w.heap.size 1) 1 w' E size v l) (m : Mv (fun _ => 0) [] w (newRo (fun _ => 0) w.heap.size 1) w') :
    (∀ g, v.ownBlock = some g → w.heap.size ≤ g) ∧ OwnL f (newRo ro1 w.heap.size r) r w' E size v l ∧ Mv ro1 [] w (newRo ro1 w.heap.size r) w' := by
  have hg : ∀ g, v.ownBlock = some g → w.heap.size ≤ g := fun g hg => by
    have h1 := o.role g hg
    unfold newRo at h1
    split at h1
    · cases h1
    · omega
  exact ⟨hg, ⟨o.own, fun g h => newRo_ge (hg g h)⟩, ⟨fun k hk => by unfold newRo; rw [if_pos hk], m.os, m.tape, m.output, m.size, fun k hk _ => m.block k hk (by simp)⟩⟩
/-- The writes, the first k rewritten. -/
def rewK (l : List (Int × Nat)) (c : Int) (y : Nat) (k : Nat) : List (Int × Nat) := rewrite (l.take k) c y ++ l.drop k
theorem rewK_0 (l : List (Int × Nat)) (c : Int) (y : Nat) : rewK l c y 0 = l := rfl
theorem rewK_all (l : List (Int × Nat)) (c : Int) (y : Nat) : rewK l c y l.length = rewrite l c y := by unfold rewK; rw [List.take_length, List.drop_length, List.append_nil]
theorem rewK_len (l : List (Int × Nat)) (c : Int) (y k : Nat) : (rewK l c y k).length = l.length := by unfold rewK; rw [List.length_append, rewrite_len, List.length_take, List.length_drop]; omega
theorem rewK_at {l : List (Int × Nat)} {c : Int} {y k : Nat} (hk : k < l.length) : (rewK l c y k)[k]? = some l[k] := by
  unfold rewK
  rw [List.getElem?_append_right (by rw [rewrite_len, List.length_take]; omega), rewrite_len, List.length_take, Nat.min_eq_left (by omega), Nat.sub_self, List.getElem?_drop, Nat.add_zero, List.getElem?_eq_getElem hk]
theorem rewK_ne {l : List (Int × Nat)} {c : Int} {y k : Nat} (hk : k < l.length) (h : l[k].1 ≠ c) : rewK l c y (k + 1) = rewK l c y k := by
  unfold rewK
  rw [List.take_add_one, List.getElem?_eq_getElem hk]
  unfold rewrite
  rw [List.map_append]
  simp only [Option.toList, List.map_cons, List.map_nil, if_neg h, List.append_assoc, List.singleton_append]
  rw [← List.drop_eq_getElem_cons hk]
theorem rewK_eq {l : List (Int × Nat)} {c : Int} {y k : Nat} (hk : k < l.length) (h : l[k].1 = c) : rewK l c y (k + 1) = (rewK l c y k).set k (c, y) := by
  have e : (rewrite (l.take k) c y).length = k := by rw [rewrite_len, List.length_take]; omega
  have e2 : rewrite (l.take (k + 1)) c y = rewrite (l.take k) c y ++ [(c, y)] := by
    unfold rewrite
    rw [List.take_add_one, List.getElem?_eq_getElem hk, List.map_append]
    simp only [Option.toList, List.map_cons, List.map_nil, if_pos h]
  unfold rewK
  rw [e2, List.set_append_right _ _ (by omega), e, Nat.sub_self, List.drop_eq_getElem_cons hk, List.set_cons_zero, List.append_assoc]
  rfl
theorem setT_flat (l : List (Int × Nat)) (i x : Nat) (hi : i < l.length) : (l.set i ((l[i]'hi).1, x)).flatMap cT = (l.flatMap cT).set (i * 2 + 1) (.float .f64 x) := by
  induction l generalizing i with
  | nil => simp at hi
  | cons a l ih =>
    cases i with
    | zero => rfl
    | succ i =>
      rw [List.set_cons_succ, List.flatMap_cons, List.flatMap_cons]
      have hi' : i < l.length := by simpa using hi
      rw [show ((a :: l)[i + 1]'hi) = l[i]'hi' from rfl, ih i hi']
      rw [List.set_append_right _ _ (by simp [cT]; omega)]
      congr 2
      simp [cT]; omega
theorem OwnL.setT {ro : Nat → Nat} {r : Nat} {w : World} {E g n cap : Nat} {l : List (Int × Nat)} (h : OwnL cT ro r w E 2 (.slice (some ⟨g, 0, none⟩) n cap) l) (i x : Nat) (hi : i < l.length) : OwnL cT ro r (w.setCell ⟨g, i * 2 + 1, none⟩ (.float .f64 x)) E 2 (.slice (some ⟨g, 0, none⟩) n cap) (l.set i ((l[i]'hi).1, x)) := by
  have hl : n = l.length := by obtain ⟨a, c, e⟩ := h.form; cases e; rfl
  subst hl
  refine ⟨⟨?_, ?_⟩, fun k hk => h.role k hk⟩
  · rw [setT_flat, List.length_set, List.length_set]; exact h.own.1
  · rcases h.own.2 with ⟨h1, h2⟩ | ⟨g', cap', cur, h1, hB, hg, hc, hm, hs, ht⟩
    · cases h1
    · cases h1
      refine .inr ⟨g, cap, cur.setIfInBounds (i * 2 + 1) (.float .f64 x), by rw [List.length_set], hB, heap_put hg rfl, by rw [List.length_set]; exact hc, hm, by simpa using hs, ?_⟩
      rw [List.length_set, setT_flat, ← ht, Array.toList_setIfInBounds, List.take_set]
theorem DM.setW {ro : Nat → Nat} {r : Nat} {w w' : World} {M C tag vc p v R} {d : Dm} {l : List (Int × Nat)} (h : DM ro r w M C tag vc d p) (hv : p.vb = v) (m : Mv ro R w ro w') (hR : ∀ x ∈ R, x = r + 7) (o : RdL cT ro (r + 7) w' 2 v l) : DM ro r w' M C tag vc { d with writes := l } p := by
  have k : ∀ i, i ≤ 6 → r + i ∉ R := fun i hi hx => by have := hR _ hx; omega
  exact ⟨h.blk.keep m (k 0 (by omega)), h.args.keep m (k 1 (by omega)), h.stack.keep m (k 2 (by omega)), h.calls.keep m (k 3 (by omega)), h.locals.keep m (k 4 (by omega)), h.out.keep m (k 5 (by omega)), h.reads.keep m (k 6 (by omega)), by rw [hv]; exact o⟩
set_option maxRecDepth 100000 in
set_option maxHeartbeats 4000000 in
theorem dwrite_tag {ro : Nat → Nat} {r : Nat} {w : World} {M C tag vc p} {m : Ms} (h : DM ro r w M C tag vc m.dm p) (hl : m.stack.length ≤ 64) (ht : tag ≠ 2) :
    Calls Tryz.prog 147 #[ptr M] w (DUp ro r w M C tag vc (m.fails 81).1.dm askEnd.v) := by
  have H1 := Lib.hid (h.keep0 (ans_mv ro r w))
  have R1 := Lib.hid (ans_blk ro r w)
  have M0 := Lib.hid (ans_mv ro r w)
  have hcw := h.blk.cell
  have hltw := h.blk.lt
  unfold dcells at hcw
  have FW := Lib.hid (show ∀ W, Mv (setRo ro w.heap.size (r + 12)) [] (ansW w) (setRo ro w.heap.size (r + 12)) W → Calls Tryz.prog 114 #[ptr M, .int .i64 81] W (AnP ro r w M C tag vc (m.fails 81).1.dm askEnd.v) from fun W mv => dfails_an (mv.mono (by simp)) (H1.out.keep0 mv) 81)
  clear h
  have sf := run_store_float
  simp only [ptr, askEnd, askNone, Ask.v] at *
  unfold ansW at *
  go_enter Tryz.func147, Tryz.ntmps147
  go_wp2_with ((go_at_call 114; refine (FW.out _ (by repeat (first | with_reducible exact Mv.refl _ _ _ | refine Mv.alloc ?_ _ | refine Mv.drewN ?_ _ | refine Mv.drew ?_))).mono ?_; rintro e w1 ⟨rfl, ro1, p1, h1, m1, r1⟩; have bc := r1.cell; have bf := r1.free))
  refine bodyPost_ret (v := .agg #[.int .i64 4, .int .i64 0, .float .f64 0, .bool false]) (by simp [results, Tryz.results147, go_sem, bc, bf]) rfl ?_
  have hR : ro1 w.heap.size ∈ [r + 12] := by rw [r1.role]; simp
  have n0 := Nat.le_refl w.heap.size
  exact ⟨rfl, ro1, _, h1.keep (((((Mv.refl _ _ _).setCell hR _).setCell hR _).setCell hR _).setCell hR _) (by simp), (((m1.setNew n0 _).setNew n0 _).setNew n0 _).setNew n0 _⟩
set_option maxRecDepth 100000 in
set_option maxHeartbeats 4000000 in
theorem dwrite_idx {ro : Nat → Nat} {r : Nat} {w : World} {M C tag vc p} {m : Ms} (h : DM ro r w M C tag vc m.dm p) (hl : m.stack.length ≤ 64) (ht : tag = 2) (h1 : 2 ≤ m.stack.length) (hi : indexF (m.top 0) C.cells = none) :
    Calls Tryz.prog 147 #[ptr M] w (DUp ro r w M C tag vc (m.fails 50).1.dm askEnd.v) := by
  subst ht
  have H1 := Lib.hid (h.keep0 (ans_mv ro r w))
  have R1 := Lib.hid (ans_blk ro r w)
  have M0 := Lib.hid (ans_mv ro r w)
  have hcw := h.blk.cell
  have hltw := h.blk.lt
  unfold dcells at hcw
  have TW0 : TopC M (setRo ro w.heap.size (r + 12)) (ansW w) 0 (m.top 0) := ⟨fun W mv => dtop_walk (H1.out.keep0 mv) 0 (by omega) (by omega)⟩
  have FW := Lib.hid (show ∀ W, Mv (setRo ro w.heap.size (r + 12)) [] (ansW w) (setRo ro w.heap.size (r + 12)) W → Calls Tryz.prog 114 #[ptr M, .int .i64 50] W (AnP ro r w M C 2 vc (m.fails 50).1.dm askEnd.v) from fun W mv => dfails_an (mv.mono (by simp)) (H1.out.keep0 mv) 50)
  have IW := rindex_walk (m.top 0) C.cells
  rw [hi] at IW
  unfold idxV at IW
  clear h hi
  generalize m.top 0 = y0 at *
  have sf := run_store_float
  simp only [ptr, askEnd, askNone, Ask.v] at *
  unfold ansW at *
  go_enter Tryz.func147, Tryz.ntmps147
  go_wp2
  clear hcw hltw
  generalize hW : w.alloc (.cells #[.int .i64 0, .int .i64 0, .float .f64 0, .bool false] 139) = W at *
  have hc := H1.out.blk.cell
  have hf := H1.out.blk.free
  have hlt := H1.out.blk.lt
  unfold dcells at hc
  clear hW
  go_quiet (first | (go_at_call 142; exact Calls.quiet_of (topc_at (by assumption) _ (by repeat (first | with_reducible exact Mv.refl _ _ _ | refine Mv.alloc ?_ _ | refine Mv.drewN ?_ _ | refine Mv.drew ?_)))) | (go_at_call 187; exact Calls.quiet_of_same (IW _)))
  go_wp2_with ((go_at_call 114; refine (FW.out _ (by repeat (first | with_reducible exact Mv.refl _ _ _ | refine Mv.alloc ?_ _ | refine Mv.drewN ?_ _ | refine Mv.drew ?_))).mono ?_; rintro e w1 ⟨rfl, ro1, p1, h1, m1, r1⟩; have bc := r1.cell; have bf := r1.free))
  refine bodyPost_ret (v := .agg #[.int .i64 4, .int .i64 0, .float .f64 0, .bool false]) (by simp [results, Tryz.results147, go_sem, bc, bf]) rfl ?_
  have hR : ro1 w.heap.size ∈ [r + 12] := by rw [r1.role]; simp
  have n0 := Nat.le_refl w.heap.size
  exact ⟨rfl, ro1, _, h1.keep (((((Mv.refl _ _ _).setCell hR _).setCell hR _).setCell hR _).setCell hR _) (by simp), (((m1.setNew n0 _).setNew n0 _).setNew n0 _).setNew n0 _⟩
set_option maxRecDepth 100000 in
set_option maxHeartbeats 4000000 in
theorem dwrite_full {ro : Nat → Nat} {r : Nat} {w : World} {M C tag vc p} {m : Ms} (h : DM ro r w M C tag vc m.dm p) (hl : m.stack.length ≤ 64) (ht : tag = 2) (h1 : 2 ≤ m.stack.length) (hwl : m.writes.length ≤ 32) (c : Int) (hi : indexF (m.top 0) C.cells = some c) (hwr : wrote m.writes c = none) (hfull : (m.writes.length : Int) = C.writes) :
    Calls Tryz.prog 147 #[ptr M] w (DUp ro r w M C tag vc (m.fails 70).1.dm askEnd.v) := by
  subst ht
  obtain ⟨ba, bn, bc0, evb⟩ : ∃ a n c, p.vb = .slice a n c := h.writes.form3
  have hbn : bn = m.writes.length := by obtain ⟨a, c, e, _⟩ := h.writes.slice; rw [evb] at e; cases e; rfl
  subst hbn
  have EVB := Lib.hid evb
  have H1 := Lib.hid (h.keep0 (ans_mv ro r w))
  have R1 := Lib.hid (ans_blk ro r w)
  have M0 := Lib.hid (ans_mv ro r w)
  have hcw := h.blk.cell
  have hltw := h.blk.lt
  unfold dcells at hcw
  have TW0 : TopC M (setRo ro w.heap.size (r + 12)) (ansW w) 0 (m.top 0) := ⟨fun W mv => dtop_walk (H1.out.keep0 mv) 0 (by omega) (by omega)⟩
  have TW1 : TopC M (setRo ro w.heap.size (r + 12)) (ansW w) 1 (m.top 1) := ⟨fun W mv => dtop_walk (H1.out.keep0 mv) 1 (by omega) (by omega)⟩
  have FW := Lib.hid (show ∀ W, Mv (setRo ro w.heap.size (r + 12)) [] (ansW w) (setRo ro w.heap.size (r + 12)) W → Calls Tryz.prog 114 #[ptr M, .int .i64 70] W (AnP ro r w M C 2 vc (m.fails 70).1.dm askEnd.v) from fun W mv => dfails_an (mv.mono (by simp)) (H1.out.keep0 mv) 70)
  have WW := Lib.hid (show ∀ W, Mv (setRo ro w.heap.size (r + 12)) [] (ansW w) (setRo ro w.heap.size (r + 12)) W → Calls Tryz.prog 188 #[ptr M, .int .i64 c] W (WroteP W none) from fun W mv => by
    have := dwrote_walk (H1.out.keep0 mv) hwl c
    rwa [hwr] at this)
  have IW := rindex_walk (m.top 0) C.cells
  rw [hi] at IW
  unfold idxV at IW
  clear h hi hwr evb
  generalize m.top 0 = y0 at *
  generalize m.top 1 = y1 at *
  have sf := run_store_float
  simp only [ptr, askEnd, askNone, Ask.v] at *
  unfold ansW at *
  go_enter Tryz.func147, Tryz.ntmps147
  go_wp2
  clear hcw hltw
  generalize hW : w.alloc (.cells #[.int .i64 0, .int .i64 0, .float .f64 0, .bool false] 139) = W at *
  have hc := H1.out.blk.cell
  have hf := H1.out.blk.free
  have hlt := H1.out.blk.lt
  unfold dcells at hc
  clear hW
  go_quiet (first | (go_at_call 142; exact Calls.quiet_of (topc_at (by assumption) _ (by repeat (first | with_reducible exact Mv.refl _ _ _ | refine Mv.alloc ?_ _ | refine Mv.drewN ?_ _ | refine Mv.drew ?_)))) | (go_at_call 187; exact Calls.quiet_of_same (IW _)))
  go_wp2_with (first | (go_at_call 142; refine (topc_at (by assumption) _ (by repeat (first | with_reducible exact Mv.refl _ _ _ | refine Mv.alloc ?_ _ | refine Mv.drewN ?_ _ | refine Mv.drew ?_))).mono ?_; rintro e w0 ⟨rfl, q0, rfl⟩) | (go_at_call 188; refine (WW.out _ (by repeat (first | with_reducible exact Mv.refl _ _ _ | refine Mv.alloc ?_ _ | refine Mv.drewN ?_ _ | refine Mv.drew ?_))).mono ?_; rintro e w2 ⟨rfl, b2⟩; have q2 : Mv (setRo ro w.heap.size (r + 12)) [] W (setRo ro w.heap.size (r + 12)) w2 := Mv.then_below (by repeat (first | with_reducible exact Mv.refl _ _ _ | refine Mv.alloc ?_ _ | refine Mv.drewN ?_ _ | refine Mv.drew ?_)) b2; have hc2 := (H1.out.blk.keep q2 (by simp)).cell; unfold dcells at hc2; rw [EVB.out] at hc2; have Q2 := Lib.hid q2; clear b2 q2))
  go_quiet (fail)
  go_wp2_with ((go_at_call 114; refine (FW.out _ (Q2.out.drewN _)).mono ?_; rintro e w1 ⟨rfl, ro1, p1, h1, m1, r1⟩; have bc := r1.cell; have bf := r1.free))
  refine bodyPost_ret (v := .agg #[.int .i64 4, .int .i64 0, .float .f64 0, .bool false]) (by simp [results, Tryz.results147, go_sem, bc, bf]) rfl ?_
  have hR : ro1 w.heap.size ∈ [r + 12] := by rw [r1.role]; simp
  have n0 := Nat.le_refl w.heap.size
  exact ⟨rfl, ro1, _, h1.keep (((((Mv.refl _ _ _).setCell hR _).setCell hR _).setCell hR _).setCell hR _) (by simp), (((m1.setNew n0 _).setNew n0 _).setNew n0 _).setNew n0 _⟩
set_option maxRecDepth 100000 in
set_option maxHeartbeats 4000000 in
theorem dwrite_first {ro : Nat → Nat} {r : Nat} {w : World} {M C tag vc p} {m : Ms} (h : DM ro r w M C tag vc m.dm p) (hl : m.stack.length ≤ 64) (ht : tag = 2) (h1 : 2 ≤ m.stack.length) (hwl : m.writes.length ≤ 32) (c : Int) (hi : indexF (m.top 0) C.cells = some c) (hwr : wrote m.writes c = none) (hfull : (m.writes.length : Int) ≠ C.writes) :
    Calls Tryz.prog 147 #[ptr M] w (DUp ro r w M C tag vc ({ m.trade 2 [] with writes := m.writes ++ [(c, m.top 1)] } : Ms).dm (.agg #[.int .i64 3, .int .i64 c, .float .f64 (m.top 1), .bool true])) := by
  subst ht
  obtain ⟨ba, bn, bc0, evb⟩ : ∃ a n c, p.vb = .slice a n c := h.writes.form3
  have hbn : bn = m.writes.length := by obtain ⟨a, c, e, _⟩ := h.writes.slice; rw [evb] at e; cases e; rfl
  subst hbn
  have EVB := Lib.hid evb
  have H1 := Lib.hid (h.keep0 (ans_mv ro r w))
  have R1 := Lib.hid (ans_blk ro r w)
  have M0 := Lib.hid (ans_mv ro r w)
  have hcw := h.blk.cell
  have hltw := h.blk.lt
  unfold dcells at hcw
  have TW0 : TopC M (setRo ro w.heap.size (r + 12)) (ansW w) 0 (m.top 0) := ⟨fun W mv => dtop_walk (H1.out.keep0 mv) 0 (by omega) (by omega)⟩
  have TW1 : TopC M (setRo ro w.heap.size (r + 12)) (ansW w) 1 (m.top 1) := ⟨fun W mv => dtop_walk (H1.out.keep0 mv) 1 (by omega) (by omega)⟩
  have WW := Lib.hid (show ∀ W, Mv (setRo ro w.heap.size (r + 12)) [] (ansW w) (setRo ro w.heap.size (r + 12)) W → Calls Tryz.prog 188 #[ptr M, .int .i64 c] W (WroteP W none) from fun W mv => by
    have := dwrote_walk (H1.out.keep0 mv) hwl c
    rwa [hwr] at this)
  have KW := Lib.hid (show ∀ W, Mv (setRo ro w.heap.size (r + 12)) [] (ansW w) (setRo ro w.heap.size (r + 12)) W → Calls Tryz.prog 140 #[ptr M, .int .i64 2, .slice none 0 0] W (AnP ro r w M C 2 vc (m.trade 2 []).dm (.tuple #[])) from fun W mv => dtrade_an (mv.mono (by simp)) (H1.out.keep0 mv) 2 h1 hl _ [] (by simp) (rd_nil0 _))
  have IW := rindex_walk (m.top 0) C.cells
  rw [hi] at IW
  unfold idxV at IW
  clear h hi hwr evb
  generalize m.top 0 = y0 at *
  generalize m.top 1 = y1 at *
  have sf := run_store_float
  simp only [ptr, askEnd, askNone, Ask.v] at *
  unfold ansW at *
  go_enter Tryz.func147, Tryz.ntmps147
  go_wp2
  clear hcw hltw
  generalize hW : w.alloc (.cells #[.int .i64 0, .int .i64 0, .float .f64 0, .bool false] 139) = W at *
  have hc := H1.out.blk.cell
  have hf := H1.out.blk.free
  have hlt := H1.out.blk.lt
  unfold dcells at hc
  clear hW
  go_quiet (first | (go_at_call 142; exact Calls.quiet_of (topc_at (by assumption) _ (by repeat (first | with_reducible exact Mv.refl _ _ _ | refine Mv.alloc ?_ _ | refine Mv.drewN ?_ _ | refine Mv.drew ?_)))) | (go_at_call 187; exact Calls.quiet_of_same (IW _)))
  go_wp2_with (first | (go_at_call 142; refine (topc_at (by assumption) _ (by repeat (first | with_reducible exact Mv.refl _ _ _ | refine Mv.alloc ?_ _ | refine Mv.drewN ?_ _ | refine Mv.drew ?_))).mono ?_; rintro e w0 ⟨rfl, q0, rfl⟩) | (go_at_call 188; refine (WW.out _ (by repeat (first | with_reducible exact Mv.refl _ _ _ | refine Mv.alloc ?_ _ | refine Mv.drewN ?_ _ | refine Mv.drew ?_))).mono ?_; rintro e w2 ⟨rfl, b2⟩; have q2 : Mv (setRo ro w.heap.size (r + 12)) [] W (setRo ro w.heap.size (r + 12)) w2 := Mv.then_below (by repeat (first | with_reducible exact Mv.refl _ _ _ | refine Mv.alloc ?_ _ | refine Mv.drewN ?_ _ | refine Mv.drew ?_)) b2; have hc2 := (H1.out.blk.keep q2 (by simp)).cell; unfold dcells at hc2; rw [EVB.out] at hc2; have Q2 := Lib.hid q2; clear b2 q2))
  go_quiet (fail)
  go_wp2_with ((go_at_call 140; refine (KW.out _ (Q2.out.drewN _)).mono ?_; rintro e w1 ⟨rfl, ro1, p1, h1, m1, r1⟩; have hc1 := h1.blk.cell; have hf1 := h1.blk.free; have hlt1 := h1.blk.lt; unfold dcells at hc1; have HH1 := Lib.hid h1; have HM1 := Lib.hid m1; have HR1 := Lib.hid r1; clear h1 m1 r1))
  rcases HH1.out.writes.form with ⟨e1, e2⟩ | ⟨b, off, cc, e1, hcc0, -, -⟩
  · skip
    have EV := Lib.hid e1
    rw [e1] at hc1
    have E2 := Lib.hid (show m.writes = [] from e2)
    have HS := Lib.hid (show RdL cT ro1 (r + 7) w1 2 (.slice none 0 0) (m.writes) from by rw [E2.out]; exact RdL.nil _ _ _ _ _)
    have w0 : IntKind.i64.wrap 0 = 0 := by decide
    have HS0 := Lib.hid (show ∀ ro' W', Mv ro1 [] w1 ro' W' → (fun W' => W'.cell? ⟨M, 19, none⟩ = some (.slice none 0 0)) W' from fun ro' W' mv => by
      have k := (HH1.out.blk.keep mv (by simp)).cell
      exact (k 19).trans (congrArg some e1))
    clear e1 e2
    refine wp_region_noPanic ?_
    refine wp_region_T (S := fun W' => W'.cell? ⟨M, 19, none⟩ = some (.slice none 0 0)) (last := 23) (by kernel_rfl) (HS0.out _ _ (Mv.refl _ _ _).drew) (fun hHeld => ?_)
    refine' wpAnyT_take (i := 0) (v := _) rfl (by kernel_rfl) (by kernel_rfl) (by kernel_rfl) (by kernel_rfl) (fun _ _ _ h => h) (Or.inl ⟨by rfl, ?hy0u192⟩) (by assumption) ?rest0u192
    case hy0u192 => (intro w hSw; (try dsimp only at hSw); go_simp; try with_reducible rfl)
    try simp only [Act.put, List.setIfInBounds_toArray, List.set_cons_zero, List.set_cons_succ]
    refine' wpAnyT_take (i := 1) (v := _) rfl (by kernel_rfl) (by kernel_rfl) (by kernel_rfl) (by kernel_rfl) (fun _ _ _ h => h) (Or.inl ⟨by rfl, ?hy1u193⟩) (by assumption) ?rest1u193
    case hy1u193 => (intro w hSw; (try dsimp only at hSw); go_simp; try with_reducible rfl)
    try simp only [Act.put, List.setIfInBounds_toArray, List.set_cons_zero, List.set_cons_succ]
    refine' wpAnyT_take (i := 2) (v := _) rfl (by kernel_rfl) (by kernel_rfl) (by kernel_rfl) (by kernel_rfl) (fun _ _ _ h => h) (Or.inl ⟨by rfl, ?hy2u194⟩) (by assumption) ?rest2u194
    case hy2u194 => (intro w hSw; (try dsimp only at hSw); go_simp; try with_reducible rfl)
    try simp only [Act.put, List.setIfInBounds_toArray, List.set_cons_zero, List.set_cons_succ]
    refine' wpAnyT_take (i := 3) (v := _) rfl (by kernel_rfl) (by kernel_rfl) (by kernel_rfl) (by kernel_rfl) (fun _ _ _ h => h) (Or.inl ⟨by rfl, ?hy3u195⟩) (by assumption) ?rest3u195
    case hy3u195 => (intro w hSw; (try dsimp only at hSw); go_simp; try with_reducible rfl)
    try simp only [Act.put, List.setIfInBounds_toArray, List.set_cons_zero, List.set_cons_succ]
    refine' wpAnyT_take (i := 4) (v := _) rfl (by kernel_rfl) (by kernel_rfl) (by kernel_rfl) (by kernel_rfl) (fun _ _ _ h => h) (Or.inl ⟨by rfl, ?hy4u196⟩) (by assumption) ?rest4u196
    case hy4u196 => (intro w hSw; (try dsimp only at hSw); go_simp; try with_reducible rfl)
    try simp only [Act.put, List.setIfInBounds_toArray, List.set_cons_zero, List.set_cons_succ]
    refine' wpAnyT_take (i := 5) (v := _) rfl (by kernel_rfl) (by kernel_rfl) (by kernel_rfl) (by kernel_rfl) (fun _ _ _ h => h) (Or.inl ⟨by rfl, ?hy5u197⟩) (by assumption) ?rest5u197
    case hy5u197 => (intro w hSw; (try dsimp only at hSw); go_simp; try with_reducible rfl)
    try simp only [Act.put, List.setIfInBounds_toArray, List.set_cons_zero, List.set_cons_succ]
    refine' wpAnyT_take (i := 6) (v := _) rfl (by kernel_rfl) (by kernel_rfl) (by kernel_rfl) (by kernel_rfl) (fun _ _ _ h => h) (Or.inl ⟨by rfl, ?hy6u198⟩) (by assumption) ?rest6u198
    case hy6u198 => (intro w hSw; (try dsimp only at hSw); go_simp; try with_reducible rfl)
    try simp only [Act.put, List.setIfInBounds_toArray, List.set_cons_zero, List.set_cons_succ]
    refine' wpAnyT_take (i := 7) (v := _) rfl (by kernel_rfl) (by kernel_rfl) (by kernel_rfl) (by kernel_rfl) (fun _ _ _ h => h) (Or.inl ⟨by rfl, ?hy7u199⟩) (by assumption) ?rest7u199
    case hy7u199 => (intro w hSw; (try dsimp only at hSw); go_simp; try with_reducible rfl)
    try simp only [Act.put, List.setIfInBounds_toArray, List.set_cons_zero, List.set_cons_succ]
    refine' wpAnyT_take (i := 8) (v := _) rfl (by kernel_rfl) (by kernel_rfl) (by kernel_rfl) (by kernel_rfl) (fun _ _ _ h => h) (Or.inl ⟨by rfl, ?hy8u200⟩) (by assumption) ?rest8u200
    case hy8u200 => (intro w hSw; (try dsimp only at hSw); go_simp; try with_reducible rfl)
    try simp only [Act.put, List.setIfInBounds_toArray, List.set_cons_zero, List.set_cons_succ]
    refine' wpAnyT_take (i := 9) (v := _) rfl (by kernel_rfl) (by kernel_rfl) (by kernel_rfl) (by kernel_rfl) (fun _ _ _ h => h) (Or.inl ⟨by rfl, ?hy9u201⟩) (by assumption) ?rest9u201
    case hy9u201 => (intro w hSw; (try dsimp only at hSw); go_simp; try with_reducible rfl)
    try simp only [Act.put, List.setIfInBounds_toArray, List.set_cons_zero, List.set_cons_succ]
    refine' wpAnyT_take (i := 10) (v := _) rfl (by kernel_rfl) (by kernel_rfl) (by kernel_rfl) (by kernel_rfl) (fun _ _ _ h => h) (Or.inl ⟨by rfl, ?hy10u202⟩) (by assumption) ?rest10u202
    case hy10u202 => (intro w hSw; (try dsimp only at hSw); go_simp; try with_reducible rfl)
    try simp only [Act.put, List.setIfInBounds_toArray, List.set_cons_zero, List.set_cons_succ]
    refine' wpAnyT_take (i := 11) (v := _) rfl (by kernel_rfl) (by kernel_rfl) (by kernel_rfl) (by kernel_rfl) (fun _ _ _ h => h) (Or.inl ⟨by rfl, ?hy11u203⟩) (by assumption) ?rest11u203
    case hy11u203 => (intro w hSw; (try dsimp only at hSw); go_simp; try with_reducible rfl)
    try simp only [Act.put, List.setIfInBounds_toArray, List.set_cons_zero, List.set_cons_succ]
    refine' wpAnyT_take (i := 12) (v := _) rfl (by kernel_rfl) (by kernel_rfl) (by kernel_rfl) (by kernel_rfl) (fun _ _ _ h => h) (Or.inl ⟨by rfl, ?hy12u204⟩) (by assumption) ?rest12u204
    case hy12u204 => (intro w hSw; (try dsimp only at hSw); go_simp; try with_reducible rfl)
    try simp only [Act.put, List.setIfInBounds_toArray, List.set_cons_zero, List.set_cons_succ]
    refine' wpAnyT_take (i := 13) (v := _) rfl (by kernel_rfl) (by kernel_rfl) (by kernel_rfl) (by kernel_rfl) (fun _ _ _ h => h) (Or.inl ⟨by rfl, ?hy13u205⟩) (by assumption) ?rest13u205
    case hy13u205 => (intro w hSw; (try dsimp only at hSw); go_simp; try with_reducible rfl)
    try simp only [Act.put, List.setIfInBounds_toArray, List.set_cons_zero, List.set_cons_succ]
    refine' wpAnyT_take (i := 14) (v := _) rfl (by kernel_rfl) (by kernel_rfl) (by kernel_rfl) (by kernel_rfl) (fun _ _ _ h => h) (Or.inl ⟨by rfl, ?hy14u206⟩) (by assumption) ?rest14u206
    case hy14u206 => (intro w hSw; (try dsimp only at hSw); go_simp; try with_reducible rfl)
    try simp only [Act.put, List.setIfInBounds_toArray, List.set_cons_zero, List.set_cons_succ]
    refine' wpAnyT_take (i := 15) (v := _) rfl (by kernel_rfl) (by kernel_rfl) (by kernel_rfl) (by kernel_rfl) (fun _ _ _ h => h) (Or.inl ⟨by rfl, ?hy15u207⟩) (by assumption) ?rest15u207
    case hy15u207 => (intro w hSw; (try dsimp only at hSw); go_simp; try with_reducible rfl)
    try simp only [Act.put, List.setIfInBounds_toArray, List.set_cons_zero, List.set_cons_succ]
    refine' wpAnyT_take (i := 16) (v := _) rfl (by kernel_rfl) (by kernel_rfl) (by kernel_rfl) (by kernel_rfl) (fun _ _ _ h => h) (Or.inl ⟨by rfl, ?hy16u208⟩) (by assumption) ?rest16u208
    case hy16u208 => (intro w hSw; (try dsimp only at hSw); go_simp; try with_reducible rfl)
    try simp only [Act.put, List.setIfInBounds_toArray, List.set_cons_zero, List.set_cons_succ]
    refine' wpAnyT_take (i := 17) (v := _) rfl (by kernel_rfl) (by kernel_rfl) (by kernel_rfl) (by kernel_rfl) (fun _ _ _ h => h) (Or.inl ⟨by rfl, ?hy17u209⟩) (by assumption) ?rest17u209
    case hy17u209 => (intro w hSw; (try dsimp only at hSw); go_simp; try with_reducible rfl)
    try simp only [Act.put, List.setIfInBounds_toArray, List.set_cons_zero, List.set_cons_succ]
    refine' wpAnyT_take (i := 18) (v := _) rfl (by kernel_rfl) (by kernel_rfl) (by kernel_rfl) (by kernel_rfl) (fun _ _ _ h => h) (Or.inl ⟨by rfl, ?hy18u210⟩) (by assumption) ?rest18u210
    case hy18u210 => (intro w hSw; (try dsimp only at hSw); go_simp; try with_reducible rfl)
    try simp only [Act.put, List.setIfInBounds_toArray, List.set_cons_zero, List.set_cons_succ]
    refine wpAnyT_one (i := 19) (by kernel_rfl) rfl (fun K hK => ?_)
    go_simp
    refine hK.out _ _ (.inr (HS0.out ro1 _ (by repeat (first | with_reducible exact Mv.refl _ _ _ | refine Mv.alloc ?_ _ | refine Mv.drewN ?_ _ | refine Mv.drew ?_)))) (fun hHx => ?_)
    have hHeld := hHx.resolve_left (by decide)
    clear hK K hHx
    refine wpAnyT_one (i := 20) (by kernel_rfl) rfl (fun K hK => ?_)
    refine step_app elT cT_len cT_one ro1 (r + 7) rfl (.tmp 76) (.tmp 80) rfl (m.writes) [(c, y1)] _ _ _ _ rfl rfl (by rw [E2.out]; rfl) (by rw [E2.out]; rfl) (HS.out.keep (R := []) (by repeat (first | with_reducible exact Mv.refl _ _ _ | refine Mv.alloc ?_ _ | refine Mv.drewN ?_ _ | refine Mv.drew ?_)) (by simp)) (by first | exact rd_litT _ _ rfl (_, _) | exact (rd_litT _ _ rfl (_, _)).keep0 ((Chg.refl _ _).drew) | exact (rd_litT _ _ rfl (_, _)).keep0 (((Chg.refl _ _).drew).drew)) (by rw [E2.out]; simp) ?_
    intro v6 w6 o6 m6
    obtain ⟨va6, vn6, vc6, rfl⟩ := o6.form3
    obtain ⟨ro6, M6, o6'⟩ : ∃ ro6, Mv ro1 [] w1 ro6 w6 ∧ RdL cT ro6 (r + 7) w6 2 (.slice va6 vn6 vc6) ((m.writes) ++ [(c, y1)]) := ⟨_, ((by repeat (first | with_reducible exact Mv.refl _ _ _ | refine Mv.alloc ?_ _ | refine Mv.drewN ?_ _ | refine Mv.drew ?_)) : Mv ro1 [] w1 ro1 _).trans m6, o6⟩
    have k6 := HH1.out.blk.keep M6 (by simp)
    have hc6 := k6.cell
    have hf6 := k6.free
    have hlt6 := k6.lt
    unfold dcells at hc6
    rw [EV.out] at hc6
    have HM6 := Lib.hid M6
    have HO6 := Lib.hid o6'
    have hs6 := HS0.out _ _ M6
    clear o6 m6 k6 M6 o6'
    refine hK.out _ _ (.inr hs6) (fun hHx => ?_)
    have hHeld := hHx.resolve_left (by decide)
    clear hK K hHx
    clear hs6
    refine wpAnyT_one (i := 21) (by kernel_rfl) rfl (fun K hK => ?_)
    go_simp
    refine hK.out _ _ (.inr hHeld) (fun hHx => ?_)
    have hHeld := hHx.resolve_left (by decide)
    clear hK K hHx
    refine' wpAnyT_take (i := 22) (v := _) rfl (by kernel_rfl) (by kernel_rfl) (by kernel_rfl) (by kernel_rfl) (fun _ _ _ h => h) (Or.inl ⟨by rfl, ?hy22u211⟩) (by assumption) ?rest22u211
    case hy22u211 => (intro w hSw; (try dsimp only at hSw); go_simp; try with_reducible rfl)
    try simp only [Act.put, List.setIfInBounds_toArray, List.set_cons_zero, List.set_cons_succ]
    refine wpAnyT_one (i := 23) (by kernel_rfl) rfl (fun K hK => ?_)
    go_simp
    refine hK.out _ _ (.inl rfl) (fun _ => ?_)
    clear hK K hHeld
    refine wpAnyT_done (by kernel_rfl) ?_ _
    refine NoPanic.normal ?_
    obtain ⟨h2, b2⟩ := HH1.out.putB HM6.out HO6.out
    have m2 := HM1.out.trans b2
    have r2 := HR1.out.keep b2 (by simp)
    have bc := r2.cell
    have bf := r2.free
    have HH2 := Lib.hid h2
    have HM2 := Lib.hid m2
    have HR2 := Lib.hid r2
    clear h2 m2 r2 b2
    generalize w6.setCell ⟨M, 19, none⟩ (.slice va6 vn6 vc6) = w7 at *
    go_wp2
    refine bodyPost_ret (v := .agg #[.int .i64 3, .int .i64 c, .float .f64 y1, .bool true]) (by simp [results, Tryz.results147, go_sem, bc, bf]) rfl ?_
    have hR : ro6 w.heap.size ∈ [r + 12] := by rw [HR2.out.role]; simp
    have n0 := Nat.le_refl w.heap.size
    exact ⟨rfl, ro6, _, HH2.out.keep (((((Mv.refl _ _ _).setCell hR _).setCell hR _).setCell hR _).setCell hR _) (by simp), (((HM2.out.setNew n0 _).setNew n0 _).setNew n0 _).setNew n0 _⟩
  · skip
    have EV := Lib.hid e1
    rw [e1] at hc1
    have hs2 : RdL cT ro1 (r + 7) w1 2 (.slice (some ⟨b, off, none⟩) (m.writes).length cc) (m.writes) := by have hq := HH1.out.writes; rw [e1] at hq; exact hq
    have hcc : (m.writes).length ≤ cc := hcc0
    have hs3 := hs2.front (Nat.le_refl _)
    rw [List.take_length] at hs3
    have HS := Lib.hid hs3
    have wj := wrap_nat (m.writes).length (by omega)
    have mj : max (((m.writes).length : Nat) : Int) 0 = ((m.writes).length : Nat) := by omega
    have cj : (((m.writes).length : Nat) : Int) ≤ cc := by omega
    clear hs2 hs3
    have HS0 := Lib.hid (show ∀ ro' W', Mv ro1 [] w1 ro' W' → (fun W' => W'.cell? ⟨M, 19, none⟩ = some (.slice (some ⟨b, off, none⟩) (m.writes).length cc)) W' from fun ro' W' mv => by
      have k := (HH1.out.blk.keep mv (by simp)).cell
      exact (k 19).trans (congrArg some e1))
    clear e1 hcc0 hcc
    refine wp_region_noPanic ?_
    refine wp_region_T (S := fun W' => W'.cell? ⟨M, 19, none⟩ = some (.slice (some ⟨b, off, none⟩) (m.writes).length cc)) (last := 23) (by kernel_rfl) (HS0.out _ _ (Mv.refl _ _ _).drew) (fun hHeld => ?_)
    refine' wpAnyT_take (i := 0) (v := _) rfl (by kernel_rfl) (by kernel_rfl) (by kernel_rfl) (by kernel_rfl) (fun _ _ _ h => h) (Or.inl ⟨by rfl, ?hy0u212⟩) (by assumption) ?rest0u212
    case hy0u212 => (intro w hSw; (try dsimp only at hSw); go_simp; try with_reducible rfl)
    try simp only [Act.put, List.setIfInBounds_toArray, List.set_cons_zero, List.set_cons_succ]
    refine' wpAnyT_take (i := 1) (v := _) rfl (by kernel_rfl) (by kernel_rfl) (by kernel_rfl) (by kernel_rfl) (fun _ _ _ h => h) (Or.inl ⟨by rfl, ?hy1u213⟩) (by assumption) ?rest1u213
    case hy1u213 => (intro w hSw; (try dsimp only at hSw); go_simp; try with_reducible rfl)
    try simp only [Act.put, List.setIfInBounds_toArray, List.set_cons_zero, List.set_cons_succ]
    refine' wpAnyT_take (i := 2) (v := _) rfl (by kernel_rfl) (by kernel_rfl) (by kernel_rfl) (by kernel_rfl) (fun _ _ _ h => h) (Or.inl ⟨by rfl, ?hy2u214⟩) (by assumption) ?rest2u214
    case hy2u214 => (intro w hSw; (try dsimp only at hSw); go_simp; try with_reducible rfl)
    try simp only [Act.put, List.setIfInBounds_toArray, List.set_cons_zero, List.set_cons_succ]
    refine' wpAnyT_take (i := 3) (v := _) rfl (by kernel_rfl) (by kernel_rfl) (by kernel_rfl) (by kernel_rfl) (fun _ _ _ h => h) (Or.inl ⟨by rfl, ?hy3u215⟩) (by assumption) ?rest3u215
    case hy3u215 => (intro w hSw; (try dsimp only at hSw); go_simp; try with_reducible rfl)
    try simp only [Act.put, List.setIfInBounds_toArray, List.set_cons_zero, List.set_cons_succ]
    refine' wpAnyT_take (i := 4) (v := _) rfl (by kernel_rfl) (by kernel_rfl) (by kernel_rfl) (by kernel_rfl) (fun _ _ _ h => h) (Or.inl ⟨by rfl, ?hy4u216⟩) (by assumption) ?rest4u216
    case hy4u216 => (intro w hSw; (try dsimp only at hSw); go_simp; try with_reducible rfl)
    try simp only [Act.put, List.setIfInBounds_toArray, List.set_cons_zero, List.set_cons_succ]
    refine' wpAnyT_take (i := 5) (v := _) rfl (by kernel_rfl) (by kernel_rfl) (by kernel_rfl) (by kernel_rfl) (fun _ _ _ h => h) (Or.inl ⟨by rfl, ?hy5u217⟩) (by assumption) ?rest5u217
    case hy5u217 => (intro w hSw; (try dsimp only at hSw); go_simp; try with_reducible rfl)
    try simp only [Act.put, List.setIfInBounds_toArray, List.set_cons_zero, List.set_cons_succ]
    refine' wpAnyT_take (i := 6) (v := _) rfl (by kernel_rfl) (by kernel_rfl) (by kernel_rfl) (by kernel_rfl) (fun _ _ _ h => h) (Or.inl ⟨by rfl, ?hy6u218⟩) (by assumption) ?rest6u218
    case hy6u218 => (intro w hSw; (try dsimp only at hSw); go_simp; try with_reducible rfl)
    try simp only [Act.put, List.setIfInBounds_toArray, List.set_cons_zero, List.set_cons_succ]
    refine' wpAnyT_take (i := 7) (v := _) rfl (by kernel_rfl) (by kernel_rfl) (by kernel_rfl) (by kernel_rfl) (fun _ _ _ h => h) (Or.inl ⟨by rfl, ?hy7u219⟩) (by assumption) ?rest7u219
    case hy7u219 => (intro w hSw; (try dsimp only at hSw); go_simp; try with_reducible rfl)
    try simp only [Act.put, List.setIfInBounds_toArray, List.set_cons_zero, List.set_cons_succ]
    refine' wpAnyT_take (i := 8) (v := _) rfl (by kernel_rfl) (by kernel_rfl) (by kernel_rfl) (by kernel_rfl) (fun _ _ _ h => h) (Or.inl ⟨by rfl, ?hy8u220⟩) (by assumption) ?rest8u220
    case hy8u220 => (intro w hSw; (try dsimp only at hSw); go_simp; try with_reducible rfl)
    try simp only [Act.put, List.setIfInBounds_toArray, List.set_cons_zero, List.set_cons_succ]
    refine' wpAnyT_take (i := 9) (v := _) rfl (by kernel_rfl) (by kernel_rfl) (by kernel_rfl) (by kernel_rfl) (fun _ _ _ h => h) (Or.inl ⟨by rfl, ?hy9u221⟩) (by assumption) ?rest9u221
    case hy9u221 => (intro w hSw; (try dsimp only at hSw); go_simp; try with_reducible rfl)
    try simp only [Act.put, List.setIfInBounds_toArray, List.set_cons_zero, List.set_cons_succ]
    refine' wpAnyT_take (i := 10) (v := _) rfl (by kernel_rfl) (by kernel_rfl) (by kernel_rfl) (by kernel_rfl) (fun _ _ _ h => h) (Or.inl ⟨by rfl, ?hy10u222⟩) (by assumption) ?rest10u222
    case hy10u222 => (intro w hSw; (try dsimp only at hSw); go_simp; try with_reducible rfl)
    try simp only [Act.put, List.setIfInBounds_toArray, List.set_cons_zero, List.set_cons_succ]
    refine' wpAnyT_take (i := 11) (v := _) rfl (by kernel_rfl) (by kernel_rfl) (by kernel_rfl) (by kernel_rfl) (fun _ _ _ h => h) (Or.inl ⟨by rfl, ?hy11u223⟩) (by assumption) ?rest11u223
    case hy11u223 => (intro w hSw; (try dsimp only at hSw); go_simp; try with_reducible rfl)
    try simp only [Act.put, List.setIfInBounds_toArray, List.set_cons_zero, List.set_cons_succ]
    refine' wpAnyT_take (i := 12) (v := _) rfl (by kernel_rfl) (by kernel_rfl) (by kernel_rfl) (by kernel_rfl) (fun _ _ _ h => h) (Or.inl ⟨by rfl, ?hy12u224⟩) (by assumption) ?rest12u224
    case hy12u224 => (intro w hSw; (try dsimp only at hSw); go_simp; try with_reducible rfl)
    try simp only [Act.put, List.setIfInBounds_toArray, List.set_cons_zero, List.set_cons_succ]
    refine' wpAnyT_take (i := 13) (v := _) rfl (by kernel_rfl) (by kernel_rfl) (by kernel_rfl) (by kernel_rfl) (fun _ _ _ h => h) (Or.inl ⟨by rfl, ?hy13u225⟩) (by assumption) ?rest13u225
    case hy13u225 => (intro w hSw; (try dsimp only at hSw); go_simp; try with_reducible rfl)
    try simp only [Act.put, List.setIfInBounds_toArray, List.set_cons_zero, List.set_cons_succ]
    refine' wpAnyT_take (i := 14) (v := _) rfl (by kernel_rfl) (by kernel_rfl) (by kernel_rfl) (by kernel_rfl) (fun _ _ _ h => h) (Or.inl ⟨by rfl, ?hy14u226⟩) (by assumption) ?rest14u226
    case hy14u226 => (intro w hSw; (try dsimp only at hSw); go_simp; try with_reducible rfl)
    try simp only [Act.put, List.setIfInBounds_toArray, List.set_cons_zero, List.set_cons_succ]
    refine' wpAnyT_take (i := 15) (v := _) rfl (by kernel_rfl) (by kernel_rfl) (by kernel_rfl) (by kernel_rfl) (fun _ _ _ h => h) (Or.inl ⟨by rfl, ?hy15u227⟩) (by assumption) ?rest15u227
    case hy15u227 => (intro w hSw; (try dsimp only at hSw); go_simp; try with_reducible rfl)
    try simp only [Act.put, List.setIfInBounds_toArray, List.set_cons_zero, List.set_cons_succ]
    refine' wpAnyT_take (i := 16) (v := _) rfl (by kernel_rfl) (by kernel_rfl) (by kernel_rfl) (by kernel_rfl) (fun _ _ _ h => h) (Or.inl ⟨by rfl, ?hy16u228⟩) (by assumption) ?rest16u228
    case hy16u228 => (intro w hSw; (try dsimp only at hSw); go_simp; try with_reducible rfl)
    try simp only [Act.put, List.setIfInBounds_toArray, List.set_cons_zero, List.set_cons_succ]
    refine' wpAnyT_take (i := 17) (v := _) rfl (by kernel_rfl) (by kernel_rfl) (by kernel_rfl) (by kernel_rfl) (fun _ _ _ h => h) (Or.inl ⟨by rfl, ?hy17u229⟩) (by assumption) ?rest17u229
    case hy17u229 => (intro w hSw; (try dsimp only at hSw); go_simp; try with_reducible rfl)
    try simp only [Act.put, List.setIfInBounds_toArray, List.set_cons_zero, List.set_cons_succ]
    refine' wpAnyT_take (i := 18) (v := _) rfl (by kernel_rfl) (by kernel_rfl) (by kernel_rfl) (by kernel_rfl) (fun _ _ _ h => h) (Or.inl ⟨by rfl, ?hy18u230⟩) (by assumption) ?rest18u230
    case hy18u230 => (intro w hSw; (try dsimp only at hSw); go_simp; try with_reducible rfl)
    try simp only [Act.put, List.setIfInBounds_toArray, List.set_cons_zero, List.set_cons_succ]
    refine wpAnyT_one (i := 19) (by kernel_rfl) rfl (fun K hK => ?_)
    go_simp
    refine hK.out _ _ (.inr (HS0.out ro1 _ (by repeat (first | with_reducible exact Mv.refl _ _ _ | refine Mv.alloc ?_ _ | refine Mv.drewN ?_ _ | refine Mv.drew ?_)))) (fun hHx => ?_)
    have hHeld := hHx.resolve_left (by decide)
    clear hK K hHx
    refine wpAnyT_one (i := 20) (by kernel_rfl) rfl (fun K hK => ?_)
    refine step_app elT cT_len cT_one ro1 (r + 7) rfl (.tmp 76) (.tmp 80) rfl (m.writes) [(c, y1)] _ _ _ _ rfl rfl rfl rfl (HS.out.keep (R := []) (by repeat (first | with_reducible exact Mv.refl _ _ _ | refine Mv.alloc ?_ _ | refine Mv.drewN ?_ _ | refine Mv.drew ?_)) (by simp)) (by first | exact rd_litT _ _ rfl (_, _) | exact (rd_litT _ _ rfl (_, _)).keep0 ((Chg.refl _ _).drew) | exact (rd_litT _ _ rfl (_, _)).keep0 (((Chg.refl _ _).drew).drew)) (by simp; omega) ?_
    intro v6 w6 o6 m6
    obtain ⟨va6, vn6, vc6, rfl⟩ := o6.form3
    obtain ⟨ro6, M6, o6'⟩ : ∃ ro6, Mv ro1 [] w1 ro6 w6 ∧ RdL cT ro6 (r + 7) w6 2 (.slice va6 vn6 vc6) ((m.writes) ++ [(c, y1)]) := ⟨_, ((by repeat (first | with_reducible exact Mv.refl _ _ _ | refine Mv.alloc ?_ _ | refine Mv.drewN ?_ _ | refine Mv.drew ?_)) : Mv ro1 [] w1 ro1 _).trans m6, o6⟩
    have k6 := HH1.out.blk.keep M6 (by simp)
    have hc6 := k6.cell
    have hf6 := k6.free
    have hlt6 := k6.lt
    unfold dcells at hc6
    rw [EV.out] at hc6
    have HM6 := Lib.hid M6
    have HO6 := Lib.hid o6'
    have hs6 := HS0.out _ _ M6
    clear o6 m6 k6 M6 o6'
    refine hK.out _ _ (.inr hs6) (fun hHx => ?_)
    have hHeld := hHx.resolve_left (by decide)
    clear hK K hHx
    clear hs6
    refine wpAnyT_one (i := 21) (by kernel_rfl) rfl (fun K hK => ?_)
    go_simp
    refine hK.out _ _ (.inr hHeld) (fun hHx => ?_)
    have hHeld := hHx.resolve_left (by decide)
    clear hK K hHx
    refine' wpAnyT_take (i := 22) (v := _) rfl (by kernel_rfl) (by kernel_rfl) (by kernel_rfl) (by kernel_rfl) (fun _ _ _ h => h) (Or.inl ⟨by rfl, ?hy22u231⟩) (by assumption) ?rest22u231
    case hy22u231 => (intro w hSw; (try dsimp only at hSw); go_simp; try with_reducible rfl)
    try simp only [Act.put, List.setIfInBounds_toArray, List.set_cons_zero, List.set_cons_succ]
    refine wpAnyT_one (i := 23) (by kernel_rfl) rfl (fun K hK => ?_)
    go_simp
    refine hK.out _ _ (.inl rfl) (fun _ => ?_)
    clear hK K hHeld
    refine wpAnyT_done (by kernel_rfl) ?_ _
    refine NoPanic.normal ?_
    obtain ⟨h2, b2⟩ := HH1.out.putB HM6.out HO6.out
    have m2 := HM1.out.trans b2
    have r2 := HR1.out.keep b2 (by simp)
    have bc := r2.cell
    have bf := r2.free
    have HH2 := Lib.hid h2
    have HM2 := Lib.hid m2
    have HR2 := Lib.hid r2
    clear h2 m2 r2 b2
    generalize w6.setCell ⟨M, 19, none⟩ (.slice va6 vn6 vc6) = w7 at *
    go_wp2
    refine bodyPost_ret (v := .agg #[.int .i64 3, .int .i64 c, .float .f64 y1, .bool true]) (by simp [results, Tryz.results147, go_sem, bc, bf]) rfl ?_
    have hR : ro6 w.heap.size ∈ [r + 12] := by rw [HR2.out.role]; simp
    have n0 := Nat.le_refl w.heap.size
    exact ⟨rfl, ro6, _, HH2.out.keep (((((Mv.refl _ _ _).setCell hR _).setCell hR _).setCell hR _).setCell hR _) (by simp), (((HM2.out.setNew n0 _).setNew n0 _).setNew n0 _).setNew n0 _⟩
set_option maxRecDepth 100000 in
set_option maxHeartbeats 4000000 in
theorem dwrite_again {ro : Nat → Nat} {r : Nat} {w : World} {M C tag vc p} {m : Ms} (h : DM ro r w M C tag vc m.dm p) (hl : m.stack.length ≤ 64) (ht : tag = 2) (h1 : 2 ≤ m.stack.length) (hwl : m.writes.length ≤ 32) (c : Int) (z : Nat) (hi : indexF (m.top 0) C.cells = some c) (hwr : wrote m.writes c = some z) :
    Calls Tryz.prog 147 #[ptr M] w (DUp ro r w M C tag vc ({ m.trade 2 [] with writes := rewrite m.writes c (m.top 1) } : Ms).dm (.agg #[.int .i64 3, .int .i64 c, .float .f64 (m.top 1), .bool false])) := by
  have hpos : 0 < m.writes.length := by
    rcases hw0 : m.writes with _ | ⟨a, l⟩
    · rw [hw0] at hwr; cases hwr
    · simp
  subst ht
  obtain ⟨ba, bn, bc0, evb⟩ : ∃ a n c, p.vb = .slice a n c := h.writes.form3
  have hbn : bn = m.writes.length := by obtain ⟨a, c, e, _⟩ := h.writes.slice; rw [evb] at e; cases e; rfl
  subst hbn
  have EVB := Lib.hid evb
  have H1 := Lib.hid (h.keep0 (ans_mv ro r w))
  have R1 := Lib.hid (ans_blk ro r w)
  have M0 := Lib.hid (ans_mv ro r w)
  have hcw := h.blk.cell
  have hltw := h.blk.lt
  unfold dcells at hcw
  have TW0 : TopC M (setRo ro w.heap.size (r + 12)) (ansW w) 0 (m.top 0) := ⟨fun W mv => dtop_walk (H1.out.keep0 mv) 0 (by omega) (by omega)⟩
  have TW1 : TopC M (setRo ro w.heap.size (r + 12)) (ansW w) 1 (m.top 1) := ⟨fun W mv => dtop_walk (H1.out.keep0 mv) 1 (by omega) (by omega)⟩
  have WW := Lib.hid (show ∀ W, Mv (setRo ro w.heap.size (r + 12)) [] (ansW w) (setRo ro w.heap.size (r + 12)) W → Calls Tryz.prog 188 #[ptr M, .int .i64 c] W (WroteP W (some z)) from fun W mv => by
    have := dwrote_walk (H1.out.keep0 mv) hwl c
    rwa [hwr] at this)
  have KW := Lib.hid (show ∀ W, Mv (setRo ro w.heap.size (r + 12)) [] (ansW w) (setRo ro w.heap.size (r + 12)) W → Calls Tryz.prog 140 #[ptr M, .int .i64 2, .slice none 0 0] W (AnP ro r w M C 2 vc (m.trade 2 []).dm (.tuple #[])) from fun W mv => dtrade_an (mv.mono (by simp)) (H1.out.keep0 mv) 2 h1 hl _ [] (by simp) (rd_nil0 _))
  have IW := rindex_walk (m.top 0) C.cells
  rw [hi] at IW
  unfold idxV at IW
  clear h hi hwr evb
  generalize m.top 0 = y0 at *
  generalize m.top 1 = y1 at *
  have sf := run_store_float
  simp only [ptr, askEnd, askNone, Ask.v] at *
  unfold ansW at *
  go_enter Tryz.func147, Tryz.ntmps147
  go_wp2
  clear hcw hltw
  generalize hW : w.alloc (.cells #[.int .i64 0, .int .i64 0, .float .f64 0, .bool false] 139) = W at *
  have hc := H1.out.blk.cell
  have hf := H1.out.blk.free
  have hlt := H1.out.blk.lt
  unfold dcells at hc
  clear hW
  go_quiet (first | (go_at_call 142; exact Calls.quiet_of (topc_at (by assumption) _ (by repeat (first | with_reducible exact Mv.refl _ _ _ | refine Mv.alloc ?_ _ | refine Mv.drewN ?_ _ | refine Mv.drew ?_)))) | (go_at_call 187; exact Calls.quiet_of_same (IW _)))
  go_wp2_with (first | (go_at_call 142; refine (topc_at (by assumption) _ (by repeat (first | with_reducible exact Mv.refl _ _ _ | refine Mv.alloc ?_ _ | refine Mv.drewN ?_ _ | refine Mv.drew ?_))).mono ?_; rintro e w0 ⟨rfl, q0, rfl⟩) | (go_at_call 188; refine (WW.out _ (by repeat (first | with_reducible exact Mv.refl _ _ _ | refine Mv.alloc ?_ _ | refine Mv.drewN ?_ _ | refine Mv.drew ?_))).mono ?_; rintro e w2 ⟨rfl, b2⟩; have q2 : Mv (setRo ro w.heap.size (r + 12)) [] W (setRo ro w.heap.size (r + 12)) w2 := Mv.then_below (by repeat (first | with_reducible exact Mv.refl _ _ _ | refine Mv.alloc ?_ _ | refine Mv.drewN ?_ _ | refine Mv.drew ?_)) b2; have hc2 := (H1.out.blk.keep q2 (by simp)).cell; unfold dcells at hc2; rw [EVB.out] at hc2; have Q2 := Lib.hid q2; clear b2 q2))
  go_quiet (fail)
  have sz : 0 < m.writes.length := hpos
  go_wp2_with (first | (go_at_call 140; refine (KW.out _ (Q2.out.drewN _)).mono ?_; rintro e w1 ⟨rfl, ro1, p1, h1, m1, r1⟩; have hc1 := h1.blk.cell; have hf1 := h1.blk.free; have hlt1 := h1.blk.lt; unfold dcells at hc1; have HH1 := Lib.hid h1; have HM1 := Lib.hid m1; have HR1 := Lib.hid r1; have RDW := Lib.hid (show Rd w1 2 p1.vb (m.writes.map cT) from h1.writes.rd); clear h1 m1 r1) | (at_builtin; refine wpList_copy elT cT_len cT_one (fun _ => 0) 1 rfl (.const (.slice none 0 0)) (.tmp 91) rfl m.writes _ rfl rfl RDW.out (by omega) ?_; intro v3 w3 o3 m3; obtain ⟨hn3, o3', m3'⟩ := copy_new (ro1 := ro1) (r := r + 7) o3 m3; obtain ⟨g, cap, rfl, hg, hcap, -⟩ := o3'.pos sz; have hge := hn3 g rfl; have k3 := HH1.out.blk.keep m3' (by simp); have hc3 := k3.cell; have hf3 := k3.free; have hlt3 := k3.lt; unfold dcells at hc3; have O3 := Lib.hid o3'; have M3 := Lib.hid m3'; clear o3 m3 o3' m3' hn3 k3))
  obtain ⟨h4, b4⟩ := HH1.out.putB M3.out (O3.out.rdl cT_len)
  have o4 := O3.out.away (p := ⟨M, 19, none⟩) (u := .slice (some ⟨g, 0, none⟩) m.writes.length cap) (by show newRo ro1 w1.heap.size (r + 7) M ≠ r + 7; rw [h4.blk.role]; omega)
  have r4 := HR1.out.keep b4 (by simp)
  have m4 := HM1.out.trans b4
  have hgw : w.heap.size ≤ g := Nat.le_trans HM1.out.size hge
  obtain ⟨p4, hp4⟩ : ∃ p4 : Dq, p4 = { p1 with vb := .slice (some ⟨g, 0, none⟩) m.writes.length cap } := ⟨_, rfl⟩
  rw [← hp4] at h4
  have hv4 : p4.vb = .slice (some ⟨g, 0, none⟩) m.writes.length cap := by rw [hp4]
  have HV4 := Lib.hid hv4
  have HH4 := Lib.hid h4
  have HO4 := Lib.hid o4
  have HR4 := Lib.hid r4
  have HM4 := Lib.hid m4
  have HG := Lib.hid hgw
  clear h4 o4 r4 m4 b4 hp4 hv4 O3 M3 HH1 HM1 HR1 RDW hc3 hf3 hlt3 hge hgw hg hcap hc1 hf1 hlt1 hc2
  generalize w3.setCell ⟨M, 19, none⟩ (.slice (some ⟨g, 0, none⟩) m.writes.length cap) = W4 at *
  generalize newRo ro1 w1.heap.size (r + 7) = ro3 at *
  go_loopw [100] (fun i wr => ∃ k : Nat, i = .int .i64 k ∧ k ≤ m.writes.length ∧ DM ro3 r wr M C 2 vc ({ m.trade 2 [] with writes := rewK m.writes c y1 k } : Ms).dm p4 ∧ OwnL cT ro3 (r + 7) wr 76 2 (.slice (some ⟨g, 0, none⟩) m.writes.length cap) (rewK m.writes c y1 k) ∧ Blk ro3 (r + 12) wr w.heap.size #[.int .i64 0, .int .i64 0, .float .f64 0, .bool false] 139 ∧ Mv ro [r, r + 4] w ro3 wr) (fun i _ => m.writes.length - (intOf i).toNat)
  case atStart => exact ⟨0, rfl, Nat.zero_le _, HH4.out, HO4.out, HR4.out, HM4.out⟩
  case round =>
    clear HH4 HO4 HR4 HM4
    obtain ⟨k, rfl, hk, hd, ho, hr, hm⟩ := hrel
    have hcd := hd.blk.cell
    unfold dcells at hcd
    rw [HV4.out] at hcd
    have HD := Lib.hid hd
    have HO := Lib.hid ho
    have HR := Lib.hid hr
    have HM := Lib.hid hm
    by_cases hlt : k < m.writes.length
    · have hlt' : (k : Int) < m.writes.length := by omega
      have hkl : k < (rewK m.writes c y1 k).length := by rw [rewK_len]; exact hlt
      have hat : (rewK m.writes c y1 k)[k]'hkl = m.writes[k] := by have := rewK_at (c := c) (y := y1) hlt; rw [List.getElem?_eq_getElem hkl] at this; exact Option.some.inj this
      have x0 := ho.at cT_len hkl (j := 0) (by decide)
      have x1 := ho.at cT_len hkl (j := 1) (by decide)
      have xf : wr.frozen? ⟨g, k * 2 + 1, none⟩ = false := by
        have h9 := ho
        unfold OwnL at h9
        rw [rewK_len] at h9
        exact Own.free h9 _
      rw [hat] at x0 x1
      have HAT := Lib.hid hat
      obtain ⟨t, ht⟩ : ∃ t, t = m.writes[k] := ⟨_, rfl⟩
      have HT := Lib.hid ht
      rw [← ht] at x0 x1
      obtain ⟨t1, t2⟩ := t
      simp only [cT, List.getElem?_cons_zero, List.getElem?_cons_succ, Nat.add_zero] at x0 x1
      clear ht hat hd ho hr hm
      by_cases he : t1 = c
      · subst he
        go_wp2
        go_roundw
        case rel =>
          have hG : ro3 g = r + 7 := (HO.out.blk g rfl).2
          have o5 := HO.out.setT k y1 hkl
          rw [HAT.out, ← HT.out, ← rewK_eq hlt (by rw [← HT.out])] at o5
          have ms : Mv ro3 [r + 7] wr ro3 (wr.setCell ⟨g, k * 2 + 1, none⟩ (.float .f64 y1)) := (Mv.refl _ _ _).setCell (p := ⟨g, k * 2 + 1, none⟩) (by show ro3 g ∈ _; rw [hG]; simp) _
          exact ⟨k + 1, by go_num, by omega, HD.out.setW HV4.out ms (by simp) (o5.rdl cT_len), o5, HR.out.keep ms (by simp), HM.out.setNew (p := ⟨g, k * 2 + 1, none⟩) HG.out _⟩
        case measure => simp [intOf]; omega
      · go_wp2
        go_roundw
        case rel =>
          have e := rewK_ne (l := m.writes) (c := c) (y := y1) hlt (by rw [← HT.out]; exact he)
          exact ⟨k + 1, by go_num, by omega, by rw [e]; exact HD.out, by rw [e]; exact HO.out, HR.out, HM.out⟩
        case measure => simp [intOf]; omega
    · obtain rfl : k = m.writes.length := by omega
      have bc := hr.cell
      have bf := hr.free
      clear hd ho hr hm
      go_wp2
      refine bodyPost_ret (v := .agg #[.int .i64 3, .int .i64 c, .float .f64 y1, .bool false]) (by simp [results, Tryz.results147, go_sem, bc, bf]) rfl ?_
      have hR : ro3 w.heap.size ∈ [r + 12] := by rw [HR.out.role]; simp
      have n0 := Nat.le_refl w.heap.size
      have h5 := HD.out
      rw [rewK_all] at h5
      exact ⟨rfl, ro3, _, h5.keep (((((Mv.refl _ _ _).setCell hR _).setCell hR _).setCell hR _).setCell hR _) (by simp), (((HM.out.setNew n0 _).setNew n0 _).setNew n0 _).setNew n0 _⟩
end Go.Proofs.YtphaeodcomgffaaGreat
