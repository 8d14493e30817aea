import Derived.Test.YtphaeodcomgffaaGreatDT
import Derived.Test.YtphaeodcomgffaaGreatDO
set_option linter.unusedVariables false
set_option linter.unusedSimpArgs false
namespace Go.Proofs.YtphaeodcomgffaaGreat
open Go.RowKit

/-! The document's machine: a read. -/
def Ms.readD (C : Cfg) (m : Ms) : Ms × Ask := match m.readS C with | .error e => m.fails e | .ok r => r
/-- The world with the block of the answer. -/
def ansW (w : World) : World := w.alloc (.cells #[.int .i64 0, .int .i64 0, .float .f64 0, .bool false] 139)
theorem ans_mv (ro : Nat → Nat) (r : Nat) (w : World) : Mv ro [] w (setRo ro w.heap.size (r + 12)) (ansW w) := ((Mv.refl _ _ _).alloc _).give (Nat.le_refl _)
theorem ans_blk (ro : Nat → Nat) (r : Nat) (w : World) : Blk (setRo ro w.heap.size (r + 12)) (r + 12) (ansW w) w.heap.size #[.int .i64 0, .int .i64 0, .float .f64 0, .bool false] 139 := Blk.new _ _ _ _ _
/-- A result within: the machine, and the block of the answer. -/
def AnP (ro : Nat → Nat) (r : Nat) (w : World) (M : Nat) (C : Cfg) (tag : Int) (vc : Value) (d : Dm) (v : Value) (e : Ending) (w' : World) : Prop :=
  e = .returned v ∧ ∃ ro1 p1, DM ro1 r w' M C tag vc d p1 ∧ Mv ro [r, r + 4] w ro1 w' ∧ Blk ro1 (r + 12) w' w.heap.size #[.int .i64 0, .int .i64 0, .float .f64 0, .bool false] 139
theorem dfails_an {ro ro0 : Nat → Nat} {r : Nat} {w W : World} {M C tag vc p} {m : Ms} (mv : Mv (setRo ro w.heap.size (r + 12)) [r, r + 4] (ansW w) ro0 W) (h : DM ro0 r W M C tag vc m.dm p) (er : Int) :
    Calls Tryz.prog 114 #[ptr M, .int .i64 er] W (AnP ro r w M C tag vc (m.fails er).1.dm askEnd.v) := by
  refine (dfails_walk h er).mono ?_
  rintro e w' ⟨rfl, ro1, p1, h1, m1⟩
  have m2 := mv.trans m1
  exact ⟨rfl, ro1, p1, h1, dR_mv (ans_mv ro r w) m2, (ans_blk ro r w).keep m2 (by simp)⟩
theorem dtrade_an {ro ro0 : Nat → Nat} {r : Nat} {w W : World} {M C tag vc p} {m : Ms} (mv : Mv (setRo ro w.heap.size (r + 12)) [r, r + 4] (ansW w) ro0 W) (h : DM ro0 r W M C tag vc m.dm p) (c : Nat) (hn : c ≤ m.stack.length) (hl : m.stack.length ≤ 64) (u : Value) (ys : List Nat) (hk : ys.length ≤ 2) (hu : Rd W 1 u (ys.map cF)) :
    Calls Tryz.prog 140 #[ptr M, .int .i64 c, u] W (AnP ro r w M C tag vc (m.trade c ys).dm (.tuple #[])) := by
  refine (dtrade_ms h c hn (by omega) u ys hk hu).mono ?_
  rintro e w' ⟨rfl, ro1, p1, h1, m1⟩
  have m2 := mv.trans m1
  exact ⟨rfl, ro1, p1, h1, dR_mv (ans_mv ro r w) m2, (ans_blk ro r w).keep m2 (by simp)⟩
theorem rd_litT (w : World) (B : Nat) (hB : B = w.heap.size) (t : Int × Nat) : Rd (w.alloc (.cells #[.int .i64 t.1, .float .f64 t.2] 76)) 2 (.slice (some ⟨B, 0, none⟩) 1 1) ([t].map cT) := by
  subst hB
  refine .inr ⟨w.heap.size, 0, 1, rfl, by simp, by simp, fun i j hi hj => ?_⟩
  rw [cell_of_row _ _ _ _ _ _ (heap_alloc_new w _)]
  have hi' : i < 1 := by simpa using hi
  obtain rfl : i = 0 := by omega
  rcases (by omega : j = 0 ∨ j = 1) with rfl | rfl <;> rfl
set_option maxRecDepth 100000 in
set_option maxHeartbeats 4000000 in
theorem dread_err {ro : Nat → Nat} {r : Nat} {w : World} {M C tag vc p} {m : Ms} (h : DM ro r w M C tag vc m.dm p) (hl : m.stack.length ≤ 64) (h1 : 1 ≤ m.stack.length) (hi : indexF (m.top 0) C.cells = none) :
    Calls Tryz.prog 146 #[ptr M] w (DUp ro r w M C tag vc (m.fails 50).1.dm askEnd.v) := by
  have H1 := Lib.hid (h.keep0 (ans_mv ro r w))
  have R1 := Lib.hid (ans_blk ro r w)
  have M0 := Lib.hid (ans_mv ro r w)
  have TW0 : TopC M (setRo ro w.heap.size (r + 12)) (ansW w) 0 (m.top 0) := ⟨fun W mv => dtop_walk (H1.out.keep0 mv) 0 (by omega) (by omega)⟩
  have FW := Lib.hid (show ∀ W, Mv (setRo ro w.heap.size (r + 12)) [] (ansW w) (setRo ro w.heap.size (r + 12)) W → Calls Tryz.prog 114 #[ptr M, .int .i64 50] W (AnP ro r w M C tag vc (m.fails 50).1.dm askEnd.v) from fun W mv => dfails_an (mv.mono (by simp)) (H1.out.keep0 mv) 50)
  have IW := rindex_walk (m.top 0) C.cells
  rw [hi] at IW
  unfold idxV at IW
  clear h hi
  generalize m.top 0 = y0 at *
  have sf := run_store_float
  simp only [ptr, askEnd, askNone, Ask.v] at *
  unfold ansW at *
  go_enter Tryz.func146, Tryz.ntmps146
  go_wp2
  generalize hW : w.alloc (.cells #[.int .i64 0, .int .i64 0, .float .f64 0, .bool false] 139) = W at *
  have hc := H1.out.blk.cell
  have hf := H1.out.blk.free
  have hlt := H1.out.blk.lt
  unfold dcells at hc
  clear hW
  go_quiet (first | (go_at_call 142; exact Calls.quiet_of (topc_at (by assumption) _ (by repeat (first | with_reducible exact Mv.refl _ _ _ | refine Mv.alloc ?_ _ | refine Mv.drewN ?_ _ | refine Mv.drew ?_)))) | (go_at_call 187; exact Calls.quiet_of_same (IW _)))
  go_wp2_with ((go_at_call 114; refine (FW.out _ (by repeat (first | with_reducible exact Mv.refl _ _ _ | refine Mv.alloc ?_ _ | refine Mv.drewN ?_ _ | refine Mv.drew ?_))).mono ?_; rintro e w1 ⟨rfl, ro1, p1, h1, m1, r1⟩; have bc := r1.cell; have bf := r1.free))
  refine bodyPost_ret (v := .agg #[.int .i64 4, .int .i64 0, .float .f64 0, .bool false]) (by simp [results, Tryz.results146, go_sem, bc, bf]) rfl ?_
  have hR : ro1 w.heap.size ∈ [r + 12] := by rw [r1.role]; simp
  have n0 := Nat.le_refl w.heap.size
  exact ⟨rfl, ro1, _, h1.keep (((((Mv.refl _ _ _).setCell hR _).setCell hR _).setCell hR _).setCell hR _) (by simp), (((m1.setNew n0 _).setNew n0 _).setNew n0 _).setNew n0 _⟩
set_option maxRecDepth 100000 in
set_option maxHeartbeats 4000000 in
theorem dread_wait {ro : Nat → Nat} {r : Nat} {w : World} {M C tag vc p} {m : Ms} (h : DM ro r w M C tag vc m.dm p) (hl : m.stack.length ≤ 64) (h1 : 1 ≤ m.stack.length) (hwl : m.writes.length ≤ 32) (c : Int) (hi : indexF (m.top 0) C.cells = some c) (hwr : wrote m.writes c = none) :
    Calls Tryz.prog 146 #[ptr M] w (DUp ro r w M C tag vc ({ m.trade 1 [] with wait := some c } : Ms).dm (.agg #[.int .i64 1, .int .i64 c, .float .f64 0, .bool false])) := by
  have H1 := Lib.hid (h.keep0 (ans_mv ro r w))
  have R1 := Lib.hid (ans_blk ro r w)
  have M0 := Lib.hid (ans_mv ro r w)
  have TW0 : TopC M (setRo ro w.heap.size (r + 12)) (ansW w) 0 (m.top 0) := ⟨fun W mv => dtop_walk (H1.out.keep0 mv) 0 (by omega) (by omega)⟩
  have WW := Lib.hid (show ∀ W, Mv (setRo ro w.heap.size (r + 12)) [] (ansW w) (setRo ro w.heap.size (r + 12)) W → Calls Tryz.prog 188 #[ptr M, .int .i64 c] W (WroteP W none) from fun W mv => by
    have := dwrote_walk (H1.out.keep0 mv) hwl c
    rwa [hwr] at this)
  have IW := rindex_walk (m.top 0) C.cells
  rw [hi] at IW
  unfold idxV at IW
  have KW := Lib.hid (show ∀ W, Mv (setRo ro w.heap.size (r + 12)) [] (ansW w) (setRo ro w.heap.size (r + 12)) W → Calls Tryz.prog 140 #[ptr M, .int .i64 1, .slice none 0 0] W (AnP ro r w M C tag vc (m.trade 1 []).dm (.tuple #[])) from fun W mv => dtrade_an (mv.mono (by simp)) (H1.out.keep0 mv) 1 h1 hl _ [] (by simp) (rd_nil0 _))
  clear h hi hwr
  generalize m.top 0 = y0 at *
  have sf := run_store_float
  simp only [ptr, askEnd, askNone, Ask.v] at *
  unfold ansW at *
  go_enter Tryz.func146, Tryz.ntmps146
  go_wp2
  generalize hW : w.alloc (.cells #[.int .i64 0, .int .i64 0, .float .f64 0, .bool false] 139) = W at *
  have hc := H1.out.blk.cell
  have hf := H1.out.blk.free
  have hlt := H1.out.blk.lt
  unfold dcells at hc
  clear hW
  go_quiet (first | (go_at_call 142; exact Calls.quiet_of (topc_at (by assumption) _ (by repeat (first | with_reducible exact Mv.refl _ _ _ | refine Mv.alloc ?_ _ | refine Mv.drewN ?_ _ | refine Mv.drew ?_)))) | (go_at_call 187; exact Calls.quiet_of_same (IW _)))
  go_wp2_with (first
    | (go_at_call 188; refine (WW.out _ (by repeat (first | with_reducible exact Mv.refl _ _ _ | refine Mv.alloc ?_ _ | refine Mv.drewN ?_ _ | refine Mv.drew ?_))).mono ?_; rintro e w2 ⟨rfl, b2⟩; have B2 := Lib.hid b2; clear b2)
    | (go_at_call 140; refine (KW.out _ (((Mv.refl _ _ _).drewN _).then_below B2.out)).mono ?_; rintro e w1 ⟨rfl, ro1, p1, h1, m1, r1⟩; have hc1 := h1.blk.cell; have hf1 := h1.blk.free; have hlt1 := h1.blk.lt; unfold dcells at hc1; have bc0 := r1.cell; have bf0 := r1.free; have HH1 := Lib.hid h1; have HM1 := Lib.hid m1; have HR1 := Lib.hid r1; have hne : M ≠ w.heap.size := (by have := h1.blk.ne r1 (by omega); exact this); clear h1 m1 r1))
  have hne' := hne.symm
  obtain ⟨h1, b1⟩ := HH1.out.put (d' := { (m.trade 1 []).dm with wait := c }) 13 (.int .i64 c) rfl rfl rfl rfl rfl rfl rfl rfl
  have m1 := HM1.out.trans (b1.mono (by simp))
  have r1 := HR1.out.keep b1 (by simp)
  refine bodyPost_ret (v := .agg #[.int .i64 1, .int .i64 c, .float .f64 0, .bool false]) (by simp [results, Tryz.results146, go_sem, bc0, bf0, hne, hne']) rfl ?_
  have hR : ro1 w.heap.size ∈ [r + 12] := by rw [r1.role]; simp
  have n0 := Nat.le_refl w.heap.size
  exact ⟨rfl, ro1, _, h1.keep (((((Mv.refl _ _ _).setCell hR _).setCell hR _).setCell hR _).setCell hR _) (by simp), (((m1.setNew n0 _).setNew n0 _).setNew n0 _).setNew n0 _⟩
set_option maxRecDepth 100000 in
set_option maxHeartbeats 4000000 in
theorem dread_own {ro : Nat → Nat} {r : Nat} {w : World} {M C tag vc p} {m : Ms} (h : DM ro r w M C tag vc m.dm p) (hl : m.stack.length ≤ 64) (h1 : 1 ≤ m.stack.length) (hwl : m.writes.length ≤ 32) (hrl : m.reads.length ≤ 4096) (c : Int) (y : Nat) (hi : indexF (m.top 0) C.cells = some c) (hwr : wrote m.writes c = some y) :
    Calls Tryz.prog 146 #[ptr M] w (DUp ro r w M C tag vc ({ m.trade 1 [y] with reads := m.reads ++ [(c, y)] } : Ms).dm (.agg #[.int .i64 2, .int .i64 c, .float .f64 y, .bool false])) := by
  have H1 := Lib.hid (h.keep0 (ans_mv ro r w))
  have R1 := Lib.hid (ans_blk ro r w)
  have M0 := Lib.hid (ans_mv ro r w)
  have TW0 : TopC M (setRo ro w.heap.size (r + 12)) (ansW w) 0 (m.top 0) := ⟨fun W mv => dtop_walk (H1.out.keep0 mv) 0 (by omega) (by omega)⟩
  have WW := Lib.hid (show ∀ W, Mv (setRo ro w.heap.size (r + 12)) [] (ansW w) (setRo ro w.heap.size (r + 12)) W → Calls Tryz.prog 188 #[ptr M, .int .i64 c] W (WroteP W (some y)) from fun W mv => by
    have := dwrote_walk (H1.out.keep0 mv) hwl c
    rwa [hwr] at this)
  have IW := rindex_walk (m.top 0) C.cells
  rw [hi] at IW
  unfold idxV at IW
  have KW := Lib.hid (show ∀ W, Mv (setRo ro w.heap.size (r + 12)) [] (ansW w) (setRo ro w.heap.size (r + 12)) W → Calls Tryz.prog 140 #[ptr M, .int .i64 1, .slice (some ⟨W.heap.size, 0, none⟩) 1 1] (W.alloc (.cells #[.float .f64 y] 74)) (AnP ro r w M C tag vc (m.trade 1 [y]).dm (.tuple #[])) from fun W mv => dtrade_an ((mv.alloc _).mono (by simp)) (H1.out.keep0 (mv.alloc _)) 1 h1 hl _ [y] (by simp) (rd_lit1 _ _ rfl y))
  clear h hi hwr
  generalize m.top 0 = y0 at *
  have sf := run_store_float
  simp only [ptr, askEnd, askNone, Ask.v] at *
  unfold ansW at *
  go_enter Tryz.func146, Tryz.ntmps146
  go_wp2
  generalize hW : w.alloc (.cells #[.int .i64 0, .int .i64 0, .float .f64 0, .bool false] 139) = W at *
  have hc := H1.out.blk.cell
  have hf := H1.out.blk.free
  have hlt := H1.out.blk.lt
  unfold dcells at hc
  clear hW
  go_quiet (first | (go_at_call 142; exact Calls.quiet_of (topc_at (by assumption) _ (by repeat (first | with_reducible exact Mv.refl _ _ _ | refine Mv.alloc ?_ _ | refine Mv.drewN ?_ _ | refine Mv.drew ?_)))) | (go_at_call 187; exact Calls.quiet_of_same (IW _)))
  go_wp2_with (first
    | (go_at_call 188; refine (WW.out _ (by repeat (first | with_reducible exact Mv.refl _ _ _ | refine Mv.alloc ?_ _ | refine Mv.drewN ?_ _ | refine Mv.drew ?_))).mono ?_; rintro e w2 ⟨rfl, b2⟩; have B2 := Lib.hid b2; clear b2)
    | (go_at_call 140; refine (KW.out _ (((Mv.refl _ _ _).drewN _).then_below B2.out)).mono ?_; rintro e w1 ⟨rfl, ro1, p1, h1, m1, r1⟩; have hc1 := h1.blk.cell; unfold dcells at hc1; have HH1 := Lib.hid h1; have HM1 := Lib.hid m1; have HR1 := Lib.hid r1; clear h1 m1 r1))
  rcases HH1.out.reads.form with ⟨e1, e2⟩ | ⟨b, off, cc, e1, hcc0, -, -⟩
  · skip
    have EV := Lib.hid e1
    rw [e1] at hc1
    have E2 := Lib.hid (show m.reads = [] from e2)
    have HS := Lib.hid (show RdL cT ro1 (r + 6) w1 2 (.slice none 0 0) (m.reads) from by rw [E2.out]; exact RdL.nil _ _ _ _ _)
    have w0 : IntKind.i64.wrap 0 = 0 := by decide
    have HS0 := Lib.hid (show ∀ ro' W', Mv ro1 [] w1 ro' W' → (fun W' => W'.cell? ⟨M, 18, none⟩ = some (.slice none 0 0)) W' from fun ro' W' mv => by
      have k := (HH1.out.blk.keep mv (by simp)).cell
      exact (k 18).trans (congrArg some e1))
    clear e1 e2
    refine wp_region_noPanic ?_
    refine wp_region_T (S := fun W' => W'.cell? ⟨M, 18, none⟩ = some (.slice none 0 0)) (last := 23) (by kernel_rfl) (HS0.out _ _ (Mv.refl _ _ _).drew) (fun hHeld => ?_)
    refine' wpAnyT_take (i := 0) (v := _) rfl (by kernel_rfl) (by kernel_rfl) (by kernel_rfl) (by kernel_rfl) (fun _ _ _ h => h) (Or.inl ⟨by rfl, ?hy0u106⟩) (by assumption) ?rest0u106
    case hy0u106 => (intro w hSw; (try dsimp only at hSw); go_simp; try with_reducible rfl)
    try simp only [Act.put, List.setIfInBounds_toArray, List.set_cons_zero, List.set_cons_succ]
    refine' wpAnyT_take (i := 1) (v := _) rfl (by kernel_rfl) (by kernel_rfl) (by kernel_rfl) (by kernel_rfl) (fun _ _ _ h => h) (Or.inl ⟨by rfl, ?hy1u107⟩) (by assumption) ?rest1u107
    case hy1u107 => (intro w hSw; (try dsimp only at hSw); go_simp; try with_reducible rfl)
    try simp only [Act.put, List.setIfInBounds_toArray, List.set_cons_zero, List.set_cons_succ]
    refine' wpAnyT_take (i := 2) (v := _) rfl (by kernel_rfl) (by kernel_rfl) (by kernel_rfl) (by kernel_rfl) (fun _ _ _ h => h) (Or.inl ⟨by rfl, ?hy2u108⟩) (by assumption) ?rest2u108
    case hy2u108 => (intro w hSw; (try dsimp only at hSw); go_simp; try with_reducible rfl)
    try simp only [Act.put, List.setIfInBounds_toArray, List.set_cons_zero, List.set_cons_succ]
    refine' wpAnyT_take (i := 3) (v := _) rfl (by kernel_rfl) (by kernel_rfl) (by kernel_rfl) (by kernel_rfl) (fun _ _ _ h => h) (Or.inl ⟨by rfl, ?hy3u109⟩) (by assumption) ?rest3u109
    case hy3u109 => (intro w hSw; (try dsimp only at hSw); go_simp; try with_reducible rfl)
    try simp only [Act.put, List.setIfInBounds_toArray, List.set_cons_zero, List.set_cons_succ]
    refine' wpAnyT_take (i := 4) (v := _) rfl (by kernel_rfl) (by kernel_rfl) (by kernel_rfl) (by kernel_rfl) (fun _ _ _ h => h) (Or.inl ⟨by rfl, ?hy4u110⟩) (by assumption) ?rest4u110
    case hy4u110 => (intro w hSw; (try dsimp only at hSw); go_simp; try with_reducible rfl)
    try simp only [Act.put, List.setIfInBounds_toArray, List.set_cons_zero, List.set_cons_succ]
    refine' wpAnyT_take (i := 5) (v := _) rfl (by kernel_rfl) (by kernel_rfl) (by kernel_rfl) (by kernel_rfl) (fun _ _ _ h => h) (Or.inl ⟨by rfl, ?hy5u111⟩) (by assumption) ?rest5u111
    case hy5u111 => (intro w hSw; (try dsimp only at hSw); go_simp; try with_reducible rfl)
    try simp only [Act.put, List.setIfInBounds_toArray, List.set_cons_zero, List.set_cons_succ]
    refine' wpAnyT_take (i := 6) (v := _) rfl (by kernel_rfl) (by kernel_rfl) (by kernel_rfl) (by kernel_rfl) (fun _ _ _ h => h) (Or.inl ⟨by rfl, ?hy6u112⟩) (by assumption) ?rest6u112
    case hy6u112 => (intro w hSw; (try dsimp only at hSw); go_simp; try with_reducible rfl)
    try simp only [Act.put, List.setIfInBounds_toArray, List.set_cons_zero, List.set_cons_succ]
    refine' wpAnyT_take (i := 7) (v := _) rfl (by kernel_rfl) (by kernel_rfl) (by kernel_rfl) (by kernel_rfl) (fun _ _ _ h => h) (Or.inl ⟨by rfl, ?hy7u113⟩) (by assumption) ?rest7u113
    case hy7u113 => (intro w hSw; (try dsimp only at hSw); go_simp; try with_reducible rfl)
    try simp only [Act.put, List.setIfInBounds_toArray, List.set_cons_zero, List.set_cons_succ]
    refine' wpAnyT_take (i := 8) (v := _) rfl (by kernel_rfl) (by kernel_rfl) (by kernel_rfl) (by kernel_rfl) (fun _ _ _ h => h) (Or.inl ⟨by rfl, ?hy8u114⟩) (by assumption) ?rest8u114
    case hy8u114 => (intro w hSw; (try dsimp only at hSw); go_simp; try with_reducible rfl)
    try simp only [Act.put, List.setIfInBounds_toArray, List.set_cons_zero, List.set_cons_succ]
    refine' wpAnyT_take (i := 9) (v := _) rfl (by kernel_rfl) (by kernel_rfl) (by kernel_rfl) (by kernel_rfl) (fun _ _ _ h => h) (Or.inl ⟨by rfl, ?hy9u115⟩) (by assumption) ?rest9u115
    case hy9u115 => (intro w hSw; (try dsimp only at hSw); go_simp; try with_reducible rfl)
    try simp only [Act.put, List.setIfInBounds_toArray, List.set_cons_zero, List.set_cons_succ]
    refine' wpAnyT_take (i := 10) (v := _) rfl (by kernel_rfl) (by kernel_rfl) (by kernel_rfl) (by kernel_rfl) (fun _ _ _ h => h) (Or.inl ⟨by rfl, ?hy10u116⟩) (by assumption) ?rest10u116
    case hy10u116 => (intro w hSw; (try dsimp only at hSw); go_simp; try with_reducible rfl)
    try simp only [Act.put, List.setIfInBounds_toArray, List.set_cons_zero, List.set_cons_succ]
    refine' wpAnyT_take (i := 11) (v := _) rfl (by kernel_rfl) (by kernel_rfl) (by kernel_rfl) (by kernel_rfl) (fun _ _ _ h => h) (Or.inl ⟨by rfl, ?hy11u117⟩) (by assumption) ?rest11u117
    case hy11u117 => (intro w hSw; (try dsimp only at hSw); go_simp; try with_reducible rfl)
    try simp only [Act.put, List.setIfInBounds_toArray, List.set_cons_zero, List.set_cons_succ]
    refine' wpAnyT_take (i := 12) (v := _) rfl (by kernel_rfl) (by kernel_rfl) (by kernel_rfl) (by kernel_rfl) (fun _ _ _ h => h) (Or.inl ⟨by rfl, ?hy12u118⟩) (by assumption) ?rest12u118
    case hy12u118 => (intro w hSw; (try dsimp only at hSw); go_simp; try with_reducible rfl)
    try simp only [Act.put, List.setIfInBounds_toArray, List.set_cons_zero, List.set_cons_succ]
    refine' wpAnyT_take (i := 13) (v := _) rfl (by kernel_rfl) (by kernel_rfl) (by kernel_rfl) (by kernel_rfl) (fun _ _ _ h => h) (Or.inl ⟨by rfl, ?hy13u119⟩) (by assumption) ?rest13u119
    case hy13u119 => (intro w hSw; (try dsimp only at hSw); go_simp; try with_reducible rfl)
    try simp only [Act.put, List.setIfInBounds_toArray, List.set_cons_zero, List.set_cons_succ]
    refine' wpAnyT_take (i := 14) (v := _) rfl (by kernel_rfl) (by kernel_rfl) (by kernel_rfl) (by kernel_rfl) (fun _ _ _ h => h) (Or.inl ⟨by rfl, ?hy14u120⟩) (by assumption) ?rest14u120
    case hy14u120 => (intro w hSw; (try dsimp only at hSw); go_simp; try with_reducible rfl)
    try simp only [Act.put, List.setIfInBounds_toArray, List.set_cons_zero, List.set_cons_succ]
    refine' wpAnyT_take (i := 15) (v := _) rfl (by kernel_rfl) (by kernel_rfl) (by kernel_rfl) (by kernel_rfl) (fun _ _ _ h => h) (Or.inl ⟨by rfl, ?hy15u121⟩) (by assumption) ?rest15u121
    case hy15u121 => (intro w hSw; (try dsimp only at hSw); go_simp; try with_reducible rfl)
    try simp only [Act.put, List.setIfInBounds_toArray, List.set_cons_zero, List.set_cons_succ]
    refine' wpAnyT_take (i := 16) (v := _) rfl (by kernel_rfl) (by kernel_rfl) (by kernel_rfl) (by kernel_rfl) (fun _ _ _ h => h) (Or.inl ⟨by rfl, ?hy16u122⟩) (by assumption) ?rest16u122
    case hy16u122 => (intro w hSw; (try dsimp only at hSw); go_simp; try with_reducible rfl)
    try simp only [Act.put, List.setIfInBounds_toArray, List.set_cons_zero, List.set_cons_succ]
    refine' wpAnyT_take (i := 17) (v := _) rfl (by kernel_rfl) (by kernel_rfl) (by kernel_rfl) (by kernel_rfl) (fun _ _ _ h => h) (Or.inl ⟨by rfl, ?hy17u123⟩) (by assumption) ?rest17u123
    case hy17u123 => (intro w hSw; (try dsimp only at hSw); go_simp; try with_reducible rfl)
    try simp only [Act.put, List.setIfInBounds_toArray, List.set_cons_zero, List.set_cons_succ]
    refine' wpAnyT_take (i := 18) (v := _) rfl (by kernel_rfl) (by kernel_rfl) (by kernel_rfl) (by kernel_rfl) (fun _ _ _ h => h) (Or.inl ⟨by rfl, ?hy18u124⟩) (by assumption) ?rest18u124
    case hy18u124 => (intro w hSw; (try dsimp only at hSw); go_simp; try with_reducible rfl)
    try simp only [Act.put, List.setIfInBounds_toArray, List.set_cons_zero, List.set_cons_succ]
    refine wpAnyT_one (i := 19) (by kernel_rfl) rfl (fun K hK => ?_)
    go_simp
    refine hK.out _ _ (.inr (HS0.out ro1 _ (by repeat (first | with_reducible exact Mv.refl _ _ _ | refine Mv.alloc ?_ _ | refine Mv.drewN ?_ _ | refine Mv.drew ?_)))) (fun hHx => ?_)
    have hHeld := hHx.resolve_left (by decide)
    clear hK K hHx
    refine wpAnyT_one (i := 20) (by kernel_rfl) rfl (fun K hK => ?_)
    refine step_app elT cT_len cT_one ro1 (r + 6) rfl (.tmp 57) (.tmp 61) rfl (m.reads) [(c, y)] _ _ _ _ rfl rfl (by rw [E2.out]; rfl) (by rw [E2.out]; rfl) (HS.out.keep (R := []) (by repeat (first | with_reducible exact Mv.refl _ _ _ | refine Mv.alloc ?_ _ | refine Mv.drewN ?_ _ | refine Mv.drew ?_)) (by simp)) (by first | exact rd_litT _ _ rfl (_, _) | exact (rd_litT _ _ rfl (_, _)).keep0 ((Chg.refl _ _).drew) | exact (rd_litT _ _ rfl (_, _)).keep0 (((Chg.refl _ _).drew).drew)) (by rw [E2.out]; simp) ?_
    intro v6 w6 o6 m6
    obtain ⟨va6, vn6, vc6, rfl⟩ := o6.form3
    obtain ⟨ro6, M6, o6'⟩ : ∃ ro6, Mv ro1 [] w1 ro6 w6 ∧ RdL cT ro6 (r + 6) w6 2 (.slice va6 vn6 vc6) ((m.reads) ++ [(c, y)]) := ⟨_, ((by repeat (first | with_reducible exact Mv.refl _ _ _ | refine Mv.alloc ?_ _ | refine Mv.drewN ?_ _ | refine Mv.drew ?_)) : Mv ro1 [] w1 ro1 _).trans m6, o6⟩
    have k6 := HH1.out.blk.keep M6 (by simp)
    have hc6 := k6.cell
    have hf6 := k6.free
    have hlt6 := k6.lt
    unfold dcells at hc6
    rw [EV.out] at hc6
    have HM6 := Lib.hid M6
    have HO6 := Lib.hid o6'
    have hs6 := HS0.out _ _ M6
    clear o6 m6 k6 M6 o6'
    refine hK.out _ _ (.inr hs6) (fun hHx => ?_)
    have hHeld := hHx.resolve_left (by decide)
    clear hK K hHx
    clear hs6
    refine wpAnyT_one (i := 21) (by kernel_rfl) rfl (fun K hK => ?_)
    go_simp
    refine hK.out _ _ (.inr hHeld) (fun hHx => ?_)
    have hHeld := hHx.resolve_left (by decide)
    clear hK K hHx
    refine' wpAnyT_take (i := 22) (v := _) rfl (by kernel_rfl) (by kernel_rfl) (by kernel_rfl) (by kernel_rfl) (fun _ _ _ h => h) (Or.inl ⟨by rfl, ?hy22u125⟩) (by assumption) ?rest22u125
    case hy22u125 => (intro w hSw; (try dsimp only at hSw); go_simp; try with_reducible rfl)
    try simp only [Act.put, List.setIfInBounds_toArray, List.set_cons_zero, List.set_cons_succ]
    refine wpAnyT_one (i := 23) (by kernel_rfl) rfl (fun K hK => ?_)
    go_simp
    refine hK.out _ _ (.inl rfl) (fun _ => ?_)
    clear hK K hHeld
    refine wpAnyT_done (by kernel_rfl) ?_ _
    refine NoPanic.normal ?_
    obtain ⟨h2, b2⟩ := HH1.out.putR HM6.out HO6.out
    have m2 := HM1.out.trans b2
    have r2 := HR1.out.keep b2 (by simp)
    have bc := r2.cell
    have bf := r2.free
    have HH2 := Lib.hid h2
    have HM2 := Lib.hid m2
    have HR2 := Lib.hid r2
    clear h2 m2 r2 b2
    generalize w6.setCell ⟨M, 18, none⟩ (.slice va6 vn6 vc6) = w7 at *
    go_wp2
    refine bodyPost_ret (v := .agg #[.int .i64 2, .int .i64 c, .float .f64 y, .bool false]) (by simp [results, Tryz.results146, go_sem, bc, bf]) rfl ?_
    have hR : ro6 w.heap.size ∈ [r + 12] := by rw [HR2.out.role]; simp
    have n0 := Nat.le_refl w.heap.size
    exact ⟨rfl, ro6, _, HH2.out.keep (((((Mv.refl _ _ _).setCell hR _).setCell hR _).setCell hR _).setCell hR _) (by simp), (((HM2.out.setNew n0 _).setNew n0 _).setNew n0 _).setNew n0 _⟩
  · skip
    have EV := Lib.hid e1
    rw [e1] at hc1
    have hs2 : RdL cT ro1 (r + 6) w1 2 (.slice (some ⟨b, off, none⟩) (m.reads).length cc) (m.reads) := by have hq := HH1.out.reads; rw [e1] at hq; exact hq
    have hcc : (m.reads).length ≤ cc := hcc0
    have hs3 := hs2.front (Nat.le_refl _)
    rw [List.take_length] at hs3
    have HS := Lib.hid hs3
    have wj := wrap_nat (m.reads).length (by omega)
    have mj : max (((m.reads).length : Nat) : Int) 0 = ((m.reads).length : Nat) := by omega
    have cj : (((m.reads).length : Nat) : Int) ≤ cc := by omega
    clear hs2 hs3
    have HS0 := Lib.hid (show ∀ ro' W', Mv ro1 [] w1 ro' W' → (fun W' => W'.cell? ⟨M, 18, none⟩ = some (.slice (some ⟨b, off, none⟩) (m.reads).length cc)) W' from fun ro' W' mv => by
      have k := (HH1.out.blk.keep mv (by simp)).cell
      exact (k 18).trans (congrArg some e1))
    clear e1 hcc0 hcc
    refine wp_region_noPanic ?_
    refine wp_region_T (S := fun W' => W'.cell? ⟨M, 18, none⟩ = some (.slice (some ⟨b, off, none⟩) (m.reads).length cc)) (last := 23) (by kernel_rfl) (HS0.out _ _ (Mv.refl _ _ _).drew) (fun hHeld => ?_)
    refine' wpAnyT_take (i := 0) (v := _) rfl (by kernel_rfl) (by kernel_rfl) (by kernel_rfl) (by kernel_rfl) (fun _ _ _ h => h) (Or.inl ⟨by rfl, ?hy0u126⟩) (by assumption) ?rest0u126
    case hy0u126 => (intro w hSw; (try dsimp only at hSw); go_simp; try with_reducible rfl)
    try simp only [Act.put, List.setIfInBounds_toArray, List.set_cons_zero, List.set_cons_succ]
    refine' wpAnyT_take (i := 1) (v := _) rfl (by kernel_rfl) (by kernel_rfl) (by kernel_rfl) (by kernel_rfl) (fun _ _ _ h => h) (Or.inl ⟨by rfl, ?hy1u127⟩) (by assumption) ?rest1u127
    case hy1u127 => (intro w hSw; (try dsimp only at hSw); go_simp; try with_reducible rfl)
    try simp only [Act.put, List.setIfInBounds_toArray, List.set_cons_zero, List.set_cons_succ]
    refine' wpAnyT_take (i := 2) (v := _) rfl (by kernel_rfl) (by kernel_rfl) (by kernel_rfl) (by kernel_rfl) (fun _ _ _ h => h) (Or.inl ⟨by rfl, ?hy2u128⟩) (by assumption) ?rest2u128
    case hy2u128 => (intro w hSw; (try dsimp only at hSw); go_simp; try with_reducible rfl)
    try simp only [Act.put, List.setIfInBounds_toArray, List.set_cons_zero, List.set_cons_succ]
    refine' wpAnyT_take (i := 3) (v := _) rfl (by kernel_rfl) (by kernel_rfl) (by kernel_rfl) (by kernel_rfl) (fun _ _ _ h => h) (Or.inl ⟨by rfl, ?hy3u129⟩) (by assumption) ?rest3u129
    case hy3u129 => (intro w hSw; (try dsimp only at hSw); go_simp; try with_reducible rfl)
    try simp only [Act.put, List.setIfInBounds_toArray, List.set_cons_zero, List.set_cons_succ]
    refine' wpAnyT_take (i := 4) (v := _) rfl (by kernel_rfl) (by kernel_rfl) (by kernel_rfl) (by kernel_rfl) (fun _ _ _ h => h) (Or.inl ⟨by rfl, ?hy4u130⟩) (by assumption) ?rest4u130
    case hy4u130 => (intro w hSw; (try dsimp only at hSw); go_simp; try with_reducible rfl)
    try simp only [Act.put, List.setIfInBounds_toArray, List.set_cons_zero, List.set_cons_succ]
    refine' wpAnyT_take (i := 5) (v := _) rfl (by kernel_rfl) (by kernel_rfl) (by kernel_rfl) (by kernel_rfl) (fun _ _ _ h => h) (Or.inl ⟨by rfl, ?hy5u131⟩) (by assumption) ?rest5u131
    case hy5u131 => (intro w hSw; (try dsimp only at hSw); go_simp; try with_reducible rfl)
    try simp only [Act.put, List.setIfInBounds_toArray, List.set_cons_zero, List.set_cons_succ]
    refine' wpAnyT_take (i := 6) (v := _) rfl (by kernel_rfl) (by kernel_rfl) (by kernel_rfl) (by kernel_rfl) (fun _ _ _ h => h) (Or.inl ⟨by rfl, ?hy6u132⟩) (by assumption) ?rest6u132
    case hy6u132 => (intro w hSw; (try dsimp only at hSw); go_simp; try with_reducible rfl)
    try simp only [Act.put, List.setIfInBounds_toArray, List.set_cons_zero, List.set_cons_succ]
    refine' wpAnyT_take (i := 7) (v := _) rfl (by kernel_rfl) (by kernel_rfl) (by kernel_rfl) (by kernel_rfl) (fun _ _ _ h => h) (Or.inl ⟨by rfl, ?hy7u133⟩) (by assumption) ?rest7u133
    case hy7u133 => (intro w hSw; (try dsimp only at hSw); go_simp; try with_reducible rfl)
    try simp only [Act.put, List.setIfInBounds_toArray, List.set_cons_zero, List.set_cons_succ]
    refine' wpAnyT_take (i := 8) (v := _) rfl (by kernel_rfl) (by kernel_rfl) (by kernel_rfl) (by kernel_rfl) (fun _ _ _ h => h) (Or.inl ⟨by rfl, ?hy8u134⟩) (by assumption) ?rest8u134
    case hy8u134 => (intro w hSw; (try dsimp only at hSw); go_simp; try with_reducible rfl)
    try simp only [Act.put, List.setIfInBounds_toArray, List.set_cons_zero, List.set_cons_succ]
    refine' wpAnyT_take (i := 9) (v := _) rfl (by kernel_rfl) (by kernel_rfl) (by kernel_rfl) (by kernel_rfl) (fun _ _ _ h => h) (Or.inl ⟨by rfl, ?hy9u135⟩) (by assumption) ?rest9u135
    case hy9u135 => (intro w hSw; (try dsimp only at hSw); go_simp; try with_reducible rfl)
    try simp only [Act.put, List.setIfInBounds_toArray, List.set_cons_zero, List.set_cons_succ]
    refine' wpAnyT_take (i := 10) (v := _) rfl (by kernel_rfl) (by kernel_rfl) (by kernel_rfl) (by kernel_rfl) (fun _ _ _ h => h) (Or.inl ⟨by rfl, ?hy10u136⟩) (by assumption) ?rest10u136
    case hy10u136 => (intro w hSw; (try dsimp only at hSw); go_simp; try with_reducible rfl)
    try simp only [Act.put, List.setIfInBounds_toArray, List.set_cons_zero, List.set_cons_succ]
    refine' wpAnyT_take (i := 11) (v := _) rfl (by kernel_rfl) (by kernel_rfl) (by kernel_rfl) (by kernel_rfl) (fun _ _ _ h => h) (Or.inl ⟨by rfl, ?hy11u137⟩) (by assumption) ?rest11u137
    case hy11u137 => (intro w hSw; (try dsimp only at hSw); go_simp; try with_reducible rfl)
    try simp only [Act.put, List.setIfInBounds_toArray, List.set_cons_zero, List.set_cons_succ]
    refine' wpAnyT_take (i := 12) (v := _) rfl (by kernel_rfl) (by kernel_rfl) (by kernel_rfl) (by kernel_rfl) (fun _ _ _ h => h) (Or.inl ⟨by rfl, ?hy12u138⟩) (by assumption) ?rest12u138
    case hy12u138 => (intro w hSw; (try dsimp only at hSw); go_simp; try with_reducible rfl)
    try simp only [Act.put, List.setIfInBounds_toArray, List.set_cons_zero, List.set_cons_succ]
    refine' wpAnyT_take (i := 13) (v := _) rfl (by kernel_rfl) (by kernel_rfl) (by kernel_rfl) (by kernel_rfl) (fun _ _ _ h => h) (Or.inl ⟨by rfl, ?hy13u139⟩) (by assumption) ?rest13u139
    case hy13u139 => (intro w hSw; (try dsimp only at hSw); go_simp; try with_reducible rfl)
    try simp only [Act.put, List.setIfInBounds_toArray, List.set_cons_zero, List.set_cons_succ]
    refine' wpAnyT_take (i := 14) (v := _) rfl (by kernel_rfl) (by kernel_rfl) (by kernel_rfl) (by kernel_rfl) (fun _ _ _ h => h) (Or.inl ⟨by rfl, ?hy14u140⟩) (by assumption) ?rest14u140
    case hy14u140 => (intro w hSw; (try dsimp only at hSw); go_simp; try with_reducible rfl)
    try simp only [Act.put, List.setIfInBounds_toArray, List.set_cons_zero, List.set_cons_succ]
    refine' wpAnyT_take (i := 15) (v := _) rfl (by kernel_rfl) (by kernel_rfl) (by kernel_rfl) (by kernel_rfl) (fun _ _ _ h => h) (Or.inl ⟨by rfl, ?hy15u141⟩) (by assumption) ?rest15u141
    case hy15u141 => (intro w hSw; (try dsimp only at hSw); go_simp; try with_reducible rfl)
    try simp only [Act.put, List.setIfInBounds_toArray, List.set_cons_zero, List.set_cons_succ]
    refine' wpAnyT_take (i := 16) (v := _) rfl (by kernel_rfl) (by kernel_rfl) (by kernel_rfl) (by kernel_rfl) (fun _ _ _ h => h) (Or.inl ⟨by rfl, ?hy16u142⟩) (by assumption) ?rest16u142
    case hy16u142 => (intro w hSw; (try dsimp only at hSw); go_simp; try with_reducible rfl)
    try simp only [Act.put, List.setIfInBounds_toArray, List.set_cons_zero, List.set_cons_succ]
    refine' wpAnyT_take (i := 17) (v := _) rfl (by kernel_rfl) (by kernel_rfl) (by kernel_rfl) (by kernel_rfl) (fun _ _ _ h => h) (Or.inl ⟨by rfl, ?hy17u143⟩) (by assumption) ?rest17u143
    case hy17u143 => (intro w hSw; (try dsimp only at hSw); go_simp; try with_reducible rfl)
    try simp only [Act.put, List.setIfInBounds_toArray, List.set_cons_zero, List.set_cons_succ]
    refine' wpAnyT_take (i := 18) (v := _) rfl (by kernel_rfl) (by kernel_rfl) (by kernel_rfl) (by kernel_rfl) (fun _ _ _ h => h) (Or.inl ⟨by rfl, ?hy18u144⟩) (by assumption) ?rest18u144
    case hy18u144 => (intro w hSw; (try dsimp only at hSw); go_simp; try with_reducible rfl)
    try simp only [Act.put, List.setIfInBounds_toArray, List.set_cons_zero, List.set_cons_succ]
    refine wpAnyT_one (i := 19) (by kernel_rfl) rfl (fun K hK => ?_)
    go_simp
    refine hK.out _ _ (.inr (HS0.out ro1 _ (by repeat (first | with_reducible exact Mv.refl _ _ _ | refine Mv.alloc ?_ _ | refine Mv.drewN ?_ _ | refine Mv.drew ?_)))) (fun hHx => ?_)
    have hHeld := hHx.resolve_left (by decide)
    clear hK K hHx
    refine wpAnyT_one (i := 20) (by kernel_rfl) rfl (fun K hK => ?_)
    refine step_app elT cT_len cT_one ro1 (r + 6) rfl (.tmp 57) (.tmp 61) rfl (m.reads) [(c, y)] _ _ _ _ rfl rfl rfl rfl (HS.out.keep (R := []) (by repeat (first | with_reducible exact Mv.refl _ _ _ | refine Mv.alloc ?_ _ | refine Mv.drewN ?_ _ | refine Mv.drew ?_)) (by simp)) (by first | exact rd_litT _ _ rfl (_, _) | exact (rd_litT _ _ rfl (_, _)).keep0 ((Chg.refl _ _).drew) | exact (rd_litT _ _ rfl (_, _)).keep0 (((Chg.refl _ _).drew).drew)) (by simp; omega) ?_
    intro v6 w6 o6 m6
    obtain ⟨va6, vn6, vc6, rfl⟩ := o6.form3
    obtain ⟨ro6, M6, o6'⟩ : ∃ ro6, Mv ro1 [] w1 ro6 w6 ∧ RdL cT ro6 (r + 6) w6 2 (.slice va6 vn6 vc6) ((m.reads) ++ [(c, y)]) := ⟨_, ((by repeat (first | with_reducible exact Mv.refl _ _ _ | refine Mv.alloc ?_ _ | refine Mv.drewN ?_ _ | refine Mv.drew ?_)) : Mv ro1 [] w1 ro1 _).trans m6, o6⟩
    have k6 := HH1.out.blk.keep M6 (by simp)
    have hc6 := k6.cell
    have hf6 := k6.free
    have hlt6 := k6.lt
    unfold dcells at hc6
    rw [EV.out] at hc6
    have HM6 := Lib.hid M6
    have HO6 := Lib.hid o6'
    have hs6 := HS0.out _ _ M6
    clear o6 m6 k6 M6 o6'
    refine hK.out _ _ (.inr hs6) (fun hHx => ?_)
    have hHeld := hHx.resolve_left (by decide)
    clear hK K hHx
    clear hs6
    refine wpAnyT_one (i := 21) (by kernel_rfl) rfl (fun K hK => ?_)
    go_simp
    refine hK.out _ _ (.inr hHeld) (fun hHx => ?_)
    have hHeld := hHx.resolve_left (by decide)
    clear hK K hHx
    refine' wpAnyT_take (i := 22) (v := _) rfl (by kernel_rfl) (by kernel_rfl) (by kernel_rfl) (by kernel_rfl) (fun _ _ _ h => h) (Or.inl ⟨by rfl, ?hy22u145⟩) (by assumption) ?rest22u145
    case hy22u145 => (intro w hSw; (try dsimp only at hSw); go_simp; try with_reducible rfl)
    try simp only [Act.put, List.setIfInBounds_toArray, List.set_cons_zero, List.set_cons_succ]
    refine wpAnyT_one (i := 23) (by kernel_rfl) rfl (fun K hK => ?_)
    go_simp
    refine hK.out _ _ (.inl rfl) (fun _ => ?_)
    clear hK K hHeld
    refine wpAnyT_done (by kernel_rfl) ?_ _
    refine NoPanic.normal ?_
    obtain ⟨h2, b2⟩ := HH1.out.putR HM6.out HO6.out
    have m2 := HM1.out.trans b2
    have r2 := HR1.out.keep b2 (by simp)
    have bc := r2.cell
    have bf := r2.free
    have HH2 := Lib.hid h2
    have HM2 := Lib.hid m2
    have HR2 := Lib.hid r2
    clear h2 m2 r2 b2
    generalize w6.setCell ⟨M, 18, none⟩ (.slice va6 vn6 vc6) = w7 at *
    go_wp2
    refine bodyPost_ret (v := .agg #[.int .i64 2, .int .i64 c, .float .f64 y, .bool false]) (by simp [results, Tryz.results146, go_sem, bc, bf]) rfl ?_
    have hR : ro6 w.heap.size ∈ [r + 12] := by rw [HR2.out.role]; simp
    have n0 := Nat.le_refl w.heap.size
    exact ⟨rfl, ro6, _, HH2.out.keep (((((Mv.refl _ _ _).setCell hR _).setCell hR _).setCell hR _).setCell hR _) (by simp), (((HM2.out.setNew n0 _).setNew n0 _).setNew n0 _).setNew n0 _⟩
set_option maxRecDepth 100000 in
set_option maxHeartbeats 4000000 in
theorem dgive_walk {ro : Nat → Nat} {r : Nat} {w : World} {M C tag vc p} {m : Ms} (h : DM ro r w M C tag vc m.dm p) (hl : m.stack.length ≤ 63) (hrl : m.reads.length ≤ 4096) (c : Int) (hw : m.wait = some c) (c0 : 0 ≤ c) (x : Nat) :
    Calls Tryz.prog 112 #[ptr M, .float .f64 x] w (DUp ro r w M C tag vc (m.give x).1.dm (.int .i64 0)) := by
  have FW := rfix_walk x
  obtain ⟨y, hy⟩ : ∃ y, y = fx x := ⟨_, rfl⟩
  rw [← hy] at FW
  have HGV := Lib.hid (show ({ m.trade 0 [y] with reads := m.reads ++ [(c, y)], wait := none } : Ms) = (m.give x).1 from by rw [hy]; unfold Ms.give; rw [hw])
  have HWT := Lib.hid (show (m.trade 0 [y]).dm.wait = c from by show m.wait.getD (-1) = c; rw [hw]; rfl)
  have hwt : m.dm.wait = c := by show m.wait.getD (-1) = c; rw [hw]; rfl
  have hc := h.blk.cell
  have hf := h.blk.free
  have hlt := h.blk.lt
  unfold dcells at hc
  rw [hwt] at hc
  have m0 : Mv ro [] w ro (w.alloc (.cells #[.float .f64 y] 74)) := (Mv.refl _ _ _).alloc _
  have KW := Lib.hid (dtrade_ms (h.keep0 m0) 0 (Nat.zero_le _) (by omega) (.slice (some ⟨w.heap.size, 0, none⟩) 1 1) [y] (by simp) (rd_lit1 _ _ rfl y))
  have M0 := Lib.hid m0
  have sf := run_store_float
  clear h hwt hy m0 hw
  simp only [ptr] at *
  go_enter Tryz.func112, Tryz.ntmps112
  go_wp2_with (first
    | (go_at_call 105; refine (FW _).mono ?_; rintro e w0 ⟨rfl, rfl⟩)
    | (go_at_call 140; refine (KW.out).mono ?_; rintro e w1 ⟨rfl, ro1, p1, h1, m1⟩; have hc1 := h1.blk.cell; unfold dcells at hc1; rw [HWT.out] at hc1; have HH1 := Lib.hid h1; have HM1 := Lib.hid (dR_mv M0.out m1); clear h1 m1))
  rcases HH1.out.reads.form with ⟨e1, e2⟩ | ⟨b, off, cc, e1, hcc0, -, -⟩
  · skip
    have EV := Lib.hid e1
    rw [e1] at hc1
    have E2 := Lib.hid (show m.reads = [] from e2)
    have HS := Lib.hid (show RdL cT ro1 (r + 6) w1 2 (.slice none 0 0) (m.reads) from by rw [E2.out]; exact RdL.nil _ _ _ _ _)
    have w0 : IntKind.i64.wrap 0 = 0 := by decide
    have HS0 := Lib.hid (show ∀ ro' W', Mv ro1 [] w1 ro' W' → (fun W' => W'.cell? ⟨M, 18, none⟩ = some (.slice none 0 0) ∧ W'.cell? ⟨M, 13, none⟩ = some (.int .i64 c)) W' from fun ro' W' mv => by
      have k := (HH1.out.blk.keep mv (by simp)).cell
      exact ⟨(k 18).trans (congrArg some e1), (k 13).trans (congrArg some (congrArg (Value.int .i64) HWT.out))⟩)
    clear e1 e2
    refine wp_region_noPanic ?_
    refine wp_region_T (S := fun W' => W'.cell? ⟨M, 18, none⟩ = some (.slice none 0 0) ∧ W'.cell? ⟨M, 13, none⟩ = some (.int .i64 c)) (last := 26) (by kernel_rfl) (HS0.out _ _ (Mv.refl _ _ _).drew) (fun hHeld => ?_)
    refine' wpAnyT_take (i := 0) (v := _) rfl (by kernel_rfl) (by kernel_rfl) (by kernel_rfl) (by kernel_rfl) (fun _ _ _ h => h) (Or.inl ⟨by rfl, ?hy0u146⟩) (by assumption) ?rest0u146
    case hy0u146 => (intro w hSw; (try dsimp only at hSw); go_simp; try with_reducible rfl)
    try simp only [Act.put, List.setIfInBounds_toArray, List.set_cons_zero, List.set_cons_succ]
    refine' wpAnyT_take (i := 1) (v := _) rfl (by kernel_rfl) (by kernel_rfl) (by kernel_rfl) (by kernel_rfl) (fun _ _ _ h => h) (Or.inl ⟨by rfl, ?hy1u147⟩) (by assumption) ?rest1u147
    case hy1u147 => (intro w hSw; (try dsimp only at hSw); go_simp; try with_reducible rfl)
    try simp only [Act.put, List.setIfInBounds_toArray, List.set_cons_zero, List.set_cons_succ]
    refine' wpAnyT_take (i := 2) (v := _) rfl (by kernel_rfl) (by kernel_rfl) (by kernel_rfl) (by kernel_rfl) (fun _ _ _ h => h) (Or.inl ⟨by rfl, ?hy2u148⟩) (by assumption) ?rest2u148
    case hy2u148 => (intro w hSw; (try dsimp only at hSw); go_simp; try with_reducible rfl)
    try simp only [Act.put, List.setIfInBounds_toArray, List.set_cons_zero, List.set_cons_succ]
    refine' wpAnyT_take (i := 3) (v := _) rfl (by kernel_rfl) (by kernel_rfl) (by kernel_rfl) (by kernel_rfl) (fun _ _ _ h => h) (Or.inl ⟨by rfl, ?hy3u149⟩) (by assumption) ?rest3u149
    case hy3u149 => (intro w hSw; (try dsimp only at hSw); go_simp; try with_reducible rfl)
    try simp only [Act.put, List.setIfInBounds_toArray, List.set_cons_zero, List.set_cons_succ]
    refine' wpAnyT_take (i := 4) (v := _) rfl (by kernel_rfl) (by kernel_rfl) (by kernel_rfl) (by kernel_rfl) (fun _ _ _ h => h) (Or.inl ⟨by rfl, ?hy4u150⟩) (by assumption) ?rest4u150
    case hy4u150 => (intro w hSw; (try dsimp only at hSw); go_simp; try with_reducible rfl)
    try simp only [Act.put, List.setIfInBounds_toArray, List.set_cons_zero, List.set_cons_succ]
    refine' wpAnyT_take (i := 5) (v := _) rfl (by kernel_rfl) (by kernel_rfl) (by kernel_rfl) (by kernel_rfl) (fun _ _ _ h => h) (Or.inl ⟨by rfl, ?hy5u151⟩) (by assumption) ?rest5u151
    case hy5u151 => (intro w hSw; (try dsimp only at hSw); go_simp; try with_reducible rfl)
    try simp only [Act.put, List.setIfInBounds_toArray, List.set_cons_zero, List.set_cons_succ]
    refine' wpAnyT_take (i := 6) (v := _) rfl (by kernel_rfl) (by kernel_rfl) (by kernel_rfl) (by kernel_rfl) (fun _ _ _ h => h) (Or.inl ⟨by rfl, ?hy6u152⟩) (by assumption) ?rest6u152
    case hy6u152 => (intro w hSw; (try dsimp only at hSw); go_simp; try with_reducible rfl)
    try simp only [Act.put, List.setIfInBounds_toArray, List.set_cons_zero, List.set_cons_succ]
    refine' wpAnyT_take (i := 7) (v := _) rfl (by kernel_rfl) (by kernel_rfl) (by kernel_rfl) (by kernel_rfl) (fun _ _ _ h => h) (Or.inl ⟨by rfl, ?hy7u153⟩) (by assumption) ?rest7u153
    case hy7u153 => (intro w hSw; (try dsimp only at hSw); go_simp; try with_reducible rfl)
    try simp only [Act.put, List.setIfInBounds_toArray, List.set_cons_zero, List.set_cons_succ]
    refine' wpAnyT_take (i := 8) (v := _) rfl (by kernel_rfl) (by kernel_rfl) (by kernel_rfl) (by kernel_rfl) (fun _ _ _ h => h) (Or.inl ⟨by rfl, ?hy8u154⟩) (by assumption) ?rest8u154
    case hy8u154 => (intro w hSw; (try dsimp only at hSw); go_simp; try with_reducible rfl)
    try simp only [Act.put, List.setIfInBounds_toArray, List.set_cons_zero, List.set_cons_succ]
    refine' wpAnyT_take (i := 9) (v := _) rfl (by kernel_rfl) (by kernel_rfl) (by kernel_rfl) (by kernel_rfl) (fun _ _ _ h => h) (Or.inl ⟨by rfl, ?hy9u155⟩) (by assumption) ?rest9u155
    case hy9u155 => (intro w hSw; (try dsimp only at hSw); go_simp; try with_reducible rfl)
    try simp only [Act.put, List.setIfInBounds_toArray, List.set_cons_zero, List.set_cons_succ]
    refine' wpAnyT_take (i := 10) (v := _) rfl (by kernel_rfl) (by kernel_rfl) (by kernel_rfl) (by kernel_rfl) (fun _ _ _ h => h) (Or.inl ⟨by rfl, ?hy10u156⟩) (by assumption) ?rest10u156
    case hy10u156 => (intro w hSw; (try dsimp only at hSw); go_simp; try with_reducible rfl)
    try simp only [Act.put, List.setIfInBounds_toArray, List.set_cons_zero, List.set_cons_succ]
    refine' wpAnyT_take (i := 11) (v := _) rfl (by kernel_rfl) (by kernel_rfl) (by kernel_rfl) (by kernel_rfl) (fun _ _ _ h => h) (Or.inl ⟨by rfl, ?hy11u157⟩) (by assumption) ?rest11u157
    case hy11u157 => (intro w hSw; (try dsimp only at hSw); go_simp; try with_reducible rfl)
    try simp only [Act.put, List.setIfInBounds_toArray, List.set_cons_zero, List.set_cons_succ]
    refine' wpAnyT_take (i := 12) (v := _) rfl (by kernel_rfl) (by kernel_rfl) (by kernel_rfl) (by kernel_rfl) (fun _ _ _ h => h) (Or.inl ⟨by rfl, ?hy12u158⟩) (by assumption) ?rest12u158
    case hy12u158 => (intro w hSw; (try dsimp only at hSw); go_simp; try with_reducible rfl)
    try simp only [Act.put, List.setIfInBounds_toArray, List.set_cons_zero, List.set_cons_succ]
    refine' wpAnyT_take (i := 13) (v := _) rfl (by kernel_rfl) (by kernel_rfl) (by kernel_rfl) (by kernel_rfl) (fun _ _ _ h => h) (Or.inl ⟨by rfl, ?hy13u159⟩) (by assumption) ?rest13u159
    case hy13u159 => (intro w hSw; (try dsimp only at hSw); go_simp; try with_reducible rfl)
    try simp only [Act.put, List.setIfInBounds_toArray, List.set_cons_zero, List.set_cons_succ]
    refine' wpAnyT_take (i := 14) (v := _) rfl (by kernel_rfl) (by kernel_rfl) (by kernel_rfl) (by kernel_rfl) (fun _ _ _ h => h) (Or.inl ⟨by rfl, ?hy14u160⟩) (by assumption) ?rest14u160
    case hy14u160 => (intro w hSw; (try dsimp only at hSw); go_simp; try with_reducible rfl)
    try simp only [Act.put, List.setIfInBounds_toArray, List.set_cons_zero, List.set_cons_succ]
    refine' wpAnyT_take (i := 15) (v := _) rfl (by kernel_rfl) (by kernel_rfl) (by kernel_rfl) (by kernel_rfl) (fun _ _ _ h => h) (Or.inl ⟨by rfl, ?hy15u161⟩) (by assumption) ?rest15u161
    case hy15u161 => (intro w hSw; (try dsimp only at hSw); go_simp; try with_reducible rfl)
    try simp only [Act.put, List.setIfInBounds_toArray, List.set_cons_zero, List.set_cons_succ]
    refine' wpAnyT_take (i := 16) (v := _) rfl (by kernel_rfl) (by kernel_rfl) (by kernel_rfl) (by kernel_rfl) (fun _ _ _ h => h) (Or.inl ⟨by rfl, ?hy16u162⟩) (by assumption) ?rest16u162
    case hy16u162 => (intro w hSw; (try dsimp only at hSw); go_simp; try with_reducible rfl)
    try simp only [Act.put, List.setIfInBounds_toArray, List.set_cons_zero, List.set_cons_succ]
    refine' wpAnyT_take (i := 17) (v := _) rfl (by kernel_rfl) (by kernel_rfl) (by kernel_rfl) (by kernel_rfl) (fun _ _ _ h => h) (Or.inl ⟨by rfl, ?hy17u163⟩) (by assumption) ?rest17u163
    case hy17u163 => (intro w hSw; (try dsimp only at hSw); go_simp; try with_reducible rfl)
    try simp only [Act.put, List.setIfInBounds_toArray, List.set_cons_zero, List.set_cons_succ]
    refine' wpAnyT_take (i := 18) (v := _) rfl (by kernel_rfl) (by kernel_rfl) (by kernel_rfl) (by kernel_rfl) (fun _ _ _ h => h) (Or.inl ⟨by rfl, ?hy18u164⟩) (by assumption) ?rest18u164
    case hy18u164 => (intro w hSw; (try dsimp only at hSw); go_simp; try with_reducible rfl)
    try simp only [Act.put, List.setIfInBounds_toArray, List.set_cons_zero, List.set_cons_succ]
    refine' wpAnyT_take (i := 19) (v := _) rfl (by kernel_rfl) (by kernel_rfl) (by kernel_rfl) (by kernel_rfl) (fun _ _ _ h => h) (Or.inl ⟨by rfl, ?hy19u165⟩) (by assumption) ?rest19u165
    case hy19u165 => (intro w hSw; (try dsimp only at hSw); go_simp; try with_reducible rfl)
    try simp only [Act.put, List.setIfInBounds_toArray, List.set_cons_zero, List.set_cons_succ]
    refine' wpAnyT_take (i := 20) (v := _) rfl (by kernel_rfl) (by kernel_rfl) (by kernel_rfl) (by kernel_rfl) (fun _ _ _ h => h) (Or.inl ⟨by rfl, ?hy20u166⟩) (by assumption) ?rest20u166
    case hy20u166 => (intro w hSw; (try dsimp only at hSw); go_simp; try with_reducible rfl)
    try simp only [Act.put, List.setIfInBounds_toArray, List.set_cons_zero, List.set_cons_succ]
    refine' wpAnyT_take (i := 21) (v := _) rfl (by kernel_rfl) (by kernel_rfl) (by kernel_rfl) (by kernel_rfl) (fun _ _ _ h => h) (Or.inl ⟨by rfl, ?hy21u167⟩) (by assumption) ?rest21u167
    case hy21u167 => (intro w hSw; (try dsimp only at hSw); go_simp; try with_reducible rfl)
    try simp only [Act.put, List.setIfInBounds_toArray, List.set_cons_zero, List.set_cons_succ]
    refine wpAnyT_one (i := 22) (by kernel_rfl) rfl (fun K hK => ?_)
    go_simp
    refine hK.out _ _ (.inr (HS0.out ro1 _ (by repeat (first | with_reducible exact Mv.refl _ _ _ | refine Mv.alloc ?_ _ | refine Mv.drewN ?_ _ | refine Mv.drew ?_)))) (fun hHx => ?_)
    have hHeld := hHx.resolve_left (by decide)
    clear hK K hHx
    refine wpAnyT_one (i := 23) (by kernel_rfl) rfl (fun K hK => ?_)
    refine step_app elT cT_len cT_one ro1 (r + 6) rfl (.tmp 31) (.tmp 38) rfl (m.reads) [(c, y)] _ _ _ _ rfl rfl (by rw [E2.out]; rfl) (by rw [E2.out]; rfl) (HS.out.keep (R := []) (by repeat (first | with_reducible exact Mv.refl _ _ _ | refine Mv.alloc ?_ _ | refine Mv.drewN ?_ _ | refine Mv.drew ?_)) (by simp)) (by first | exact rd_litT _ _ rfl (_, _) | exact (rd_litT _ _ rfl (_, _)).keep0 ((Chg.refl _ _).drew) | exact (rd_litT _ _ rfl (_, _)).keep0 (((Chg.refl _ _).drew).drew)) (by rw [E2.out]; simp) ?_
    intro v6 w6 o6 m6
    obtain ⟨va6, vn6, vc6, rfl⟩ := o6.form3
    obtain ⟨ro6, M6, o6'⟩ : ∃ ro6, Mv ro1 [] w1 ro6 w6 ∧ RdL cT ro6 (r + 6) w6 2 (.slice va6 vn6 vc6) ((m.reads) ++ [(c, y)]) := ⟨_, ((by repeat (first | with_reducible exact Mv.refl _ _ _ | refine Mv.alloc ?_ _ | refine Mv.drewN ?_ _ | refine Mv.drew ?_)) : Mv ro1 [] w1 ro1 _).trans m6, o6⟩
    have k6 := HH1.out.blk.keep M6 (by simp)
    have hc6 := k6.cell
    have hf6 := k6.free
    have hlt6 := k6.lt
    unfold dcells at hc6
    rw [EV.out] at hc6
    have HM6 := Lib.hid M6
    have HO6 := Lib.hid o6'
    have hs6 := HS0.out _ _ M6
    clear o6 m6 k6 M6 o6'
    refine hK.out _ _ (.inr hs6) (fun hHx => ?_)
    have hHeld := hHx.resolve_left (by decide)
    clear hK K hHx
    clear hs6
    refine wpAnyT_one (i := 24) (by kernel_rfl) rfl (fun K hK => ?_)
    go_simp
    refine hK.out _ _ (.inr hHeld) (fun hHx => ?_)
    have hHeld := hHx.resolve_left (by decide)
    clear hK K hHx
    refine' wpAnyT_take (i := 25) (v := _) rfl (by kernel_rfl) (by kernel_rfl) (by kernel_rfl) (by kernel_rfl) (fun _ _ _ h => h) (Or.inl ⟨by rfl, ?hy25u168⟩) (by assumption) ?rest25u168
    case hy25u168 => (intro w hSw; (try dsimp only at hSw); go_simp; try with_reducible rfl)
    try simp only [Act.put, List.setIfInBounds_toArray, List.set_cons_zero, List.set_cons_succ]
    refine wpAnyT_one (i := 26) (by kernel_rfl) rfl (fun K hK => ?_)
    go_simp
    refine hK.out _ _ (.inl rfl) (fun _ => ?_)
    clear hK K hHeld
    refine wpAnyT_done (by kernel_rfl) ?_ _
    refine NoPanic.normal ?_
    obtain ⟨h2, b2⟩ := HH1.out.putR HM6.out HO6.out
    have m2 := HM1.out.trans b2
    have hc7 := h2.blk.cell
    have hf7 := h2.blk.free
    unfold dcells at hc7
    obtain ⟨h3, b3⟩ := h2.put (d' := (m.give x).1.dm) 13 (.int .i64 (-1)) (by rw [← HGV.out]; rfl) (by rw [← HGV.out]; rfl) (by rw [← HGV.out]; rfl) (by rw [← HGV.out]; rfl) (by rw [← HGV.out]; rfl) (by rw [← HGV.out]; rfl) (by rw [← HGV.out]; rfl) (by rw [← HGV.out]; rfl)
    have HH3 := Lib.hid h3
    have HM3 := Lib.hid (m2.trans (b3.mono (by simp)))
    clear h2 m2 b2 h3 b3
    generalize w6.setCell ⟨M, 18, none⟩ (.slice va6 vn6 vc6) = w7 at *
    go_wp2
    go_ret
    exact ⟨rfl, ro6, _, HH3.out, HM3.out⟩
  · skip
    have EV := Lib.hid e1
    rw [e1] at hc1
    have hs2 : RdL cT ro1 (r + 6) w1 2 (.slice (some ⟨b, off, none⟩) (m.reads).length cc) (m.reads) := by have hq := HH1.out.reads; rw [e1] at hq; exact hq
    have hcc : (m.reads).length ≤ cc := hcc0
    have hs3 := hs2.front (Nat.le_refl _)
    rw [List.take_length] at hs3
    have HS := Lib.hid hs3
    have wj := wrap_nat (m.reads).length (by omega)
    have mj : max (((m.reads).length : Nat) : Int) 0 = ((m.reads).length : Nat) := by omega
    have cj : (((m.reads).length : Nat) : Int) ≤ cc := by omega
    clear hs2 hs3
    have HS0 := Lib.hid (show ∀ ro' W', Mv ro1 [] w1 ro' W' → (fun W' => W'.cell? ⟨M, 18, none⟩ = some (.slice (some ⟨b, off, none⟩) (m.reads).length cc) ∧ W'.cell? ⟨M, 13, none⟩ = some (.int .i64 c)) W' from fun ro' W' mv => by
      have k := (HH1.out.blk.keep mv (by simp)).cell
      exact ⟨(k 18).trans (congrArg some e1), (k 13).trans (congrArg some (congrArg (Value.int .i64) HWT.out))⟩)
    clear e1 hcc0 hcc
    refine wp_region_noPanic ?_
    refine wp_region_T (S := fun W' => W'.cell? ⟨M, 18, none⟩ = some (.slice (some ⟨b, off, none⟩) (m.reads).length cc) ∧ W'.cell? ⟨M, 13, none⟩ = some (.int .i64 c)) (last := 26) (by kernel_rfl) (HS0.out _ _ (Mv.refl _ _ _).drew) (fun hHeld => ?_)
    refine' wpAnyT_take (i := 0) (v := _) rfl (by kernel_rfl) (by kernel_rfl) (by kernel_rfl) (by kernel_rfl) (fun _ _ _ h => h) (Or.inl ⟨by rfl, ?hy0u169⟩) (by assumption) ?rest0u169
    case hy0u169 => (intro w hSw; (try dsimp only at hSw); go_simp; try with_reducible rfl)
    try simp only [Act.put, List.setIfInBounds_toArray, List.set_cons_zero, List.set_cons_succ]
    refine' wpAnyT_take (i := 1) (v := _) rfl (by kernel_rfl) (by kernel_rfl) (by kernel_rfl) (by kernel_rfl) (fun _ _ _ h => h) (Or.inl ⟨by rfl, ?hy1u170⟩) (by assumption) ?rest1u170
    case hy1u170 => (intro w hSw; (try dsimp only at hSw); go_simp; try with_reducible rfl)
    try simp only [Act.put, List.setIfInBounds_toArray, List.set_cons_zero, List.set_cons_succ]
    refine' wpAnyT_take (i := 2) (v := _) rfl (by kernel_rfl) (by kernel_rfl) (by kernel_rfl) (by kernel_rfl) (fun _ _ _ h => h) (Or.inl ⟨by rfl, ?hy2u171⟩) (by assumption) ?rest2u171
    case hy2u171 => (intro w hSw; (try dsimp only at hSw); go_simp; try with_reducible rfl)
    try simp only [Act.put, List.setIfInBounds_toArray, List.set_cons_zero, List.set_cons_succ]
    refine' wpAnyT_take (i := 3) (v := _) rfl (by kernel_rfl) (by kernel_rfl) (by kernel_rfl) (by kernel_rfl) (fun _ _ _ h => h) (Or.inl ⟨by rfl, ?hy3u172⟩) (by assumption) ?rest3u172
    case hy3u172 => (intro w hSw; (try dsimp only at hSw); go_simp; try with_reducible rfl)
    try simp only [Act.put, List.setIfInBounds_toArray, List.set_cons_zero, List.set_cons_succ]
    refine' wpAnyT_take (i := 4) (v := _) rfl (by kernel_rfl) (by kernel_rfl) (by kernel_rfl) (by kernel_rfl) (fun _ _ _ h => h) (Or.inl ⟨by rfl, ?hy4u173⟩) (by assumption) ?rest4u173
    case hy4u173 => (intro w hSw; (try dsimp only at hSw); go_simp; try with_reducible rfl)
    try simp only [Act.put, List.setIfInBounds_toArray, List.set_cons_zero, List.set_cons_succ]
    refine' wpAnyT_take (i := 5) (v := _) rfl (by kernel_rfl) (by kernel_rfl) (by kernel_rfl) (by kernel_rfl) (fun _ _ _ h => h) (Or.inl ⟨by rfl, ?hy5u174⟩) (by assumption) ?rest5u174
    case hy5u174 => (intro w hSw; (try dsimp only at hSw); go_simp; try with_reducible rfl)
    try simp only [Act.put, List.setIfInBounds_toArray, List.set_cons_zero, List.set_cons_succ]
    refine' wpAnyT_take (i := 6) (v := _) rfl (by kernel_rfl) (by kernel_rfl) (by kernel_rfl) (by kernel_rfl) (fun _ _ _ h => h) (Or.inl ⟨by rfl, ?hy6u175⟩) (by assumption) ?rest6u175
    case hy6u175 => (intro w hSw; (try dsimp only at hSw); go_simp; try with_reducible rfl)
    try simp only [Act.put, List.setIfInBounds_toArray, List.set_cons_zero, List.set_cons_succ]
    refine' wpAnyT_take (i := 7) (v := _) rfl (by kernel_rfl) (by kernel_rfl) (by kernel_rfl) (by kernel_rfl) (fun _ _ _ h => h) (Or.inl ⟨by rfl, ?hy7u176⟩) (by assumption) ?rest7u176
    case hy7u176 => (intro w hSw; (try dsimp only at hSw); go_simp; try with_reducible rfl)
    try simp only [Act.put, List.setIfInBounds_toArray, List.set_cons_zero, List.set_cons_succ]
    refine' wpAnyT_take (i := 8) (v := _) rfl (by kernel_rfl) (by kernel_rfl) (by kernel_rfl) (by kernel_rfl) (fun _ _ _ h => h) (Or.inl ⟨by rfl, ?hy8u177⟩) (by assumption) ?rest8u177
    case hy8u177 => (intro w hSw; (try dsimp only at hSw); go_simp; try with_reducible rfl)
    try simp only [Act.put, List.setIfInBounds_toArray, List.set_cons_zero, List.set_cons_succ]
    refine' wpAnyT_take (i := 9) (v := _) rfl (by kernel_rfl) (by kernel_rfl) (by kernel_rfl) (by kernel_rfl) (fun _ _ _ h => h) (Or.inl ⟨by rfl, ?hy9u178⟩) (by assumption) ?rest9u178
    case hy9u178 => (intro w hSw; (try dsimp only at hSw); go_simp; try with_reducible rfl)
    try simp only [Act.put, List.setIfInBounds_toArray, List.set_cons_zero, List.set_cons_succ]
    refine' wpAnyT_take (i := 10) (v := _) rfl (by kernel_rfl) (by kernel_rfl) (by kernel_rfl) (by kernel_rfl) (fun _ _ _ h => h) (Or.inl ⟨by rfl, ?hy10u179⟩) (by assumption) ?rest10u179
    case hy10u179 => (intro w hSw; (try dsimp only at hSw); go_simp; try with_reducible rfl)
    try simp only [Act.put, List.setIfInBounds_toArray, List.set_cons_zero, List.set_cons_succ]
    refine' wpAnyT_take (i := 11) (v := _) rfl (by kernel_rfl) (by kernel_rfl) (by kernel_rfl) (by kernel_rfl) (fun _ _ _ h => h) (Or.inl ⟨by rfl, ?hy11u180⟩) (by assumption) ?rest11u180
    case hy11u180 => (intro w hSw; (try dsimp only at hSw); go_simp; try with_reducible rfl)
    try simp only [Act.put, List.setIfInBounds_toArray, List.set_cons_zero, List.set_cons_succ]
    refine' wpAnyT_take (i := 12) (v := _) rfl (by kernel_rfl) (by kernel_rfl) (by kernel_rfl) (by kernel_rfl) (fun _ _ _ h => h) (Or.inl ⟨by rfl, ?hy12u181⟩) (by assumption) ?rest12u181
    case hy12u181 => (intro w hSw; (try dsimp only at hSw); go_simp; try with_reducible rfl)
    try simp only [Act.put, List.setIfInBounds_toArray, List.set_cons_zero, List.set_cons_succ]
    refine' wpAnyT_take (i := 13) (v := _) rfl (by kernel_rfl) (by kernel_rfl) (by kernel_rfl) (by kernel_rfl) (fun _ _ _ h => h) (Or.inl ⟨by rfl, ?hy13u182⟩) (by assumption) ?rest13u182
    case hy13u182 => (intro w hSw; (try dsimp only at hSw); go_simp; try with_reducible rfl)
    try simp only [Act.put, List.setIfInBounds_toArray, List.set_cons_zero, List.set_cons_succ]
    refine' wpAnyT_take (i := 14) (v := _) rfl (by kernel_rfl) (by kernel_rfl) (by kernel_rfl) (by kernel_rfl) (fun _ _ _ h => h) (Or.inl ⟨by rfl, ?hy14u183⟩) (by assumption) ?rest14u183
    case hy14u183 => (intro w hSw; (try dsimp only at hSw); go_simp; try with_reducible rfl)
    try simp only [Act.put, List.setIfInBounds_toArray, List.set_cons_zero, List.set_cons_succ]
    refine' wpAnyT_take (i := 15) (v := _) rfl (by kernel_rfl) (by kernel_rfl) (by kernel_rfl) (by kernel_rfl) (fun _ _ _ h => h) (Or.inl ⟨by rfl, ?hy15u184⟩) (by assumption) ?rest15u184
    case hy15u184 => (intro w hSw; (try dsimp only at hSw); go_simp; try with_reducible rfl)
    try simp only [Act.put, List.setIfInBounds_toArray, List.set_cons_zero, List.set_cons_succ]
    refine' wpAnyT_take (i := 16) (v := _) rfl (by kernel_rfl) (by kernel_rfl) (by kernel_rfl) (by kernel_rfl) (fun _ _ _ h => h) (Or.inl ⟨by rfl, ?hy16u185⟩) (by assumption) ?rest16u185
    case hy16u185 => (intro w hSw; (try dsimp only at hSw); go_simp; try with_reducible rfl)
    try simp only [Act.put, List.setIfInBounds_toArray, List.set_cons_zero, List.set_cons_succ]
    refine' wpAnyT_take (i := 17) (v := _) rfl (by kernel_rfl) (by kernel_rfl) (by kernel_rfl) (by kernel_rfl) (fun _ _ _ h => h) (Or.inl ⟨by rfl, ?hy17u186⟩) (by assumption) ?rest17u186
    case hy17u186 => (intro w hSw; (try dsimp only at hSw); go_simp; try with_reducible rfl)
    try simp only [Act.put, List.setIfInBounds_toArray, List.set_cons_zero, List.set_cons_succ]
    refine' wpAnyT_take (i := 18) (v := _) rfl (by kernel_rfl) (by kernel_rfl) (by kernel_rfl) (by kernel_rfl) (fun _ _ _ h => h) (Or.inl ⟨by rfl, ?hy18u187⟩) (by assumption) ?rest18u187
    case hy18u187 => (intro w hSw; (try dsimp only at hSw); go_simp; try with_reducible rfl)
    try simp only [Act.put, List.setIfInBounds_toArray, List.set_cons_zero, List.set_cons_succ]
    refine' wpAnyT_take (i := 19) (v := _) rfl (by kernel_rfl) (by kernel_rfl) (by kernel_rfl) (by kernel_rfl) (fun _ _ _ h => h) (Or.inl ⟨by rfl, ?hy19u188⟩) (by assumption) ?rest19u188
    case hy19u188 => (intro w hSw; (try dsimp only at hSw); go_simp; try with_reducible rfl)
    try simp only [Act.put, List.setIfInBounds_toArray, List.set_cons_zero, List.set_cons_succ]
    refine' wpAnyT_take (i := 20) (v := _) rfl (by kernel_rfl) (by kernel_rfl) (by kernel_rfl) (by kernel_rfl) (fun _ _ _ h => h) (Or.inl ⟨by rfl, ?hy20u189⟩) (by assumption) ?rest20u189
    case hy20u189 => (intro w hSw; (try dsimp only at hSw); go_simp; try with_reducible rfl)
    try simp only [Act.put, List.setIfInBounds_toArray, List.set_cons_zero, List.set_cons_succ]
    refine' wpAnyT_take (i := 21) (v := _) rfl (by kernel_rfl) (by kernel_rfl) (by kernel_rfl) (by kernel_rfl) (fun _ _ _ h => h) (Or.inl ⟨by rfl, ?hy21u190⟩) (by assumption) ?rest21u190
    case hy21u190 => (intro w hSw; (try dsimp only at hSw); go_simp; try with_reducible rfl)
    try simp only [Act.put, List.setIfInBounds_toArray, List.set_cons_zero, List.set_cons_succ]
    refine wpAnyT_one (i := 22) (by kernel_rfl) rfl (fun K hK => ?_)
    go_simp
    refine hK.out _ _ (.inr (HS0.out ro1 _ (by repeat (first | with_reducible exact Mv.refl _ _ _ | refine Mv.alloc ?_ _ | refine Mv.drewN ?_ _ | refine Mv.drew ?_)))) (fun hHx => ?_)
    have hHeld := hHx.resolve_left (by decide)
    clear hK K hHx
    refine wpAnyT_one (i := 23) (by kernel_rfl) rfl (fun K hK => ?_)
    refine step_app elT cT_len cT_one ro1 (r + 6) rfl (.tmp 31) (.tmp 38) rfl (m.reads) [(c, y)] _ _ _ _ rfl rfl rfl rfl (HS.out.keep (R := []) (by repeat (first | with_reducible exact Mv.refl _ _ _ | refine Mv.alloc ?_ _ | refine Mv.drewN ?_ _ | refine Mv.drew ?_)) (by simp)) (by first | exact rd_litT _ _ rfl (_, _) | exact (rd_litT _ _ rfl (_, _)).keep0 ((Chg.refl _ _).drew) | exact (rd_litT _ _ rfl (_, _)).keep0 (((Chg.refl _ _).drew).drew)) (by simp; omega) ?_
    intro v6 w6 o6 m6
    obtain ⟨va6, vn6, vc6, rfl⟩ := o6.form3
    obtain ⟨ro6, M6, o6'⟩ : ∃ ro6, Mv ro1 [] w1 ro6 w6 ∧ RdL cT ro6 (r + 6) w6 2 (.slice va6 vn6 vc6) ((m.reads) ++ [(c, y)]) := ⟨_, ((by repeat (first | with_reducible exact Mv.refl _ _ _ | refine Mv.alloc ?_ _ | refine Mv.drewN ?_ _ | refine Mv.drew ?_)) : Mv ro1 [] w1 ro1 _).trans m6, o6⟩
    have k6 := HH1.out.blk.keep M6 (by simp)
    have hc6 := k6.cell
    have hf6 := k6.free
    have hlt6 := k6.lt
    unfold dcells at hc6
    rw [EV.out] at hc6
    have HM6 := Lib.hid M6
    have HO6 := Lib.hid o6'
    have hs6 := HS0.out _ _ M6
    clear o6 m6 k6 M6 o6'
    refine hK.out _ _ (.inr hs6) (fun hHx => ?_)
    have hHeld := hHx.resolve_left (by decide)
    clear hK K hHx
    clear hs6
    refine wpAnyT_one (i := 24) (by kernel_rfl) rfl (fun K hK => ?_)
    go_simp
    refine hK.out _ _ (.inr hHeld) (fun hHx => ?_)
    have hHeld := hHx.resolve_left (by decide)
    clear hK K hHx
    refine' wpAnyT_take (i := 25) (v := _) rfl (by kernel_rfl) (by kernel_rfl) (by kernel_rfl) (by kernel_rfl) (fun _ _ _ h => h) (Or.inl ⟨by rfl, ?hy25u191⟩) (by assumption) ?rest25u191
    case hy25u191 => (intro w hSw; (try dsimp only at hSw); go_simp; try with_reducible rfl)
    try simp only [Act.put, List.setIfInBounds_toArray, List.set_cons_zero, List.set_cons_succ]
    refine wpAnyT_one (i := 26) (by kernel_rfl) rfl (fun K hK => ?_)
    go_simp
    refine hK.out _ _ (.inl rfl) (fun _ => ?_)
    clear hK K hHeld
    refine wpAnyT_done (by kernel_rfl) ?_ _
    refine NoPanic.normal ?_
    obtain ⟨h2, b2⟩ := HH1.out.putR HM6.out HO6.out
    have m2 := HM1.out.trans b2
    have hc7 := h2.blk.cell
    have hf7 := h2.blk.free
    unfold dcells at hc7
    obtain ⟨h3, b3⟩ := h2.put (d' := (m.give x).1.dm) 13 (.int .i64 (-1)) (by rw [← HGV.out]; rfl) (by rw [← HGV.out]; rfl) (by rw [← HGV.out]; rfl) (by rw [← HGV.out]; rfl) (by rw [← HGV.out]; rfl) (by rw [← HGV.out]; rfl) (by rw [← HGV.out]; rfl) (by rw [← HGV.out]; rfl)
    have HH3 := Lib.hid h3
    have HM3 := Lib.hid (m2.trans (b3.mono (by simp)))
    clear h2 m2 b2 h3 b3
    generalize w6.setCell ⟨M, 18, none⟩ (.slice va6 vn6 vc6) = w7 at *
    go_wp2
    go_ret
    exact ⟨rfl, ro6, _, HH3.out, HM3.out⟩
end Go.Proofs.YtphaeodcomgffaaGreat
