import Derived.Test.YtphaeodcomgffaaGreatDT
set_option linter.unusedVariables false
set_option linter.unusedSimpArgs false
namespace Go.Proofs.YtphaeodcomgffaaGreat
open Go.RowKit

/-! The document's machine: the instructions whose regions append. -/
set_option maxRecDepth 100000 in
set_option maxHeartbeats 2000000 in
theorem ddo_14nil {ro : Nat → Nat} {r : Nat} {w : World} {M C tag vc p} {m : Ms} (h : DM ro r w M C tag vc m.dm p) (hl : m.stack.length ≤ 64) (n : Int) (x : Nat) (ev : p.vk = .slice none 0 0) (hk : m.calls = []) :
    Calls Tryz.prog 116 #[ptr M, insV 14 n x] w (DoD ro r w M C tag vc ({ m with calls := m.calls ++ [m.place], place := n }, askNone)) := by
  have H1 := Lib.hid (h.keep0 (box_mv ro r w 14 n x))
  have RX := Lib.hid (box_res ro r w 14 n x)
  have HI := Lib.hid (box_ins ro r w 14 n x)
  have M0 := Lib.hid (box_mv ro r w 14 n x)
  have EV := Lib.hid ev
  have HS := Lib.hid (show RdL cI (ro2 ro w.heap.size r) (r + 3) (boxW w 14 n x) 1 (.slice none 0 0) ([] : List Int) from RdL.nil _ _ _ _ _)
  have w0 : IntKind.i64.wrap 0 = 0 := by decide
  have HS0 := Lib.hid (show ∀ ro' W', Mv (ro2 ro w.heap.size r) [] (boxW w 14 n x) ro' W' → (fun W => W.cell? ⟨M, 9, none⟩ = some (.slice none 0 0) ∧ W.cell? ⟨M, 11, none⟩ = some (.int .i64 m.place)) W' from fun ro' W' mv => by
    have k := (H1.out.blk.keep mv (by simp)).cell
    exact ⟨by rw [k 9, ← ev]; rfl, by rw [k 11]; rfl⟩)
  clear h ev
  unfold boxW at *
  have sf := run_store_float
  simp only [ptr, insV, Ask.v, askNone, askEnd, DoD] at *
  go_enter Tryz.func116, Tryz.ntmps116
  go_wp2
  generalize hW : (w.alloc (.cells #[.int .i64 14, .int .i64 n, .float .f64 x] 117)).alloc (.cells #[.int .i64 0, .int .i64 0, .float .f64 0, .bool false] 139) = W at *
  have hc := H1.out.blk.cell
  have hf := H1.out.blk.free
  have hlt := H1.out.blk.lt
  have hi := HI.out.cell
  unfold dcells at hc
  rw [EV.out] at hc
  clear hW
  refine wp_region_noPanic ?_
  refine wp_region_T (S := fun W => W.cell? ⟨M, 9, none⟩ = some (.slice none 0 0) ∧ W.cell? ⟨M, 11, none⟩ = some (.int .i64 m.place)) (last := 24) (by kernel_rfl) (HS0.out _ _ (Mv.refl _ _ _).drew) (fun hHeld => ?_)
  refine' wpAnyT_take (i := 0) (v := _) rfl (by kernel_rfl) (by kernel_rfl) (by kernel_rfl) (by kernel_rfl) (fun _ _ _ h => h) (Or.inl ⟨by rfl, ?hy0u1⟩) (by assumption) ?rest0u1
  case hy0u1 => (intro w hSw; (try dsimp only at hSw); go_simp; try with_reducible rfl)
  try simp only [Act.put, List.setIfInBounds_toArray, List.set_cons_zero, List.set_cons_succ]
  refine' wpAnyT_take (i := 1) (v := _) rfl (by kernel_rfl) (by kernel_rfl) (by kernel_rfl) (by kernel_rfl) (fun _ _ _ h => h) (Or.inl ⟨by rfl, ?hy1u2⟩) (by assumption) ?rest1u2
  case hy1u2 => (intro w hSw; (try dsimp only at hSw); go_simp; try with_reducible rfl)
  try simp only [Act.put, List.setIfInBounds_toArray, List.set_cons_zero, List.set_cons_succ]
  refine' wpAnyT_take (i := 2) (v := _) rfl (by kernel_rfl) (by kernel_rfl) (by kernel_rfl) (by kernel_rfl) (fun _ _ _ h => h) (Or.inl ⟨by rfl, ?hy2u3⟩) (by assumption) ?rest2u3
  case hy2u3 => (intro w hSw; (try dsimp only at hSw); go_simp; try with_reducible rfl)
  try simp only [Act.put, List.setIfInBounds_toArray, List.set_cons_zero, List.set_cons_succ]
  refine' wpAnyT_take (i := 3) (v := _) rfl (by kernel_rfl) (by kernel_rfl) (by kernel_rfl) (by kernel_rfl) (fun _ _ _ h => h) (Or.inl ⟨by rfl, ?hy3u4⟩) (by assumption) ?rest3u4
  case hy3u4 => (intro w hSw; (try dsimp only at hSw); go_simp; try with_reducible rfl)
  try simp only [Act.put, List.setIfInBounds_toArray, List.set_cons_zero, List.set_cons_succ]
  refine' wpAnyT_take (i := 4) (v := _) rfl (by kernel_rfl) (by kernel_rfl) (by kernel_rfl) (by kernel_rfl) (fun _ _ _ h => h) (Or.inl ⟨by rfl, ?hy4u5⟩) (by assumption) ?rest4u5
  case hy4u5 => (intro w hSw; (try dsimp only at hSw); go_simp; try with_reducible rfl)
  try simp only [Act.put, List.setIfInBounds_toArray, List.set_cons_zero, List.set_cons_succ]
  refine' wpAnyT_take (i := 5) (v := _) rfl (by kernel_rfl) (by kernel_rfl) (by kernel_rfl) (by kernel_rfl) (fun _ _ _ h => h) (Or.inl ⟨by rfl, ?hy5u6⟩) (by assumption) ?rest5u6
  case hy5u6 => (intro w hSw; (try dsimp only at hSw); go_simp; try with_reducible rfl)
  try simp only [Act.put, List.setIfInBounds_toArray, List.set_cons_zero, List.set_cons_succ]
  refine' wpAnyT_take (i := 6) (v := _) rfl (by kernel_rfl) (by kernel_rfl) (by kernel_rfl) (by kernel_rfl) (fun _ _ _ h => h) (Or.inl ⟨by rfl, ?hy6u7⟩) (by assumption) ?rest6u7
  case hy6u7 => (intro w hSw; (try dsimp only at hSw); go_simp; try with_reducible rfl)
  try simp only [Act.put, List.setIfInBounds_toArray, List.set_cons_zero, List.set_cons_succ]
  refine' wpAnyT_take (i := 7) (v := _) rfl (by kernel_rfl) (by kernel_rfl) (by kernel_rfl) (by kernel_rfl) (fun _ _ _ h => h) (Or.inl ⟨by rfl, ?hy7u8⟩) (by assumption) ?rest7u8
  case hy7u8 => (intro w hSw; (try dsimp only at hSw); go_simp; try with_reducible rfl)
  try simp only [Act.put, List.setIfInBounds_toArray, List.set_cons_zero, List.set_cons_succ]
  refine' wpAnyT_take (i := 8) (v := _) rfl (by kernel_rfl) (by kernel_rfl) (by kernel_rfl) (by kernel_rfl) (fun _ _ _ h => h) (Or.inl ⟨by rfl, ?hy8u9⟩) (by assumption) ?rest8u9
  case hy8u9 => (intro w hSw; (try dsimp only at hSw); go_simp; try with_reducible rfl)
  try simp only [Act.put, List.setIfInBounds_toArray, List.set_cons_zero, List.set_cons_succ]
  refine' wpAnyT_take (i := 9) (v := _) rfl (by kernel_rfl) (by kernel_rfl) (by kernel_rfl) (by kernel_rfl) (fun _ _ _ h => h) (Or.inl ⟨by rfl, ?hy9u10⟩) (by assumption) ?rest9u10
  case hy9u10 => (intro w hSw; (try dsimp only at hSw); go_simp; try with_reducible rfl)
  try simp only [Act.put, List.setIfInBounds_toArray, List.set_cons_zero, List.set_cons_succ]
  refine' wpAnyT_take (i := 10) (v := _) rfl (by kernel_rfl) (by kernel_rfl) (by kernel_rfl) (by kernel_rfl) (fun _ _ _ h => h) (Or.inl ⟨by rfl, ?hy10u11⟩) (by assumption) ?rest10u11
  case hy10u11 => (intro w hSw; (try dsimp only at hSw); go_simp; try with_reducible rfl)
  try simp only [Act.put, List.setIfInBounds_toArray, List.set_cons_zero, List.set_cons_succ]
  refine' wpAnyT_take (i := 11) (v := _) rfl (by kernel_rfl) (by kernel_rfl) (by kernel_rfl) (by kernel_rfl) (fun _ _ _ h => h) (Or.inl ⟨by rfl, ?hy11u12⟩) (by assumption) ?rest11u12
  case hy11u12 => (intro w hSw; (try dsimp only at hSw); go_simp; try with_reducible rfl)
  try simp only [Act.put, List.setIfInBounds_toArray, List.set_cons_zero, List.set_cons_succ]
  refine' wpAnyT_take (i := 12) (v := _) rfl (by kernel_rfl) (by kernel_rfl) (by kernel_rfl) (by kernel_rfl) (fun _ _ _ h => h) (Or.inl ⟨by rfl, ?hy12u13⟩) (by assumption) ?rest12u13
  case hy12u13 => (intro w hSw; (try dsimp only at hSw); go_simp; try with_reducible rfl)
  try simp only [Act.put, List.setIfInBounds_toArray, List.set_cons_zero, List.set_cons_succ]
  refine' wpAnyT_take (i := 13) (v := _) rfl (by kernel_rfl) (by kernel_rfl) (by kernel_rfl) (by kernel_rfl) (fun _ _ _ h => h) (Or.inl ⟨by rfl, ?hy13u14⟩) (by assumption) ?rest13u14
  case hy13u14 => (intro w hSw; (try dsimp only at hSw); go_simp; try with_reducible rfl)
  try simp only [Act.put, List.setIfInBounds_toArray, List.set_cons_zero, List.set_cons_succ]
  refine' wpAnyT_take (i := 14) (v := _) rfl (by kernel_rfl) (by kernel_rfl) (by kernel_rfl) (by kernel_rfl) (fun _ _ _ h => h) (Or.inl ⟨by rfl, ?hy14u15⟩) (by assumption) ?rest14u15
  case hy14u15 => (intro w hSw; (try dsimp only at hSw); go_simp; try with_reducible rfl)
  try simp only [Act.put, List.setIfInBounds_toArray, List.set_cons_zero, List.set_cons_succ]
  refine' wpAnyT_take (i := 15) (v := _) rfl (by kernel_rfl) (by kernel_rfl) (by kernel_rfl) (by kernel_rfl) (fun _ _ _ h => h) (Or.inl ⟨by rfl, ?hy15u16⟩) (by assumption) ?rest15u16
  case hy15u16 => (intro w hSw; (try dsimp only at hSw); go_simp; try with_reducible rfl)
  try simp only [Act.put, List.setIfInBounds_toArray, List.set_cons_zero, List.set_cons_succ]
  refine' wpAnyT_take (i := 16) (v := _) rfl (by kernel_rfl) (by kernel_rfl) (by kernel_rfl) (by kernel_rfl) (fun _ _ _ h => h) (Or.inl ⟨by rfl, ?hy16u17⟩) (by assumption) ?rest16u17
  case hy16u17 => (intro w hSw; (try dsimp only at hSw); go_simp; try with_reducible rfl)
  try simp only [Act.put, List.setIfInBounds_toArray, List.set_cons_zero, List.set_cons_succ]
  refine' wpAnyT_take (i := 17) (v := _) rfl (by kernel_rfl) (by kernel_rfl) (by kernel_rfl) (by kernel_rfl) (fun _ _ _ h => h) (Or.inl ⟨by rfl, ?hy17u18⟩) (by assumption) ?rest17u18
  case hy17u18 => (intro w hSw; (try dsimp only at hSw); go_simp; try with_reducible rfl)
  try simp only [Act.put, List.setIfInBounds_toArray, List.set_cons_zero, List.set_cons_succ]
  refine' wpAnyT_take (i := 18) (v := _) rfl (by kernel_rfl) (by kernel_rfl) (by kernel_rfl) (by kernel_rfl) (fun _ _ _ h => h) (Or.inl ⟨by rfl, ?hy18u19⟩) (by assumption) ?rest18u19
  case hy18u19 => (intro w hSw; (try dsimp only at hSw); go_simp; try with_reducible rfl)
  try simp only [Act.put, List.setIfInBounds_toArray, List.set_cons_zero, List.set_cons_succ]
  refine' wpAnyT_take (i := 19) (v := _) rfl (by kernel_rfl) (by kernel_rfl) (by kernel_rfl) (by kernel_rfl) (fun _ _ _ h => h) (Or.inl ⟨by rfl, ?hy19u20⟩) (by assumption) ?rest19u20
  case hy19u20 => (intro w hSw; (try dsimp only at hSw); go_simp; try with_reducible rfl)
  try simp only [Act.put, List.setIfInBounds_toArray, List.set_cons_zero, List.set_cons_succ]
  refine wpAnyT_one (i := 20) (by kernel_rfl) rfl (fun K hK => ?_)
  go_simp
  refine hK.out _ _ (.inr (HS0.out _ _ ((Mv.refl _ _ _).drew.alloc _))) (fun hHx => ?_)
  have hHeld := hHx.resolve_left (by decide)
  clear hK K hHx
  refine wpAnyT_one (i := 21) (by kernel_rfl) rfl (fun K hK => ?_)
  refine step_app elI cI_len cI_one (ro2 ro w.heap.size r) (r + 3) rfl (.tmp 158) (.tmp 163) rfl ([] : List Int) [m.place] _ _ _ _ rfl rfl rfl rfl (HS.out.keep (R := []) (by repeat (first | with_reducible exact Mv.refl _ _ _ | refine Mv.alloc ?_ _ | refine Mv.drewN ?_ _ | refine Mv.drew ?_)) (by simp)) (by first | exact rd_litI _ _ rfl _ | exact (rd_litI _ _ rfl _).keep0 ((Chg.refl _ _).drew) | exact (rd_litI _ _ rfl _).keep0 (((Chg.refl _ _).drew).drew)) (by simp) ?_
  intro v6 w6 o6 m6
  obtain ⟨va6, vn6, vc6, rfl⟩ := o6.form3
  obtain ⟨ro6, M6, o6'⟩ : ∃ ro6, Mv (ro2 ro w.heap.size r) [] W ro6 w6 ∧ RdL cI ro6 (r + 3) w6 1 (.slice va6 vn6 vc6) (([] : List Int) ++ [m.place]) := ⟨_, ((by repeat (first | with_reducible exact Mv.refl _ _ _ | refine Mv.alloc ?_ _ | refine Mv.drewN ?_ _ | refine Mv.drew ?_)) : Mv (ro2 ro w.heap.size r) [] W (ro2 ro w.heap.size r) _).trans m6, o6⟩
  have k6 := H1.out.blk.keep M6 (by simp)
  have hc6 := k6.cell
  have hf6 := k6.free
  have hlt6 := k6.lt
  have i6 := (HI.out.keep M6 (by simp)).cell
  have r6 := RX.out.keep M6 (by simp)
  have bc6 := r6.cell
  have bf6 := r6.free
  unfold dcells at hc6
  rw [EV.out] at hc6
  have HM6 := Lib.hid M6
  have HO6 := Lib.hid o6'
  have hs6 := HS0.out _ _ M6
  clear o6 m6 k6 r6 M6 o6'
  refine hK.out _ _ (.inr hs6) (fun hHx => ?_)
  have hHeld := hHx.resolve_left (by decide)
  clear hK K hHx
  clear hs6
  refine wpAnyT_one (i := 22) (by kernel_rfl) rfl (fun K hK => ?_)
  go_simp
  refine hK.out _ _ (.inr hHeld) (fun hHx => ?_)
  have hHeld := hHx.resolve_left (by decide)
  clear hK K hHx
  refine' wpAnyT_take (i := 23) (v := _) rfl (by kernel_rfl) (by kernel_rfl) (by kernel_rfl) (by kernel_rfl) (fun _ _ _ h => h) (Or.inl ⟨by rfl, ?hy23u21⟩) (by assumption) ?rest23u21
  case hy23u21 => (intro w hSw; (try dsimp only at hSw); go_simp; try with_reducible rfl)
  try simp only [Act.put, List.setIfInBounds_toArray, List.set_cons_zero, List.set_cons_succ]
  refine wpAnyT_one (i := 24) (by kernel_rfl) rfl (fun K hK => ?_)
  go_simp
  refine hK.out _ _ (.inl rfl) (fun _ => ?_)
  clear hK K hHeld
  refine wpAnyT_done (by kernel_rfl) ?_ _
  refine NoPanic.normal ?_
  have hne : w.heap.size + 1 ≠ M := fun e => by have e1 := RX.out.role; have e2 := H1.out.blk.role; rw [e, e2] at e1; omega
  go_wp2
  refine bodyPost_ret (v := .agg #[.int .i64 0, .int .i64 0, .float .f64 0, .bool false]) (by simp [results, Tryz.results116, go_sem, bc6, bf6, hne, hne.symm]) rfl ?_
  obtain ⟨a1, b1⟩ := H1.out.putK HM6.out HO6.out
  obtain ⟨h1, b2⟩ := a1.put (d' := { m.dm with calls := ([] : List Int) ++ [m.place], place := n }) 11 (.int .i64 n) rfl rfl rfl rfl rfl rfl rfl rfl
  have mv := b1.trans (b2.mono (R' := [r, r + 4]) (by simp))
  have m1 := dR_mv M0.out mv
  have r1 := RX.out.keep mv (by simp)
  have hR : ro6 (w.heap.size + 1) ∈ [r + 12] := by rw [r1.role]; simp
  have n0 := Nat.le_succ w.heap.size
  exact ⟨rfl, ro6, _, h1.keep (((((Mv.refl _ _ _).setCell hR _).setCell hR _).setCell hR _).setCell hR _) (by simp), (((m1.setNew n0 _).setNew n0 _).setNew n0 _).setNew n0 _⟩
set_option maxRecDepth 100000 in
set_option maxHeartbeats 2000000 in
theorem ddo_14some {ro : Nat → Nat} {r : Nat} {w : World} {M C tag vc p} {m : Ms} (h : DM ro r w M C tag vc m.dm p) (hl : m.stack.length ≤ 64) (n : Int) (x : Nat) (b off c : Nat) (ev : p.vk = .slice (some ⟨b, off, none⟩) m.calls.length c) (hk : m.calls.length < 16) (hcc : m.calls.length ≤ c) :
    Calls Tryz.prog 116 #[ptr M, insV 14 n x] w (DoD ro r w M C tag vc ({ m with calls := m.calls ++ [m.place], place := n }, askNone)) := by
  have H1 := Lib.hid (h.keep0 (box_mv ro r w 14 n x))
  have RX := Lib.hid (box_res ro r w 14 n x)
  have HI := Lib.hid (box_ins ro r w 14 n x)
  have M0 := Lib.hid (box_mv ro r w 14 n x)
  have EV := Lib.hid ev
  have hst : RdL cI (ro2 ro w.heap.size r) (r + 3) (boxW w 14 n x) 1 p.vk m.calls := H1.out.calls
  rw [ev] at hst
  have hst := hst.front (Nat.le_refl _)
  rw [List.take_length] at hst
  have HS := Lib.hid hst
  have wj := wrap_nat m.calls.length (by omega)
  have mj : max (m.calls.length : Int) 0 = m.calls.length := by omega
  have cj : (m.calls.length : Int) ≤ c := by omega
  have HS0 := Lib.hid (show ∀ ro' W', Mv (ro2 ro w.heap.size r) [] (boxW w 14 n x) ro' W' → (fun W => W.cell? ⟨M, 9, none⟩ = some (.slice (some ⟨b, off, none⟩) m.calls.length c) ∧ W.cell? ⟨M, 11, none⟩ = some (.int .i64 m.place)) W' from fun ro' W' mv => by
    have k := (H1.out.blk.keep mv (by simp)).cell
    exact ⟨by rw [k 9, ← ev]; rfl, by rw [k 11]; rfl⟩)
  clear h ev
  clear hst
  unfold boxW at *
  have sf := run_store_float
  simp only [ptr, insV, Ask.v, askNone, askEnd, DoD] at *
  go_enter Tryz.func116, Tryz.ntmps116
  go_wp2
  generalize hW : (w.alloc (.cells #[.int .i64 14, .int .i64 n, .float .f64 x] 117)).alloc (.cells #[.int .i64 0, .int .i64 0, .float .f64 0, .bool false] 139) = W at *
  have hc := H1.out.blk.cell
  have hf := H1.out.blk.free
  have hlt := H1.out.blk.lt
  have hi := HI.out.cell
  unfold dcells at hc
  rw [EV.out] at hc
  clear hW
  refine wp_region_noPanic ?_
  refine wp_region_T (S := fun W => W.cell? ⟨M, 9, none⟩ = some (.slice (some ⟨b, off, none⟩) m.calls.length c) ∧ W.cell? ⟨M, 11, none⟩ = some (.int .i64 m.place)) (last := 24) (by kernel_rfl) (HS0.out _ _ (Mv.refl _ _ _).drew) (fun hHeld => ?_)
  refine' wpAnyT_take (i := 0) (v := _) rfl (by kernel_rfl) (by kernel_rfl) (by kernel_rfl) (by kernel_rfl) (fun _ _ _ h => h) (Or.inl ⟨by rfl, ?hy0u22⟩) (by assumption) ?rest0u22
  case hy0u22 => (intro w hSw; (try dsimp only at hSw); go_simp; try with_reducible rfl)
  try simp only [Act.put, List.setIfInBounds_toArray, List.set_cons_zero, List.set_cons_succ]
  refine' wpAnyT_take (i := 1) (v := _) rfl (by kernel_rfl) (by kernel_rfl) (by kernel_rfl) (by kernel_rfl) (fun _ _ _ h => h) (Or.inl ⟨by rfl, ?hy1u23⟩) (by assumption) ?rest1u23
  case hy1u23 => (intro w hSw; (try dsimp only at hSw); go_simp; try with_reducible rfl)
  try simp only [Act.put, List.setIfInBounds_toArray, List.set_cons_zero, List.set_cons_succ]
  refine' wpAnyT_take (i := 2) (v := _) rfl (by kernel_rfl) (by kernel_rfl) (by kernel_rfl) (by kernel_rfl) (fun _ _ _ h => h) (Or.inl ⟨by rfl, ?hy2u24⟩) (by assumption) ?rest2u24
  case hy2u24 => (intro w hSw; (try dsimp only at hSw); go_simp; try with_reducible rfl)
  try simp only [Act.put, List.setIfInBounds_toArray, List.set_cons_zero, List.set_cons_succ]
  refine' wpAnyT_take (i := 3) (v := _) rfl (by kernel_rfl) (by kernel_rfl) (by kernel_rfl) (by kernel_rfl) (fun _ _ _ h => h) (Or.inl ⟨by rfl, ?hy3u25⟩) (by assumption) ?rest3u25
  case hy3u25 => (intro w hSw; (try dsimp only at hSw); go_simp; try with_reducible rfl)
  try simp only [Act.put, List.setIfInBounds_toArray, List.set_cons_zero, List.set_cons_succ]
  refine' wpAnyT_take (i := 4) (v := _) rfl (by kernel_rfl) (by kernel_rfl) (by kernel_rfl) (by kernel_rfl) (fun _ _ _ h => h) (Or.inl ⟨by rfl, ?hy4u26⟩) (by assumption) ?rest4u26
  case hy4u26 => (intro w hSw; (try dsimp only at hSw); go_simp; try with_reducible rfl)
  try simp only [Act.put, List.setIfInBounds_toArray, List.set_cons_zero, List.set_cons_succ]
  refine' wpAnyT_take (i := 5) (v := _) rfl (by kernel_rfl) (by kernel_rfl) (by kernel_rfl) (by kernel_rfl) (fun _ _ _ h => h) (Or.inl ⟨by rfl, ?hy5u27⟩) (by assumption) ?rest5u27
  case hy5u27 => (intro w hSw; (try dsimp only at hSw); go_simp; try with_reducible rfl)
  try simp only [Act.put, List.setIfInBounds_toArray, List.set_cons_zero, List.set_cons_succ]
  refine' wpAnyT_take (i := 6) (v := _) rfl (by kernel_rfl) (by kernel_rfl) (by kernel_rfl) (by kernel_rfl) (fun _ _ _ h => h) (Or.inl ⟨by rfl, ?hy6u28⟩) (by assumption) ?rest6u28
  case hy6u28 => (intro w hSw; (try dsimp only at hSw); go_simp; try with_reducible rfl)
  try simp only [Act.put, List.setIfInBounds_toArray, List.set_cons_zero, List.set_cons_succ]
  refine' wpAnyT_take (i := 7) (v := _) rfl (by kernel_rfl) (by kernel_rfl) (by kernel_rfl) (by kernel_rfl) (fun _ _ _ h => h) (Or.inl ⟨by rfl, ?hy7u29⟩) (by assumption) ?rest7u29
  case hy7u29 => (intro w hSw; (try dsimp only at hSw); go_simp; try with_reducible rfl)
  try simp only [Act.put, List.setIfInBounds_toArray, List.set_cons_zero, List.set_cons_succ]
  refine' wpAnyT_take (i := 8) (v := _) rfl (by kernel_rfl) (by kernel_rfl) (by kernel_rfl) (by kernel_rfl) (fun _ _ _ h => h) (Or.inl ⟨by rfl, ?hy8u30⟩) (by assumption) ?rest8u30
  case hy8u30 => (intro w hSw; (try dsimp only at hSw); go_simp; try with_reducible rfl)
  try simp only [Act.put, List.setIfInBounds_toArray, List.set_cons_zero, List.set_cons_succ]
  refine' wpAnyT_take (i := 9) (v := _) rfl (by kernel_rfl) (by kernel_rfl) (by kernel_rfl) (by kernel_rfl) (fun _ _ _ h => h) (Or.inl ⟨by rfl, ?hy9u31⟩) (by assumption) ?rest9u31
  case hy9u31 => (intro w hSw; (try dsimp only at hSw); go_simp; try with_reducible rfl)
  try simp only [Act.put, List.setIfInBounds_toArray, List.set_cons_zero, List.set_cons_succ]
  refine' wpAnyT_take (i := 10) (v := _) rfl (by kernel_rfl) (by kernel_rfl) (by kernel_rfl) (by kernel_rfl) (fun _ _ _ h => h) (Or.inl ⟨by rfl, ?hy10u32⟩) (by assumption) ?rest10u32
  case hy10u32 => (intro w hSw; (try dsimp only at hSw); go_simp; try with_reducible rfl)
  try simp only [Act.put, List.setIfInBounds_toArray, List.set_cons_zero, List.set_cons_succ]
  refine' wpAnyT_take (i := 11) (v := _) rfl (by kernel_rfl) (by kernel_rfl) (by kernel_rfl) (by kernel_rfl) (fun _ _ _ h => h) (Or.inl ⟨by rfl, ?hy11u33⟩) (by assumption) ?rest11u33
  case hy11u33 => (intro w hSw; (try dsimp only at hSw); go_simp; try with_reducible rfl)
  try simp only [Act.put, List.setIfInBounds_toArray, List.set_cons_zero, List.set_cons_succ]
  refine' wpAnyT_take (i := 12) (v := _) rfl (by kernel_rfl) (by kernel_rfl) (by kernel_rfl) (by kernel_rfl) (fun _ _ _ h => h) (Or.inl ⟨by rfl, ?hy12u34⟩) (by assumption) ?rest12u34
  case hy12u34 => (intro w hSw; (try dsimp only at hSw); go_simp; try with_reducible rfl)
  try simp only [Act.put, List.setIfInBounds_toArray, List.set_cons_zero, List.set_cons_succ]
  refine' wpAnyT_take (i := 13) (v := _) rfl (by kernel_rfl) (by kernel_rfl) (by kernel_rfl) (by kernel_rfl) (fun _ _ _ h => h) (Or.inl ⟨by rfl, ?hy13u35⟩) (by assumption) ?rest13u35
  case hy13u35 => (intro w hSw; (try dsimp only at hSw); go_simp; try with_reducible rfl)
  try simp only [Act.put, List.setIfInBounds_toArray, List.set_cons_zero, List.set_cons_succ]
  refine' wpAnyT_take (i := 14) (v := _) rfl (by kernel_rfl) (by kernel_rfl) (by kernel_rfl) (by kernel_rfl) (fun _ _ _ h => h) (Or.inl ⟨by rfl, ?hy14u36⟩) (by assumption) ?rest14u36
  case hy14u36 => (intro w hSw; (try dsimp only at hSw); go_simp; try with_reducible rfl)
  try simp only [Act.put, List.setIfInBounds_toArray, List.set_cons_zero, List.set_cons_succ]
  refine' wpAnyT_take (i := 15) (v := _) rfl (by kernel_rfl) (by kernel_rfl) (by kernel_rfl) (by kernel_rfl) (fun _ _ _ h => h) (Or.inl ⟨by rfl, ?hy15u37⟩) (by assumption) ?rest15u37
  case hy15u37 => (intro w hSw; (try dsimp only at hSw); go_simp; try with_reducible rfl)
  try simp only [Act.put, List.setIfInBounds_toArray, List.set_cons_zero, List.set_cons_succ]
  refine' wpAnyT_take (i := 16) (v := _) rfl (by kernel_rfl) (by kernel_rfl) (by kernel_rfl) (by kernel_rfl) (fun _ _ _ h => h) (Or.inl ⟨by rfl, ?hy16u38⟩) (by assumption) ?rest16u38
  case hy16u38 => (intro w hSw; (try dsimp only at hSw); go_simp; try with_reducible rfl)
  try simp only [Act.put, List.setIfInBounds_toArray, List.set_cons_zero, List.set_cons_succ]
  refine' wpAnyT_take (i := 17) (v := _) rfl (by kernel_rfl) (by kernel_rfl) (by kernel_rfl) (by kernel_rfl) (fun _ _ _ h => h) (Or.inl ⟨by rfl, ?hy17u39⟩) (by assumption) ?rest17u39
  case hy17u39 => (intro w hSw; (try dsimp only at hSw); go_simp; try with_reducible rfl)
  try simp only [Act.put, List.setIfInBounds_toArray, List.set_cons_zero, List.set_cons_succ]
  refine' wpAnyT_take (i := 18) (v := _) rfl (by kernel_rfl) (by kernel_rfl) (by kernel_rfl) (by kernel_rfl) (fun _ _ _ h => h) (Or.inl ⟨by rfl, ?hy18u40⟩) (by assumption) ?rest18u40
  case hy18u40 => (intro w hSw; (try dsimp only at hSw); go_simp; try with_reducible rfl)
  try simp only [Act.put, List.setIfInBounds_toArray, List.set_cons_zero, List.set_cons_succ]
  refine' wpAnyT_take (i := 19) (v := _) rfl (by kernel_rfl) (by kernel_rfl) (by kernel_rfl) (by kernel_rfl) (fun _ _ _ h => h) (Or.inl ⟨by rfl, ?hy19u41⟩) (by assumption) ?rest19u41
  case hy19u41 => (intro w hSw; (try dsimp only at hSw); go_simp; try with_reducible rfl)
  try simp only [Act.put, List.setIfInBounds_toArray, List.set_cons_zero, List.set_cons_succ]
  refine wpAnyT_one (i := 20) (by kernel_rfl) rfl (fun K hK => ?_)
  go_simp
  refine hK.out _ _ (.inr (HS0.out _ _ ((Mv.refl _ _ _).drew.alloc _))) (fun hHx => ?_)
  have hHeld := hHx.resolve_left (by decide)
  clear hK K hHx
  refine wpAnyT_one (i := 21) (by kernel_rfl) rfl (fun K hK => ?_)
  refine step_app elI cI_len cI_one (ro2 ro w.heap.size r) (r + 3) rfl (.tmp 158) (.tmp 163) rfl m.calls [m.place] _ _ _ _ rfl rfl rfl rfl (HS.out.keep (R := []) (by repeat (first | with_reducible exact Mv.refl _ _ _ | refine Mv.alloc ?_ _ | refine Mv.drewN ?_ _ | refine Mv.drew ?_)) (by simp)) (by first | exact rd_litI _ _ rfl _ | exact (rd_litI _ _ rfl _).keep0 ((Chg.refl _ _).drew) | exact (rd_litI _ _ rfl _).keep0 (((Chg.refl _ _).drew).drew)) (by simp; omega) ?_
  intro v6 w6 o6 m6
  obtain ⟨va6, vn6, vc6, rfl⟩ := o6.form3
  obtain ⟨ro6, M6, o6'⟩ : ∃ ro6, Mv (ro2 ro w.heap.size r) [] W ro6 w6 ∧ RdL cI ro6 (r + 3) w6 1 (.slice va6 vn6 vc6) (m.calls ++ [m.place]) := ⟨_, ((by repeat (first | with_reducible exact Mv.refl _ _ _ | refine Mv.alloc ?_ _ | refine Mv.drewN ?_ _ | refine Mv.drew ?_)) : Mv (ro2 ro w.heap.size r) [] W (ro2 ro w.heap.size r) _).trans m6, o6⟩
  have k6 := H1.out.blk.keep M6 (by simp)
  have hc6 := k6.cell
  have hf6 := k6.free
  have hlt6 := k6.lt
  have i6 := (HI.out.keep M6 (by simp)).cell
  have r6 := RX.out.keep M6 (by simp)
  have bc6 := r6.cell
  have bf6 := r6.free
  unfold dcells at hc6
  rw [EV.out] at hc6
  have HM6 := Lib.hid M6
  have HO6 := Lib.hid o6'
  have hs6 := HS0.out _ _ M6
  clear o6 m6 k6 r6 M6 o6'
  refine hK.out _ _ (.inr hs6) (fun hHx => ?_)
  have hHeld := hHx.resolve_left (by decide)
  clear hK K hHx
  clear hs6
  refine wpAnyT_one (i := 22) (by kernel_rfl) rfl (fun K hK => ?_)
  go_simp
  refine hK.out _ _ (.inr hHeld) (fun hHx => ?_)
  have hHeld := hHx.resolve_left (by decide)
  clear hK K hHx
  refine' wpAnyT_take (i := 23) (v := _) rfl (by kernel_rfl) (by kernel_rfl) (by kernel_rfl) (by kernel_rfl) (fun _ _ _ h => h) (Or.inl ⟨by rfl, ?hy23u42⟩) (by assumption) ?rest23u42
  case hy23u42 => (intro w hSw; (try dsimp only at hSw); go_simp; try with_reducible rfl)
  try simp only [Act.put, List.setIfInBounds_toArray, List.set_cons_zero, List.set_cons_succ]
  refine wpAnyT_one (i := 24) (by kernel_rfl) rfl (fun K hK => ?_)
  go_simp
  refine hK.out _ _ (.inl rfl) (fun _ => ?_)
  clear hK K hHeld
  refine wpAnyT_done (by kernel_rfl) ?_ _
  refine NoPanic.normal ?_
  have hne : w.heap.size + 1 ≠ M := fun e => by have e1 := RX.out.role; have e2 := H1.out.blk.role; rw [e, e2] at e1; omega
  go_wp2
  refine bodyPost_ret (v := .agg #[.int .i64 0, .int .i64 0, .float .f64 0, .bool false]) (by simp [results, Tryz.results116, go_sem, bc6, bf6, hne, hne.symm]) rfl ?_
  obtain ⟨a1, b1⟩ := H1.out.putK HM6.out HO6.out
  obtain ⟨h1, b2⟩ := a1.put (d' := { m.dm with calls := m.calls ++ [m.place], place := n }) 11 (.int .i64 n) rfl rfl rfl rfl rfl rfl rfl rfl
  have mv := b1.trans (b2.mono (R' := [r, r + 4]) (by simp))
  have m1 := dR_mv M0.out mv
  have r1 := RX.out.keep mv (by simp)
  have hR : ro6 (w.heap.size + 1) ∈ [r + 12] := by rw [r1.role]; simp
  have n0 := Nat.le_succ w.heap.size
  exact ⟨rfl, ro6, _, h1.keep (((((Mv.refl _ _ _).setCell hR _).setCell hR _).setCell hR _).setCell hR _) (by simp), (((m1.setNew n0 _).setNew n0 _).setNew n0 _).setNew n0 _⟩
set_option maxRecDepth 100000 in
set_option maxHeartbeats 2000000 in
theorem ddo_18nil {ro : Nat → Nat} {r : Nat} {w : World} {M C tag vc p} {m : Ms} (h : DM ro r w M C tag vc m.dm p) (hl : m.stack.length ≤ 64) (n : Int) (x : Nat) (h1 : 1 ≤ m.stack.length) (ev : p.vo = .slice none 0 0) (hk : m.out = []) :
    Calls Tryz.prog 116 #[ptr M, insV 18 n x] w (DoD ro r w M C tag vc ({ m.trade 1 [] with out := m.out ++ [m.top 0] }, askNone)) := by
  rw [show m.out ++ [m.top 0] = [] ++ [m.top 0] by rw [hk]]
  have H1 := Lib.hid (h.keep0 (box_mv ro r w 18 n x))
  have RX := Lib.hid (box_res ro r w 18 n x)
  have HI := Lib.hid (box_ins ro r w 18 n x)
  have M0 := Lib.hid (box_mv ro r w 18 n x)
  have EV := Lib.hid ev
  have TW0 : TopC M (ro2 ro w.heap.size r) (boxW w 18 n x) 0 (m.top 0) := ⟨fun W mv => dtop_walk ((h.keep0 (box_mv ro r w 18 n x)).keep0 mv) 0 (by omega) (by omega)⟩
  have HS := Lib.hid (show RdL cF (ro2 ro w.heap.size r) (r + 5) (boxW w 18 n x) 1 (.slice none 0 0) ([] : List Nat) from RdL.nil _ _ _ _ _)
  have w0 : IntKind.i64.wrap 0 = 0 := by decide
  have HS0 := Lib.hid (show ∀ ro' W', Mv (ro2 ro w.heap.size r) [] (boxW w 18 n x) ro' W' → (fun W => W.cell? ⟨M, 17, none⟩ = some (.slice none 0 0)) W' from fun ro' W' mv => by
    have k := (H1.out.blk.keep mv (by simp)).cell
    show W'.cell? _ = _
    rw [k 17, ← ev]; rfl)
  have KW := Lib.hid (show ∀ ro6 w6 v, Mv (ro2 ro w.heap.size r) [] (boxW w 18 n x) ro6 w6 → RdL cF ro6 (r + 5) w6 1 v (([] : List Nat) ++ [m.top 0]) → Calls Tryz.prog 140 #[ptr M, .int .i64 1, .slice none 0 0] (w6.setCell ⟨M, 17, none⟩ v) (TrP ro r w M C tag vc (({ m with out := ([] : List Nat) ++ [m.top 0] } : Ms).trade 1 []).dm) from fun ro6 w6 v mv o => by
    obtain ⟨a, b⟩ := H1.out.putO mv o
    exact dtrade_do (m := { m with out := ([] : List Nat) ++ [m.top 0] }) 18 n x b a 1 (by show 1 ≤ m.stack.length; omega) hl _ [] (by simp) (rd_nil0 _))
  clear h
  clear ev
  generalize m.top 0 = y0 at *
  unfold boxW at *
  have sf := run_store_float
  simp only [ptr, insV, Ask.v, askNone, askEnd, DoD] at *
  go_enter Tryz.func116, Tryz.ntmps116
  go_wp2
  generalize hW : (w.alloc (.cells #[.int .i64 18, .int .i64 n, .float .f64 x] 117)).alloc (.cells #[.int .i64 0, .int .i64 0, .float .f64 0, .bool false] 139) = W at *
  have hc := H1.out.blk.cell
  have hf := H1.out.blk.free
  have hlt := H1.out.blk.lt
  have hi := HI.out.cell
  unfold dcells at hc
  rw [EV.out] at hc
  clear hW
  refine wp_region_noPanic ?_
  refine wp_region_T (S := fun W => W.cell? ⟨M, 17, none⟩ = some (.slice none 0 0)) (last := 22) (by kernel_rfl) (HS0.out _ _ (Mv.refl _ _ _).drew) (fun hHeld => ?_)
  refine' wpAnyT_take (i := 0) (v := _) rfl (by kernel_rfl) (by kernel_rfl) (by kernel_rfl) (by kernel_rfl) (fun _ _ _ h => h) (Or.inl ⟨by rfl, ?hy0u43⟩) (by assumption) ?rest0u43
  case hy0u43 => (intro w hSw; (try dsimp only at hSw); go_simp; try with_reducible rfl)
  try simp only [Act.put, List.setIfInBounds_toArray, List.set_cons_zero, List.set_cons_succ]
  refine' wpAnyT_take (i := 1) (v := _) rfl (by kernel_rfl) (by kernel_rfl) (by kernel_rfl) (by kernel_rfl) (fun _ _ _ h => h) (Or.inl ⟨by rfl, ?hy1u44⟩) (by assumption) ?rest1u44
  case hy1u44 => (intro w hSw; (try dsimp only at hSw); go_simp; try with_reducible rfl)
  try simp only [Act.put, List.setIfInBounds_toArray, List.set_cons_zero, List.set_cons_succ]
  refine' wpAnyT_take (i := 2) (v := _) rfl (by kernel_rfl) (by kernel_rfl) (by kernel_rfl) (by kernel_rfl) (fun _ _ _ h => h) (Or.inl ⟨by rfl, ?hy2u45⟩) (by assumption) ?rest2u45
  case hy2u45 => (intro w hSw; (try dsimp only at hSw); go_simp; try with_reducible rfl)
  try simp only [Act.put, List.setIfInBounds_toArray, List.set_cons_zero, List.set_cons_succ]
  refine' wpAnyT_take (i := 3) (v := _) rfl (by kernel_rfl) (by kernel_rfl) (by kernel_rfl) (by kernel_rfl) (fun _ _ _ h => h) (Or.inl ⟨by rfl, ?hy3u46⟩) (by assumption) ?rest3u46
  case hy3u46 => (intro w hSw; (try dsimp only at hSw); go_simp; try with_reducible rfl)
  try simp only [Act.put, List.setIfInBounds_toArray, List.set_cons_zero, List.set_cons_succ]
  refine' wpAnyT_take (i := 4) (v := _) rfl (by kernel_rfl) (by kernel_rfl) (by kernel_rfl) (by kernel_rfl) (fun _ _ _ h => h) (Or.inl ⟨by rfl, ?hy4u47⟩) (by assumption) ?rest4u47
  case hy4u47 => (intro w hSw; (try dsimp only at hSw); go_simp; try with_reducible rfl)
  try simp only [Act.put, List.setIfInBounds_toArray, List.set_cons_zero, List.set_cons_succ]
  refine' wpAnyT_take (i := 5) (v := _) rfl (by kernel_rfl) (by kernel_rfl) (by kernel_rfl) (by kernel_rfl) (fun _ _ _ h => h) (Or.inl ⟨by rfl, ?hy5u48⟩) (by assumption) ?rest5u48
  case hy5u48 => (intro w hSw; (try dsimp only at hSw); go_simp; try with_reducible rfl)
  try simp only [Act.put, List.setIfInBounds_toArray, List.set_cons_zero, List.set_cons_succ]
  refine' wpAnyT_take (i := 6) (v := _) rfl (by kernel_rfl) (by kernel_rfl) (by kernel_rfl) (by kernel_rfl) (fun _ _ _ h => h) (Or.inl ⟨by rfl, ?hy6u49⟩) (by assumption) ?rest6u49
  case hy6u49 => (intro w hSw; (try dsimp only at hSw); go_simp; try with_reducible rfl)
  try simp only [Act.put, List.setIfInBounds_toArray, List.set_cons_zero, List.set_cons_succ]
  refine' wpAnyT_take (i := 7) (v := _) rfl (by kernel_rfl) (by kernel_rfl) (by kernel_rfl) (by kernel_rfl) (fun _ _ _ h => h) (Or.inl ⟨by rfl, ?hy7u50⟩) (by assumption) ?rest7u50
  case hy7u50 => (intro w hSw; (try dsimp only at hSw); go_simp; try with_reducible rfl)
  try simp only [Act.put, List.setIfInBounds_toArray, List.set_cons_zero, List.set_cons_succ]
  refine' wpAnyT_take (i := 8) (v := _) rfl (by kernel_rfl) (by kernel_rfl) (by kernel_rfl) (by kernel_rfl) (fun _ _ _ h => h) (Or.inl ⟨by rfl, ?hy8u51⟩) (by assumption) ?rest8u51
  case hy8u51 => (intro w hSw; (try dsimp only at hSw); go_simp; try with_reducible rfl)
  try simp only [Act.put, List.setIfInBounds_toArray, List.set_cons_zero, List.set_cons_succ]
  refine' wpAnyT_take (i := 9) (v := _) rfl (by kernel_rfl) (by kernel_rfl) (by kernel_rfl) (by kernel_rfl) (fun _ _ _ h => h) (Or.inl ⟨by rfl, ?hy9u52⟩) (by assumption) ?rest9u52
  case hy9u52 => (intro w hSw; (try dsimp only at hSw); go_simp; try with_reducible rfl)
  try simp only [Act.put, List.setIfInBounds_toArray, List.set_cons_zero, List.set_cons_succ]
  refine' wpAnyT_take (i := 10) (v := _) rfl (by kernel_rfl) (by kernel_rfl) (by kernel_rfl) (by kernel_rfl) (fun _ _ _ h => h) (Or.inl ⟨by rfl, ?hy10u53⟩) (by assumption) ?rest10u53
  case hy10u53 => (intro w hSw; (try dsimp only at hSw); go_simp; try with_reducible rfl)
  try simp only [Act.put, List.setIfInBounds_toArray, List.set_cons_zero, List.set_cons_succ]
  refine' wpAnyT_take (i := 11) (v := _) rfl (by kernel_rfl) (by kernel_rfl) (by kernel_rfl) (by kernel_rfl) (fun _ _ _ h => h) (Or.inl ⟨by rfl, ?hy11u54⟩) (by assumption) ?rest11u54
  case hy11u54 => (intro w hSw; (try dsimp only at hSw); go_simp; try with_reducible rfl)
  try simp only [Act.put, List.setIfInBounds_toArray, List.set_cons_zero, List.set_cons_succ]
  refine' wpAnyT_take (i := 12) (v := _) rfl (by kernel_rfl) (by kernel_rfl) (by kernel_rfl) (by kernel_rfl) (fun _ _ _ h => h) (Or.inl ⟨by rfl, ?hy12u55⟩) (by assumption) ?rest12u55
  case hy12u55 => (intro w hSw; (try dsimp only at hSw); go_simp; try with_reducible rfl)
  try simp only [Act.put, List.setIfInBounds_toArray, List.set_cons_zero, List.set_cons_succ]
  refine' wpAnyT_take (i := 13) (v := _) rfl (by kernel_rfl) (by kernel_rfl) (by kernel_rfl) (by kernel_rfl) (fun _ _ _ h => h) (Or.inl ⟨by rfl, ?hy13u56⟩) (by assumption) ?rest13u56
  case hy13u56 => (intro w hSw; (try dsimp only at hSw); go_simp; try with_reducible rfl)
  try simp only [Act.put, List.setIfInBounds_toArray, List.set_cons_zero, List.set_cons_succ]
  refine' wpAnyT_take (i := 14) (v := _) rfl (by kernel_rfl) (by kernel_rfl) (by kernel_rfl) (by kernel_rfl) (fun _ _ _ h => h) (Or.inl ⟨by rfl, ?hy14u57⟩) (by assumption) ?rest14u57
  case hy14u57 => (intro w hSw; (try dsimp only at hSw); go_simp; try with_reducible rfl)
  try simp only [Act.put, List.setIfInBounds_toArray, List.set_cons_zero, List.set_cons_succ]
  refine' wpAnyT_take (i := 15) (v := _) rfl (by kernel_rfl) (by kernel_rfl) (by kernel_rfl) (by kernel_rfl) (fun _ _ _ h => h) (Or.inl ⟨by rfl, ?hy15u58⟩) (by assumption) ?rest15u58
  case hy15u58 => (intro w hSw; (try dsimp only at hSw); go_simp; try with_reducible rfl)
  try simp only [Act.put, List.setIfInBounds_toArray, List.set_cons_zero, List.set_cons_succ]
  refine' wpAnyT_take (i := 16) (v := _) rfl (by kernel_rfl) (by kernel_rfl) (by kernel_rfl) (by kernel_rfl) (fun _ _ _ h => h) (Or.inl ⟨by rfl, ?hy16u59⟩) (by assumption) ?rest16u59
  case hy16u59 => (intro w hSw; (try dsimp only at hSw); go_simp; try with_reducible rfl)
  try simp only [Act.put, List.setIfInBounds_toArray, List.set_cons_zero, List.set_cons_succ]
  refine wpAnyT_one (i := 17) (by kernel_rfl) rfl (fun K hK => ?_)
  go_simp
  go_at_call 142; refine (topc_at (by assumption) _ (by repeat (first | with_reducible exact Mv.refl _ _ _ | refine Mv.alloc ?_ _ | refine Mv.drewN ?_ _ | refine Mv.drew ?_))).mono ?_; rintro e w0 ⟨rfl, q0, rfl⟩
  refine hK.out _ _ (.inr (HS0.out (ro2 ro w.heap.size r) _ (by repeat (first | with_reducible exact Mv.refl _ _ _ | refine Mv.alloc ?_ _ | refine Mv.drewN ?_ _ | refine Mv.drew ?_)))) (fun hHx => ?_)
  have hHeld := hHx.resolve_left (by decide)
  clear hK K hHx
  refine wpAnyT_one (i := 18) (by kernel_rfl) rfl (fun K hK => ?_)
  go_simp
  refine hK.out _ _ (.inr (HS0.out (ro2 ro w.heap.size r) _ (by repeat (first | with_reducible exact Mv.refl _ _ _ | refine Mv.alloc ?_ _ | refine Mv.drewN ?_ _ | refine Mv.drew ?_)))) (fun hHx => ?_)
  have hHeld := hHx.resolve_left (by decide)
  clear hK K hHx
  refine wpAnyT_one (i := 19) (by kernel_rfl) rfl (fun K hK => ?_)
  refine step_app elF cF_len cF_one (ro2 ro w.heap.size r) (r + 5) rfl (.tmp 239) (.tmp 242) rfl ([] : List Nat) [y0] _ _ _ _ rfl rfl rfl rfl (HS.out.keep (R := []) (by repeat (first | with_reducible exact Mv.refl _ _ _ | refine Mv.alloc ?_ _ | refine Mv.drewN ?_ _ | refine Mv.drew ?_)) (by simp)) (by first | exact rd_lit1 _ _ rfl _ | exact (rd_lit1 _ _ rfl _).keep0 ((Chg.refl _ _).drew) | exact (rd_lit1 _ _ rfl _).keep0 (((Chg.refl _ _).drew).drew)) (by simp) ?_
  intro v6 w6 o6 m6
  obtain ⟨va6, vn6, vc6, rfl⟩ := o6.form3
  obtain ⟨ro6, M6, o6'⟩ : ∃ ro6, Mv (ro2 ro w.heap.size r) [] W ro6 w6 ∧ RdL cF ro6 (r + 5) w6 1 (.slice va6 vn6 vc6) (([] : List Nat) ++ [y0]) := ⟨_, ((by repeat (first | with_reducible exact Mv.refl _ _ _ | refine Mv.alloc ?_ _ | refine Mv.drewN ?_ _ | refine Mv.drew ?_)) : Mv (ro2 ro w.heap.size r) [] W (ro2 ro w.heap.size r) _).trans m6, o6⟩
  have k6 := H1.out.blk.keep M6 (by simp)
  have hc6 := k6.cell
  have hf6 := k6.free
  have hlt6 := k6.lt
  have i6 := (HI.out.keep M6 (by simp)).cell
  have r6 := RX.out.keep M6 (by simp)
  have bc6 := r6.cell
  have bf6 := r6.free
  unfold dcells at hc6
  rw [EV.out] at hc6
  have HM6 := Lib.hid M6
  have HO6 := Lib.hid o6'
  have hs6 := HS0.out _ _ M6
  clear o6 m6 k6 r6 M6 o6'
  refine hK.out _ _ (.inr hs6) (fun hHx => ?_)
  have hHeld := hHx.resolve_left (by decide)
  clear hK K hHx
  clear hs6
  refine wpAnyT_one (i := 20) (by kernel_rfl) rfl (fun K hK => ?_)
  go_simp
  refine hK.out _ _ (.inr hHeld) (fun hHx => ?_)
  have hHeld := hHx.resolve_left (by decide)
  clear hK K hHx
  refine' wpAnyT_take (i := 21) (v := _) rfl (by kernel_rfl) (by kernel_rfl) (by kernel_rfl) (by kernel_rfl) (fun _ _ _ h => h) (Or.inl ⟨by rfl, ?hy21u60⟩) (by assumption) ?rest21u60
  case hy21u60 => (intro w hSw; (try dsimp only at hSw); go_simp; try with_reducible rfl)
  try simp only [Act.put, List.setIfInBounds_toArray, List.set_cons_zero, List.set_cons_succ]
  refine wpAnyT_one (i := 22) (by kernel_rfl) rfl (fun K hK => ?_)
  go_simp
  refine hK.out _ _ (.inl rfl) (fun _ => ?_)
  clear hK K hHeld
  refine wpAnyT_done (by kernel_rfl) ?_ _
  refine NoPanic.normal ?_
  go_wp2_with (go_at_call 140; refine (KW.out _ _ _ HM6.out HO6.out).mono ?_; rintro e w1 ⟨rfl, ro1, p1, h1, m1, r1⟩; have bc := r1.cell; have bf := r1.free)
  refine bodyPost_ret (v := .agg #[.int .i64 0, .int .i64 0, .float .f64 0, .bool false]) (by simp [results, Tryz.results116, go_sem, bc, bf]) rfl ?_
  have hR : ro1 (w.heap.size + 1) ∈ [r + 12] := by rw [r1.role]; simp
  have n0 := Nat.le_succ w.heap.size
  exact ⟨rfl, ro1, p1, h1.keep (((((Mv.refl _ _ _).setCell hR _).setCell hR _).setCell hR _).setCell hR _) (by simp), (((m1.setNew n0 _).setNew n0 _).setNew n0 _).setNew n0 _⟩
set_option maxRecDepth 100000 in
set_option maxHeartbeats 2000000 in
theorem ddo_18some {ro : Nat → Nat} {r : Nat} {w : World} {M C tag vc p} {m : Ms} (h : DM ro r w M C tag vc m.dm p) (hl : m.stack.length ≤ 64) (n : Int) (x : Nat) (h1 : 1 ≤ m.stack.length) (b off c : Nat) (ev : p.vo = .slice (some ⟨b, off, none⟩) m.out.length c) (hk : m.out.length ≤ 4096) (hcc : m.out.length ≤ c) :
    Calls Tryz.prog 116 #[ptr M, insV 18 n x] w (DoD ro r w M C tag vc ({ m.trade 1 [] with out := m.out ++ [m.top 0] }, askNone)) := by
  have H1 := Lib.hid (h.keep0 (box_mv ro r w 18 n x))
  have RX := Lib.hid (box_res ro r w 18 n x)
  have HI := Lib.hid (box_ins ro r w 18 n x)
  have M0 := Lib.hid (box_mv ro r w 18 n x)
  have EV := Lib.hid ev
  have TW0 : TopC M (ro2 ro w.heap.size r) (boxW w 18 n x) 0 (m.top 0) := ⟨fun W mv => dtop_walk ((h.keep0 (box_mv ro r w 18 n x)).keep0 mv) 0 (by omega) (by omega)⟩
  have hst : RdL cF (ro2 ro w.heap.size r) (r + 5) (boxW w 18 n x) 1 p.vo m.out := H1.out.out
  rw [ev] at hst
  have hst := hst.front (Nat.le_refl _)
  rw [List.take_length] at hst
  have HS := Lib.hid hst
  have wj := wrap_nat m.out.length (by omega)
  have mj : max (m.out.length : Int) 0 = m.out.length := by omega
  have cj : (m.out.length : Int) ≤ c := by omega
  have HS0 := Lib.hid (show ∀ ro' W', Mv (ro2 ro w.heap.size r) [] (boxW w 18 n x) ro' W' → (fun W => W.cell? ⟨M, 17, none⟩ = some (.slice (some ⟨b, off, none⟩) m.out.length c)) W' from fun ro' W' mv => by
    have k := (H1.out.blk.keep mv (by simp)).cell
    show W'.cell? _ = _
    rw [k 17, ← ev]; rfl)
  have KW := Lib.hid (show ∀ ro6 w6 v, Mv (ro2 ro w.heap.size r) [] (boxW w 18 n x) ro6 w6 → RdL cF ro6 (r + 5) w6 1 v (m.out ++ [m.top 0]) → Calls Tryz.prog 140 #[ptr M, .int .i64 1, .slice none 0 0] (w6.setCell ⟨M, 17, none⟩ v) (TrP ro r w M C tag vc (({ m with out := m.out ++ [m.top 0] } : Ms).trade 1 []).dm) from fun ro6 w6 v mv o => by
    obtain ⟨a, b⟩ := H1.out.putO mv o
    exact dtrade_do (m := { m with out := m.out ++ [m.top 0] }) 18 n x b a 1 (by show 1 ≤ m.stack.length; omega) hl _ [] (by simp) (rd_nil0 _))
  clear h
  clear ev
  clear hst
  generalize m.top 0 = y0 at *
  unfold boxW at *
  have sf := run_store_float
  simp only [ptr, insV, Ask.v, askNone, askEnd, DoD] at *
  go_enter Tryz.func116, Tryz.ntmps116
  go_wp2
  generalize hW : (w.alloc (.cells #[.int .i64 18, .int .i64 n, .float .f64 x] 117)).alloc (.cells #[.int .i64 0, .int .i64 0, .float .f64 0, .bool false] 139) = W at *
  have hc := H1.out.blk.cell
  have hf := H1.out.blk.free
  have hlt := H1.out.blk.lt
  have hi := HI.out.cell
  unfold dcells at hc
  rw [EV.out] at hc
  clear hW
  refine wp_region_noPanic ?_
  refine wp_region_T (S := fun W => W.cell? ⟨M, 17, none⟩ = some (.slice (some ⟨b, off, none⟩) m.out.length c)) (last := 22) (by kernel_rfl) (HS0.out _ _ (Mv.refl _ _ _).drew) (fun hHeld => ?_)
  refine' wpAnyT_take (i := 0) (v := _) rfl (by kernel_rfl) (by kernel_rfl) (by kernel_rfl) (by kernel_rfl) (fun _ _ _ h => h) (Or.inl ⟨by rfl, ?hy0u61⟩) (by assumption) ?rest0u61
  case hy0u61 => (intro w hSw; (try dsimp only at hSw); go_simp; try with_reducible rfl)
  try simp only [Act.put, List.setIfInBounds_toArray, List.set_cons_zero, List.set_cons_succ]
  refine' wpAnyT_take (i := 1) (v := _) rfl (by kernel_rfl) (by kernel_rfl) (by kernel_rfl) (by kernel_rfl) (fun _ _ _ h => h) (Or.inl ⟨by rfl, ?hy1u62⟩) (by assumption) ?rest1u62
  case hy1u62 => (intro w hSw; (try dsimp only at hSw); go_simp; try with_reducible rfl)
  try simp only [Act.put, List.setIfInBounds_toArray, List.set_cons_zero, List.set_cons_succ]
  refine' wpAnyT_take (i := 2) (v := _) rfl (by kernel_rfl) (by kernel_rfl) (by kernel_rfl) (by kernel_rfl) (fun _ _ _ h => h) (Or.inl ⟨by rfl, ?hy2u63⟩) (by assumption) ?rest2u63
  case hy2u63 => (intro w hSw; (try dsimp only at hSw); go_simp; try with_reducible rfl)
  try simp only [Act.put, List.setIfInBounds_toArray, List.set_cons_zero, List.set_cons_succ]
  refine' wpAnyT_take (i := 3) (v := _) rfl (by kernel_rfl) (by kernel_rfl) (by kernel_rfl) (by kernel_rfl) (fun _ _ _ h => h) (Or.inl ⟨by rfl, ?hy3u64⟩) (by assumption) ?rest3u64
  case hy3u64 => (intro w hSw; (try dsimp only at hSw); go_simp; try with_reducible rfl)
  try simp only [Act.put, List.setIfInBounds_toArray, List.set_cons_zero, List.set_cons_succ]
  refine' wpAnyT_take (i := 4) (v := _) rfl (by kernel_rfl) (by kernel_rfl) (by kernel_rfl) (by kernel_rfl) (fun _ _ _ h => h) (Or.inl ⟨by rfl, ?hy4u65⟩) (by assumption) ?rest4u65
  case hy4u65 => (intro w hSw; (try dsimp only at hSw); go_simp; try with_reducible rfl)
  try simp only [Act.put, List.setIfInBounds_toArray, List.set_cons_zero, List.set_cons_succ]
  refine' wpAnyT_take (i := 5) (v := _) rfl (by kernel_rfl) (by kernel_rfl) (by kernel_rfl) (by kernel_rfl) (fun _ _ _ h => h) (Or.inl ⟨by rfl, ?hy5u66⟩) (by assumption) ?rest5u66
  case hy5u66 => (intro w hSw; (try dsimp only at hSw); go_simp; try with_reducible rfl)
  try simp only [Act.put, List.setIfInBounds_toArray, List.set_cons_zero, List.set_cons_succ]
  refine' wpAnyT_take (i := 6) (v := _) rfl (by kernel_rfl) (by kernel_rfl) (by kernel_rfl) (by kernel_rfl) (fun _ _ _ h => h) (Or.inl ⟨by rfl, ?hy6u67⟩) (by assumption) ?rest6u67
  case hy6u67 => (intro w hSw; (try dsimp only at hSw); go_simp; try with_reducible rfl)
  try simp only [Act.put, List.setIfInBounds_toArray, List.set_cons_zero, List.set_cons_succ]
  refine' wpAnyT_take (i := 7) (v := _) rfl (by kernel_rfl) (by kernel_rfl) (by kernel_rfl) (by kernel_rfl) (fun _ _ _ h => h) (Or.inl ⟨by rfl, ?hy7u68⟩) (by assumption) ?rest7u68
  case hy7u68 => (intro w hSw; (try dsimp only at hSw); go_simp; try with_reducible rfl)
  try simp only [Act.put, List.setIfInBounds_toArray, List.set_cons_zero, List.set_cons_succ]
  refine' wpAnyT_take (i := 8) (v := _) rfl (by kernel_rfl) (by kernel_rfl) (by kernel_rfl) (by kernel_rfl) (fun _ _ _ h => h) (Or.inl ⟨by rfl, ?hy8u69⟩) (by assumption) ?rest8u69
  case hy8u69 => (intro w hSw; (try dsimp only at hSw); go_simp; try with_reducible rfl)
  try simp only [Act.put, List.setIfInBounds_toArray, List.set_cons_zero, List.set_cons_succ]
  refine' wpAnyT_take (i := 9) (v := _) rfl (by kernel_rfl) (by kernel_rfl) (by kernel_rfl) (by kernel_rfl) (fun _ _ _ h => h) (Or.inl ⟨by rfl, ?hy9u70⟩) (by assumption) ?rest9u70
  case hy9u70 => (intro w hSw; (try dsimp only at hSw); go_simp; try with_reducible rfl)
  try simp only [Act.put, List.setIfInBounds_toArray, List.set_cons_zero, List.set_cons_succ]
  refine' wpAnyT_take (i := 10) (v := _) rfl (by kernel_rfl) (by kernel_rfl) (by kernel_rfl) (by kernel_rfl) (fun _ _ _ h => h) (Or.inl ⟨by rfl, ?hy10u71⟩) (by assumption) ?rest10u71
  case hy10u71 => (intro w hSw; (try dsimp only at hSw); go_simp; try with_reducible rfl)
  try simp only [Act.put, List.setIfInBounds_toArray, List.set_cons_zero, List.set_cons_succ]
  refine' wpAnyT_take (i := 11) (v := _) rfl (by kernel_rfl) (by kernel_rfl) (by kernel_rfl) (by kernel_rfl) (fun _ _ _ h => h) (Or.inl ⟨by rfl, ?hy11u72⟩) (by assumption) ?rest11u72
  case hy11u72 => (intro w hSw; (try dsimp only at hSw); go_simp; try with_reducible rfl)
  try simp only [Act.put, List.setIfInBounds_toArray, List.set_cons_zero, List.set_cons_succ]
  refine' wpAnyT_take (i := 12) (v := _) rfl (by kernel_rfl) (by kernel_rfl) (by kernel_rfl) (by kernel_rfl) (fun _ _ _ h => h) (Or.inl ⟨by rfl, ?hy12u73⟩) (by assumption) ?rest12u73
  case hy12u73 => (intro w hSw; (try dsimp only at hSw); go_simp; try with_reducible rfl)
  try simp only [Act.put, List.setIfInBounds_toArray, List.set_cons_zero, List.set_cons_succ]
  refine' wpAnyT_take (i := 13) (v := _) rfl (by kernel_rfl) (by kernel_rfl) (by kernel_rfl) (by kernel_rfl) (fun _ _ _ h => h) (Or.inl ⟨by rfl, ?hy13u74⟩) (by assumption) ?rest13u74
  case hy13u74 => (intro w hSw; (try dsimp only at hSw); go_simp; try with_reducible rfl)
  try simp only [Act.put, List.setIfInBounds_toArray, List.set_cons_zero, List.set_cons_succ]
  refine' wpAnyT_take (i := 14) (v := _) rfl (by kernel_rfl) (by kernel_rfl) (by kernel_rfl) (by kernel_rfl) (fun _ _ _ h => h) (Or.inl ⟨by rfl, ?hy14u75⟩) (by assumption) ?rest14u75
  case hy14u75 => (intro w hSw; (try dsimp only at hSw); go_simp; try with_reducible rfl)
  try simp only [Act.put, List.setIfInBounds_toArray, List.set_cons_zero, List.set_cons_succ]
  refine' wpAnyT_take (i := 15) (v := _) rfl (by kernel_rfl) (by kernel_rfl) (by kernel_rfl) (by kernel_rfl) (fun _ _ _ h => h) (Or.inl ⟨by rfl, ?hy15u76⟩) (by assumption) ?rest15u76
  case hy15u76 => (intro w hSw; (try dsimp only at hSw); go_simp; try with_reducible rfl)
  try simp only [Act.put, List.setIfInBounds_toArray, List.set_cons_zero, List.set_cons_succ]
  refine' wpAnyT_take (i := 16) (v := _) rfl (by kernel_rfl) (by kernel_rfl) (by kernel_rfl) (by kernel_rfl) (fun _ _ _ h => h) (Or.inl ⟨by rfl, ?hy16u77⟩) (by assumption) ?rest16u77
  case hy16u77 => (intro w hSw; (try dsimp only at hSw); go_simp; try with_reducible rfl)
  try simp only [Act.put, List.setIfInBounds_toArray, List.set_cons_zero, List.set_cons_succ]
  refine wpAnyT_one (i := 17) (by kernel_rfl) rfl (fun K hK => ?_)
  go_simp
  go_at_call 142; refine (topc_at (by assumption) _ (by repeat (first | with_reducible exact Mv.refl _ _ _ | refine Mv.alloc ?_ _ | refine Mv.drewN ?_ _ | refine Mv.drew ?_))).mono ?_; rintro e w0 ⟨rfl, q0, rfl⟩
  refine hK.out _ _ (.inr (HS0.out (ro2 ro w.heap.size r) _ (by repeat (first | with_reducible exact Mv.refl _ _ _ | refine Mv.alloc ?_ _ | refine Mv.drewN ?_ _ | refine Mv.drew ?_)))) (fun hHx => ?_)
  have hHeld := hHx.resolve_left (by decide)
  clear hK K hHx
  refine wpAnyT_one (i := 18) (by kernel_rfl) rfl (fun K hK => ?_)
  go_simp
  refine hK.out _ _ (.inr (HS0.out (ro2 ro w.heap.size r) _ (by repeat (first | with_reducible exact Mv.refl _ _ _ | refine Mv.alloc ?_ _ | refine Mv.drewN ?_ _ | refine Mv.drew ?_)))) (fun hHx => ?_)
  have hHeld := hHx.resolve_left (by decide)
  clear hK K hHx
  refine wpAnyT_one (i := 19) (by kernel_rfl) rfl (fun K hK => ?_)
  refine step_app elF cF_len cF_one (ro2 ro w.heap.size r) (r + 5) rfl (.tmp 239) (.tmp 242) rfl m.out [y0] _ _ _ _ rfl rfl rfl rfl (HS.out.keep (R := []) (by repeat (first | with_reducible exact Mv.refl _ _ _ | refine Mv.alloc ?_ _ | refine Mv.drewN ?_ _ | refine Mv.drew ?_)) (by simp)) (by first | exact rd_lit1 _ _ rfl _ | exact (rd_lit1 _ _ rfl _).keep0 ((Chg.refl _ _).drew) | exact (rd_lit1 _ _ rfl _).keep0 (((Chg.refl _ _).drew).drew)) (by simp; omega) ?_
  intro v6 w6 o6 m6
  obtain ⟨va6, vn6, vc6, rfl⟩ := o6.form3
  obtain ⟨ro6, M6, o6'⟩ : ∃ ro6, Mv (ro2 ro w.heap.size r) [] W ro6 w6 ∧ RdL cF ro6 (r + 5) w6 1 (.slice va6 vn6 vc6) (m.out ++ [y0]) := ⟨_, ((by repeat (first | with_reducible exact Mv.refl _ _ _ | refine Mv.alloc ?_ _ | refine Mv.drewN ?_ _ | refine Mv.drew ?_)) : Mv (ro2 ro w.heap.size r) [] W (ro2 ro w.heap.size r) _).trans m6, o6⟩
  have k6 := H1.out.blk.keep M6 (by simp)
  have hc6 := k6.cell
  have hf6 := k6.free
  have hlt6 := k6.lt
  have i6 := (HI.out.keep M6 (by simp)).cell
  have r6 := RX.out.keep M6 (by simp)
  have bc6 := r6.cell
  have bf6 := r6.free
  unfold dcells at hc6
  rw [EV.out] at hc6
  have HM6 := Lib.hid M6
  have HO6 := Lib.hid o6'
  have hs6 := HS0.out _ _ M6
  clear o6 m6 k6 r6 M6 o6'
  refine hK.out _ _ (.inr hs6) (fun hHx => ?_)
  have hHeld := hHx.resolve_left (by decide)
  clear hK K hHx
  clear hs6
  refine wpAnyT_one (i := 20) (by kernel_rfl) rfl (fun K hK => ?_)
  go_simp
  refine hK.out _ _ (.inr hHeld) (fun hHx => ?_)
  have hHeld := hHx.resolve_left (by decide)
  clear hK K hHx
  refine' wpAnyT_take (i := 21) (v := _) rfl (by kernel_rfl) (by kernel_rfl) (by kernel_rfl) (by kernel_rfl) (fun _ _ _ h => h) (Or.inl ⟨by rfl, ?hy21u78⟩) (by assumption) ?rest21u78
  case hy21u78 => (intro w hSw; (try dsimp only at hSw); go_simp; try with_reducible rfl)
  try simp only [Act.put, List.setIfInBounds_toArray, List.set_cons_zero, List.set_cons_succ]
  refine wpAnyT_one (i := 22) (by kernel_rfl) rfl (fun K hK => ?_)
  go_simp
  refine hK.out _ _ (.inl rfl) (fun _ => ?_)
  clear hK K hHeld
  refine wpAnyT_done (by kernel_rfl) ?_ _
  refine NoPanic.normal ?_
  go_wp2_with (go_at_call 140; refine (KW.out _ _ _ HM6.out HO6.out).mono ?_; rintro e w1 ⟨rfl, ro1, p1, h1, m1, r1⟩; have bc := r1.cell; have bf := r1.free)
  refine bodyPost_ret (v := .agg #[.int .i64 0, .int .i64 0, .float .f64 0, .bool false]) (by simp [results, Tryz.results116, go_sem, bc, bf]) rfl ?_
  have hR : ro1 (w.heap.size + 1) ∈ [r + 12] := by rw [r1.role]; simp
  have n0 := Nat.le_succ w.heap.size
  exact ⟨rfl, ro1, p1, h1.keep (((((Mv.refl _ _ _).setCell hR _).setCell hR _).setCell hR _).setCell hR _) (by simp), (((m1.setNew n0 _).setNew n0 _).setNew n0 _).setNew n0 _⟩
set_option maxRecDepth 100000 in
set_option maxHeartbeats 2000000 in
theorem ddo_15some {ro : Nat → Nat} {r : Nat} {w : World} {M C tag vc p} {m : Ms} (h : DM ro r w M C tag vc m.dm p) (hl : m.stack.length ≤ 64) (n : Int) (x : Nat) (b off c j : Nat) (pl : Int) (ev : p.vk = .slice (some ⟨b, off, none⟩) (j + 1) c) (hj : m.calls.length = j + 1) (hj16 : j + 1 ≤ 16) (hp : m.calls[j]? = some pl) :
    Calls Tryz.prog 116 #[ptr M, insV 15 n x] w (DoD ro r w M C tag vc ({ m with calls := m.calls.take j, place := pl }, askNone)) := by
  have H1 := Lib.hid (h.keep0 (box_mv ro r w 15 n x))
  have RX := Lib.hid (box_res ro r w 15 n x)
  have HI := Lib.hid (box_ins ro r w 15 n x)
  have M0 := Lib.hid (box_mv ro r w 15 n x)
  have EV := Lib.hid ev
  have hst : RdL cI (ro2 ro w.heap.size r) (r + 3) (boxW w 15 n x) 1 p.vk m.calls := H1.out.calls
  rw [ev] at hst
  have hx0 := hst.at1 (i := j) (by omega)
  have hpl : m.calls[j]'(by omega) = pl := by rw [List.getElem?_eq_getElem (by omega)] at hp; exact Option.some.inj hp
  rw [hpl] at hx0
  simp only [cI, List.getElem?_cons_zero] at hx0
  have hcut := hst.cut (n := j) (by omega)
  have hcc : j + 1 ≤ c := by
    rcases hst.form with ⟨h1, _⟩ | ⟨b1, off1, c1, hv, hc1, hb, hro⟩
    · cases h1
    · simp only [Value.slice.injEq] at hv
      obtain ⟨-, hv2, rfl⟩ := hv
      omega
  have HX0 := Lib.hid hx0
  have HCUT := Lib.hid hcut
  have wj := wrap_nat j (by omega)
  have cj : (j : Int) ≤ c := by omega
  have cj1 : (j : Int) < (j : Int) + 1 := by omega
  have hcw := h.blk.cell
  have hltw := h.blk.lt
  unfold dcells at hcw
  rw [ev] at hcw
  have K2 := Lib.hid (H1.out.put (d' := { m.dm with place := pl }) 11 (.int .i64 pl) rfl rfl rfl rfl rfl rfl rfl rfl)
  clear h ev hst hcut hx0 hp hpl hj
  unfold boxW at *
  have sf := run_store_float
  simp only [ptr, insV, Ask.v, askNone, askEnd, DoD] at *
  go_enter Tryz.func116, Tryz.ntmps116
  go_wp2
  clear hcw hltw
  generalize hW : (w.alloc (.cells #[.int .i64 15, .int .i64 n, .float .f64 x] 117)).alloc (.cells #[.int .i64 0, .int .i64 0, .float .f64 0, .bool false] 139) = W at *
  have hc := H1.out.blk.cell
  have hf := H1.out.blk.free
  have hlt := H1.out.blk.lt
  have hi := HI.out.cell
  unfold dcells at hc
  rw [EV.out] at hc
  clear hW
  have hx := HX0.out
  refine wp_region_noPanic ?_
  refine wp_region_T (S := fun W => W.cell? ⟨M, 9, none⟩ = some (.slice (some ⟨b, off, none⟩) (j + 1) c) ∧ W.cell? ⟨b, off + j, none⟩ = some (.int .i64 pl)) (last := 15) (by kernel_rfl) ⟨hc 9, hx⟩ (fun hHeld => ?_)
  refine' wpAnyT_take (i := 0) (v := _) rfl (by kernel_rfl) (by kernel_rfl) (by kernel_rfl) (by kernel_rfl) (fun _ _ _ h => h) (Or.inl ⟨by rfl, ?hy0u79⟩) (by assumption) ?rest0u79
  case hy0u79 => (intro w hSw; (try dsimp only at hSw); go_simp; try with_reducible rfl)
  try simp only [Act.put, List.setIfInBounds_toArray, List.set_cons_zero, List.set_cons_succ]
  refine' wpAnyT_take (i := 1) (v := _) rfl (by kernel_rfl) (by kernel_rfl) (by kernel_rfl) (by kernel_rfl) (fun _ _ _ h => h) (Or.inl ⟨by rfl, ?hy1u80⟩) (by assumption) ?rest1u80
  case hy1u80 => (intro w hSw; (try dsimp only at hSw); go_simp; try with_reducible rfl)
  try simp only [Act.put, List.setIfInBounds_toArray, List.set_cons_zero, List.set_cons_succ]
  refine' wpAnyT_take (i := 2) (v := _) rfl (by kernel_rfl) (by kernel_rfl) (by kernel_rfl) (by kernel_rfl) (fun _ _ _ h => h) (Or.inl ⟨by rfl, ?hy2u81⟩) (by assumption) ?rest2u81
  case hy2u81 => (intro w hSw; (try dsimp only at hSw); go_simp; try with_reducible rfl)
  try simp only [Act.put, List.setIfInBounds_toArray, List.set_cons_zero, List.set_cons_succ]
  refine' wpAnyT_take (i := 3) (v := _) rfl (by kernel_rfl) (by kernel_rfl) (by kernel_rfl) (by kernel_rfl) (fun _ _ _ h => h) (Or.inl ⟨by rfl, ?hy3u82⟩) (by assumption) ?rest3u82
  case hy3u82 => (intro w hSw; (try dsimp only at hSw); go_simp; try with_reducible rfl)
  try simp only [Act.put, List.setIfInBounds_toArray, List.set_cons_zero, List.set_cons_succ]
  refine' wpAnyT_take (i := 4) (v := _) rfl (by kernel_rfl) (by kernel_rfl) (by kernel_rfl) (by kernel_rfl) (fun _ _ _ h => h) (Or.inl ⟨by rfl, ?hy4u83⟩) (by assumption) ?rest4u83
  case hy4u83 => (intro w hSw; (try dsimp only at hSw); go_simp; try with_reducible rfl)
  try simp only [Act.put, List.setIfInBounds_toArray, List.set_cons_zero, List.set_cons_succ]
  refine' wpAnyT_take (i := 5) (v := _) rfl (by kernel_rfl) (by kernel_rfl) (by kernel_rfl) (by kernel_rfl) (fun _ _ _ h => h) (Or.inl ⟨by rfl, ?hy5u84⟩) (by assumption) ?rest5u84
  case hy5u84 => (intro w hSw; (try dsimp only at hSw); go_simp; try with_reducible rfl)
  try simp only [Act.put, List.setIfInBounds_toArray, List.set_cons_zero, List.set_cons_succ]
  refine' wpAnyT_take (i := 6) (v := _) rfl (by kernel_rfl) (by kernel_rfl) (by kernel_rfl) (by kernel_rfl) (fun _ _ _ h => h) (Or.inl ⟨by rfl, ?hy6u85⟩) (by assumption) ?rest6u85
  case hy6u85 => (intro w hSw; (try dsimp only at hSw); go_simp; try with_reducible rfl)
  try simp only [Act.put, List.setIfInBounds_toArray, List.set_cons_zero, List.set_cons_succ]
  refine' wpAnyT_take (i := 7) (v := _) rfl (by kernel_rfl) (by kernel_rfl) (by kernel_rfl) (by kernel_rfl) (fun _ _ _ h => h) (Or.inl ⟨by rfl, ?hy7u86⟩) (by assumption) ?rest7u86
  case hy7u86 => (intro w hSw; (try dsimp only at hSw); go_simp; try with_reducible rfl)
  try simp only [Act.put, List.setIfInBounds_toArray, List.set_cons_zero, List.set_cons_succ]
  refine' wpAnyT_take (i := 8) (v := _) rfl (by kernel_rfl) (by kernel_rfl) (by kernel_rfl) (by kernel_rfl) (fun _ _ _ h => h) (Or.inl ⟨by rfl, ?hy8u87⟩) (by assumption) ?rest8u87
  case hy8u87 => (intro w hSw; (try dsimp only at hSw); go_simp; try with_reducible rfl)
  try simp only [Act.put, List.setIfInBounds_toArray, List.set_cons_zero, List.set_cons_succ]
  refine' wpAnyT_take (i := 9) (v := _) rfl (by kernel_rfl) (by kernel_rfl) (by kernel_rfl) (by kernel_rfl) (fun _ _ _ h => h) (Or.inl ⟨by rfl, ?hy9u88⟩) (by assumption) ?rest9u88
  case hy9u88 => (intro w hSw; (try dsimp only at hSw); go_simp; try with_reducible rfl)
  try simp only [Act.put, List.setIfInBounds_toArray, List.set_cons_zero, List.set_cons_succ]
  refine' wpAnyT_take (i := 10) (v := _) rfl (by kernel_rfl) (by kernel_rfl) (by kernel_rfl) (by kernel_rfl) (fun _ _ _ h => h) (Or.inl ⟨by rfl, ?hy10u89⟩) (by assumption) ?rest10u89
  case hy10u89 => (intro w hSw; (try dsimp only at hSw); go_simp; try with_reducible rfl)
  try simp only [Act.put, List.setIfInBounds_toArray, List.set_cons_zero, List.set_cons_succ]
  refine' wpAnyT_take (i := 11) (v := _) rfl (by kernel_rfl) (by kernel_rfl) (by kernel_rfl) (by kernel_rfl) (fun _ _ _ h => h) (Or.inl ⟨by rfl, ?hy11u90⟩) (by assumption) ?rest11u90
  case hy11u90 => (intro w hSw; (try dsimp only at hSw); go_simp; try with_reducible rfl)
  try simp only [Act.put, List.setIfInBounds_toArray, List.set_cons_zero, List.set_cons_succ]
  refine' wpAnyT_take (i := 12) (v := _) rfl (by kernel_rfl) (by kernel_rfl) (by kernel_rfl) (by kernel_rfl) (fun _ _ _ h => h) (Or.inl ⟨by rfl, ?hy12u91⟩) (by assumption) ?rest12u91
  case hy12u91 => (intro w hSw; (try dsimp only at hSw); go_simp; try with_reducible rfl)
  try simp only [Act.put, List.setIfInBounds_toArray, List.set_cons_zero, List.set_cons_succ]
  refine wpAnyT_one (i := 13) (by kernel_rfl) rfl (fun K hK => ?_)
  go_simp
  refine hK.out _ _ (.inr hHeld) (fun hHx => ?_)
  have hHeld := hHx.resolve_left (by decide)
  clear hK K hHx
  refine' wpAnyT_take (i := 14) (v := _) rfl (by kernel_rfl) (by kernel_rfl) (by kernel_rfl) (by kernel_rfl) (fun _ _ _ h => h) (Or.inl ⟨by rfl, ?hy14u92⟩) (by assumption) ?rest14u92
  case hy14u92 => (intro w hSw; (try dsimp only at hSw); go_simp; try with_reducible rfl)
  try simp only [Act.put, List.setIfInBounds_toArray, List.set_cons_zero, List.set_cons_succ]
  refine wpAnyT_one (i := 15) (by kernel_rfl) rfl (fun K hK => ?_)
  go_simp
  refine hK.out _ _ (.inl rfl) (fun _ => ?_)
  clear hK K hHeld
  refine wpAnyT_done (by kernel_rfl) ?_ _
  refine NoPanic.normal ?_
  have hc2 := (K2.out.1.keep0 (Mv.refl _ [] _).drew).blk.cell
  unfold dcells at hc2
  rw [EV.out] at hc2
  go_wp2
  refine wp_region_noPanic ?_
  refine wp_region_T (S := fun W => W.cell? ⟨M, 9, none⟩ = some (.slice (some ⟨b, off, none⟩) (j + 1) c)) (last := 14) (by kernel_rfl) (hc2 9) (fun hHeld => ?_)
  refine' wpAnyT_take (i := 0) (v := _) rfl (by kernel_rfl) (by kernel_rfl) (by kernel_rfl) (by kernel_rfl) (fun _ _ _ h => h) (Or.inl ⟨by rfl, ?hy0u93⟩) (by assumption) ?rest0u93
  case hy0u93 => (intro w hSw; (try dsimp only at hSw); go_simp; try with_reducible rfl)
  try simp only [Act.put, List.setIfInBounds_toArray, List.set_cons_zero, List.set_cons_succ]
  refine' wpAnyT_take (i := 1) (v := _) rfl (by kernel_rfl) (by kernel_rfl) (by kernel_rfl) (by kernel_rfl) (fun _ _ _ h => h) (Or.inl ⟨by rfl, ?hy1u94⟩) (by assumption) ?rest1u94
  case hy1u94 => (intro w hSw; (try dsimp only at hSw); go_simp; try with_reducible rfl)
  try simp only [Act.put, List.setIfInBounds_toArray, List.set_cons_zero, List.set_cons_succ]
  refine' wpAnyT_take (i := 2) (v := _) rfl (by kernel_rfl) (by kernel_rfl) (by kernel_rfl) (by kernel_rfl) (fun _ _ _ h => h) (Or.inl ⟨by rfl, ?hy2u95⟩) (by assumption) ?rest2u95
  case hy2u95 => (intro w hSw; (try dsimp only at hSw); go_simp; try with_reducible rfl)
  try simp only [Act.put, List.setIfInBounds_toArray, List.set_cons_zero, List.set_cons_succ]
  refine' wpAnyT_take (i := 3) (v := _) rfl (by kernel_rfl) (by kernel_rfl) (by kernel_rfl) (by kernel_rfl) (fun _ _ _ h => h) (Or.inl ⟨by rfl, ?hy3u96⟩) (by assumption) ?rest3u96
  case hy3u96 => (intro w hSw; (try dsimp only at hSw); go_simp; try with_reducible rfl)
  try simp only [Act.put, List.setIfInBounds_toArray, List.set_cons_zero, List.set_cons_succ]
  refine' wpAnyT_take (i := 4) (v := _) rfl (by kernel_rfl) (by kernel_rfl) (by kernel_rfl) (by kernel_rfl) (fun _ _ _ h => h) (Or.inl ⟨by rfl, ?hy4u97⟩) (by assumption) ?rest4u97
  case hy4u97 => (intro w hSw; (try dsimp only at hSw); go_simp; try with_reducible rfl)
  try simp only [Act.put, List.setIfInBounds_toArray, List.set_cons_zero, List.set_cons_succ]
  refine' wpAnyT_take (i := 5) (v := _) rfl (by kernel_rfl) (by kernel_rfl) (by kernel_rfl) (by kernel_rfl) (fun _ _ _ h => h) (Or.inl ⟨by rfl, ?hy5u98⟩) (by assumption) ?rest5u98
  case hy5u98 => (intro w hSw; (try dsimp only at hSw); go_simp; try with_reducible rfl)
  try simp only [Act.put, List.setIfInBounds_toArray, List.set_cons_zero, List.set_cons_succ]
  refine' wpAnyT_take (i := 6) (v := _) rfl (by kernel_rfl) (by kernel_rfl) (by kernel_rfl) (by kernel_rfl) (fun _ _ _ h => h) (Or.inl ⟨by rfl, ?hy6u99⟩) (by assumption) ?rest6u99
  case hy6u99 => (intro w hSw; (try dsimp only at hSw); go_simp; try with_reducible rfl)
  try simp only [Act.put, List.setIfInBounds_toArray, List.set_cons_zero, List.set_cons_succ]
  refine' wpAnyT_take (i := 7) (v := _) rfl (by kernel_rfl) (by kernel_rfl) (by kernel_rfl) (by kernel_rfl) (fun _ _ _ h => h) (Or.inl ⟨by rfl, ?hy7u100⟩) (by assumption) ?rest7u100
  case hy7u100 => (intro w hSw; (try dsimp only at hSw); go_simp; try with_reducible rfl)
  try simp only [Act.put, List.setIfInBounds_toArray, List.set_cons_zero, List.set_cons_succ]
  refine' wpAnyT_take (i := 8) (v := _) rfl (by kernel_rfl) (by kernel_rfl) (by kernel_rfl) (by kernel_rfl) (fun _ _ _ h => h) (Or.inl ⟨by rfl, ?hy8u101⟩) (by assumption) ?rest8u101
  case hy8u101 => (intro w hSw; (try dsimp only at hSw); go_simp; try with_reducible rfl)
  try simp only [Act.put, List.setIfInBounds_toArray, List.set_cons_zero, List.set_cons_succ]
  refine' wpAnyT_take (i := 9) (v := _) rfl (by kernel_rfl) (by kernel_rfl) (by kernel_rfl) (by kernel_rfl) (fun _ _ _ h => h) (Or.inl ⟨by rfl, ?hy9u102⟩) (by assumption) ?rest9u102
  case hy9u102 => (intro w hSw; (try dsimp only at hSw); go_simp; try with_reducible rfl)
  try simp only [Act.put, List.setIfInBounds_toArray, List.set_cons_zero, List.set_cons_succ]
  refine' wpAnyT_take (i := 10) (v := _) rfl (by kernel_rfl) (by kernel_rfl) (by kernel_rfl) (by kernel_rfl) (fun _ _ _ h => h) (Or.inl ⟨by rfl, ?hy10u103⟩) (by assumption) ?rest10u103
  case hy10u103 => (intro w hSw; (try dsimp only at hSw); go_simp; try with_reducible rfl)
  try simp only [Act.put, List.setIfInBounds_toArray, List.set_cons_zero, List.set_cons_succ]
  refine' wpAnyT_take (i := 11) (v := _) rfl (by kernel_rfl) (by kernel_rfl) (by kernel_rfl) (by kernel_rfl) (fun _ _ _ h => h) (Or.inl ⟨by rfl, ?hy11u104⟩) (by assumption) ?rest11u104
  case hy11u104 => (intro w hSw; (try dsimp only at hSw); go_simp; try with_reducible rfl)
  try simp only [Act.put, List.setIfInBounds_toArray, List.set_cons_zero, List.set_cons_succ]
  refine wpAnyT_one (i := 12) (by kernel_rfl) rfl (fun K hK => ?_)
  go_simp
  refine hK.out _ _ (.inr hHeld) (fun hHx => ?_)
  have hHeld := hHx.resolve_left (by decide)
  clear hK K hHx
  refine' wpAnyT_take (i := 13) (v := _) rfl (by kernel_rfl) (by kernel_rfl) (by kernel_rfl) (by kernel_rfl) (fun _ _ _ h => h) (Or.inl ⟨by rfl, ?hy13u105⟩) (by assumption) ?rest13u105
  case hy13u105 => (intro w hSw; (try dsimp only at hSw); go_simp; try with_reducible rfl)
  try simp only [Act.put, List.setIfInBounds_toArray, List.set_cons_zero, List.set_cons_succ]
  refine wpAnyT_one (i := 14) (by kernel_rfl) rfl (fun K hK => ?_)
  go_simp
  refine hK.out _ _ (.inl rfl) (fun _ => ?_)
  clear hK K hHeld
  refine wpAnyT_done (by kernel_rfl) ?_ _
  refine NoPanic.normal ?_
  have hne : w.heap.size + 1 ≠ M := fun e => by have e1 := RX.out.role; have e2 := H1.out.blk.role; rw [e, e2] at e1; omega
  obtain ⟨k1, b1⟩ := K2.out
  obtain ⟨h1, b2⟩ := k1.putK (Mv.refl _ _ _) (HCUT.out.keep b1 (by simp))
  have mv := ((b1.mono (R' := [r, r + 4]) (by simp)).trans b2).drew.drew
  have h1 := h1.keep0 (Mv.refl (ro2 ro w.heap.size r) [] _).drew.drew
  have m1 := dR_mv M0.out mv
  have r1 := RX.out.keep mv (by simp)
  clear K2 k1 b1 b2 mv HCUT hc hc2 hf hx HX0
  generalize ((W.setCell ⟨M, 11, none⟩ (.int .i64 pl)).setCell ⟨M, 9, none⟩ (.slice (some ⟨b, off, none⟩) j c)).drew.drew = W3 at *
  have bc6 := r1.cell
  have bf6 := r1.free
  have HH1 := Lib.hid h1
  have HM1 := Lib.hid m1
  have HR1 := Lib.hid r1
  clear h1 m1 r1
  go_wp2
  refine bodyPost_ret (v := .agg #[.int .i64 0, .int .i64 0, .float .f64 0, .bool false]) (by simp [results, Tryz.results116, go_sem, bc6, bf6]) rfl ?_
  have h1 := HH1.out
  have m1 := HM1.out
  have r1 := HR1.out
  have hR : (ro2 ro w.heap.size r) (w.heap.size + 1) ∈ [r + 12] := by rw [r1.role]; simp
  have n0 := Nat.le_succ w.heap.size
  exact ⟨rfl, (ro2 ro w.heap.size r), _, h1.keep (((((Mv.refl _ _ _).setCell hR _).setCell hR _).setCell hR _).setCell hR _) (by simp), (((m1.setNew n0 _).setNew n0 _).setNew n0 _).setNew n0 _⟩
end Go.Proofs.YtphaeodcomgffaaGreat
