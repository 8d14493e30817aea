import Derived.Test.YtphaeodcomgffaaGreatDV
import Derived.Test.YtphaeodcomgffaaGreatDU
import Derived.Test.YtphaeodcomgffaaGreatDX
import Derived.Test.YtphaeodcomgffaaGreatQF
import Derived.Test.YtphaeodcomgffaaGreatQC
set_option linter.unusedVariables false
set_option linter.unusedSimpArgs false
namespace Go.Proofs.YtphaeodcomgffaaGreat
open Go.RowKit

/-! The document's machine: a step. -/
theorem ends_fails (m : Ms) (e : Int) : (m.fails e).2 = askEnd := rfl
set_option maxRecDepth 100000 in
set_option maxHeartbeats 4000000 in
theorem dstep_bad {ro : Nat → Nat} {r : Nat} {w : World} {M C tag vc p} {m : Ms} (h : DM ro r w M C tag vc m.dm p) (hl : m.stack.length ≤ 64) (hw : m.wait = none) (hh : m.how = 0) (hb : m.bad = true) :
    Calls Tryz.prog 75 #[ptr M] w (DUp ro r w M C tag vc (m.fails 50).1.dm askEnd.v) := by
  have H1 := Lib.hid (h.keep0 (ans_mv ro r w))
  have R1 := Lib.hid (ans_blk ro r w)
  have M0 := Lib.hid (ans_mv ro r w)
  have hwt : m.dm.wait = -1 := by show m.wait.getD (-1) = -1; rw [hw]; rfl
  have hho : m.dm.how = 0 := hh
  have hcw := h.blk.cell
  have hltw := h.blk.lt
  unfold dcells at hcw
  rw [hwt, hho] at hcw
  have hb' : m.dm.bad = true := hb
  rw [hb'] at hcw
  have FW := Lib.hid (show ∀ W, Mv (setRo ro w.heap.size (r + 12)) [] (ansW w) (setRo ro w.heap.size (r + 12)) W → Calls Tryz.prog 114 #[ptr M, .int .i64 50] W (AnP ro r w M C tag vc (m.fails 50).1.dm askEnd.v) from fun W mv => dfails_an (mv.mono (by simp)) (H1.out.keep0 mv) 50)
  clear h hwt hho hh hb hb'
  have sf := run_store_float
  simp only [ptr, askEnd, askNone, Ask.v] at *
  unfold ansW at *
  go_enter Tryz.func75, Tryz.ntmps75
  go_wp2_with ((go_at_call 114; refine (FW.out _ (by repeat (first | with_reducible exact Mv.refl _ _ _ | refine Mv.alloc ?_ _ | refine Mv.drewN ?_ _ | refine Mv.drew ?_))).mono ?_; rintro e w1 ⟨rfl, ro1, p1, h1, m1, r1⟩; have bc := r1.cell; have bf := r1.free))
  refine bodyPost_ret (v := .agg #[.int .i64 4, .int .i64 0, .float .f64 0, .bool false]) (by simp [results, Tryz.results75, go_sem, bc, bf]) rfl ?_
  have hR : ro1 w.heap.size ∈ [r + 12] := by rw [r1.role]; simp
  have n0 := Nat.le_refl w.heap.size
  exact ⟨rfl, ro1, _, h1.keep (((((Mv.refl _ _ _).setCell hR _).setCell hR _).setCell hR _).setCell hR _) (by simp), (((m1.setNew n0 _).setNew n0 _).setNew n0 _).setNew n0 _⟩
set_option maxRecDepth 100000 in
set_option maxHeartbeats 4000000 in
theorem dstep_fuel {ro : Nat → Nat} {r : Nat} {w : World} {M C tag vc p} {m : Ms} (h : DM ro r w M C tag vc m.dm p) (hl : m.stack.length ≤ 64) (hw : m.wait = none) (hh : m.how = 0) (hb : m.bad = false) (hu : m.used = C.fuel) :
    Calls Tryz.prog 75 #[ptr M] w (DUp ro r w M C tag vc (m.fails 80).1.dm askEnd.v) := by
  have H1 := Lib.hid (h.keep0 (ans_mv ro r w))
  have R1 := Lib.hid (ans_blk ro r w)
  have M0 := Lib.hid (ans_mv ro r w)
  have hwt : m.dm.wait = -1 := by show m.wait.getD (-1) = -1; rw [hw]; rfl
  have hho : m.dm.how = 0 := hh
  have hcw := h.blk.cell
  have hltw := h.blk.lt
  unfold dcells at hcw
  rw [hwt, hho] at hcw
  have hb' : m.dm.bad = false := hb
  rw [hb'] at hcw
  have hu' : m.dm.used = C.fuel := hu
  rw [hu'] at hcw
  have FW := Lib.hid (show ∀ W, Mv (setRo ro w.heap.size (r + 12)) [] (ansW w) (setRo ro w.heap.size (r + 12)) W → Calls Tryz.prog 114 #[ptr M, .int .i64 80] W (AnP ro r w M C tag vc (m.fails 80).1.dm askEnd.v) from fun W mv => dfails_an (mv.mono (by simp)) (H1.out.keep0 mv) 80)
  clear h hwt hho hh hb hb' hu hu'
  have sf := run_store_float
  simp only [ptr, askEnd, askNone, Ask.v] at *
  unfold ansW at *
  go_enter Tryz.func75, Tryz.ntmps75
  go_wp2
  go_quiet (fail)
  go_wp2_with ((go_at_call 114; refine (FW.out _ (by repeat (first | with_reducible exact Mv.refl _ _ _ | refine Mv.alloc ?_ _ | refine Mv.drewN ?_ _ | refine Mv.drew ?_))).mono ?_; rintro e w1 ⟨rfl, ro1, p1, h1, m1, r1⟩; have bc := r1.cell; have bf := r1.free))
  refine bodyPost_ret (v := .agg #[.int .i64 4, .int .i64 0, .float .f64 0, .bool false]) (by simp [results, Tryz.results75, go_sem, bc, bf]) rfl ?_
  have hR : ro1 w.heap.size ∈ [r + 12] := by rw [r1.role]; simp
  have n0 := Nat.le_refl w.heap.size
  exact ⟨rfl, ro1, _, h1.keep (((((Mv.refl _ _ _).setCell hR _).setCell hR _).setCell hR _).setCell hR _) (by simp), (((m1.setNew n0 _).setNew n0 _).setNew n0 _).setNew n0 _⟩
set_option maxRecDepth 100000 in
set_option maxHeartbeats 4000000 in
theorem dstep_out {ro : Nat → Nat} {r : Nat} {w : World} {M C tag vc p} {m : Ms} (h : DM ro r w M C tag vc m.dm p) (hl : m.stack.length ≤ 64) (hw : m.wait = none) (hh : m.how = 0) (hb : m.bad = false) (hu : m.used ≠ C.fuel) (code : List Ins) (hcode : RdC w vc code) (hp : m.place = code.length) :
    Calls Tryz.prog 75 #[ptr M] w (DUp ro r w M C tag vc (m.fails 50).1.dm askEnd.v) := by
  obtain ⟨va0, vc0, rfl⟩ := hcode.slice
  have H1 := Lib.hid (h.keep0 (ans_mv ro r w))
  have R1 := Lib.hid (ans_blk ro r w)
  have M0 := Lib.hid (ans_mv ro r w)
  have hwt : m.dm.wait = -1 := by show m.wait.getD (-1) = -1; rw [hw]; rfl
  have hho : m.dm.how = 0 := hh
  have hcw := h.blk.cell
  have hltw := h.blk.lt
  unfold dcells at hcw
  rw [hwt, hho] at hcw
  have hb' : m.dm.bad = false := hb
  rw [hb'] at hcw
  have hu' : ¬ m.dm.used = C.fuel := hu
  have hp' : m.dm.place = code.length := hp
  rw [hp'] at hcw
  have FW := Lib.hid (show ∀ W, Mv (setRo ro w.heap.size (r + 12)) [] (ansW w) (setRo ro w.heap.size (r + 12)) W → Calls Tryz.prog 114 #[ptr M, .int .i64 50] W (AnP ro r w M C tag (.slice va0 code.length vc0) (m.fails 50).1.dm askEnd.v) from fun W mv => dfails_an (mv.mono (by simp)) (H1.out.keep0 mv) 50)
  clear h hwt hho hh hb hb' hu hp hp' hcode
  have sf := run_store_float
  simp only [ptr, askEnd, askNone, Ask.v] at *
  unfold ansW at *
  go_enter Tryz.func75, Tryz.ntmps75
  go_wp2
  go_quiet (fail)
  go_wp2
  go_quiet (fail)
  go_wp2_with ((go_at_call 114; refine (FW.out _ (by repeat (first | with_reducible exact Mv.refl _ _ _ | refine Mv.alloc ?_ _ | refine Mv.drewN ?_ _ | refine Mv.drew ?_))).mono ?_; rintro e w1 ⟨rfl, ro1, p1, h1, m1, r1⟩; have bc := r1.cell; have bf := r1.free))
  refine bodyPost_ret (v := .agg #[.int .i64 4, .int .i64 0, .float .f64 0, .bool false]) (by simp [results, Tryz.results75, go_sem, bc, bf]) rfl ?_
  have hR : ro1 w.heap.size ∈ [r + 12] := by rw [r1.role]; simp
  have n0 := Nat.le_refl w.heap.size
  exact ⟨rfl, ro1, _, h1.keep (((((Mv.refl _ _ _).setCell hR _).setCell hR _).setCell hR _).setCell hR _) (by simp), (((m1.setNew n0 _).setNew n0 _).setNew n0 _).setNew n0 _⟩
set_option maxRecDepth 100000 in
set_option maxHeartbeats 4000000 in
theorem dstep_noroom {ro : Nat → Nat} {r : Nat} {w : World} {M C tag vc p} {m : Ms} (h : DM ro r w M C tag vc m.dm p) (hl : m.stack.length ≤ 64) (hw : m.wait = none) (hh : m.how = 0) (hb : m.bad = false) (hu : m.used ≠ C.fuel) (hu0 : 0 ≤ m.used ∧ m.used ≤ 1000000) (hcl16 : m.calls.length ≤ 16) (code : List Ins) (hcode : RdC w vc code) (hcl : code.length ≤ 1000000) (k : Nat) (hp : m.place = k) (x : Ins) (hx : code[k]? = some x) (hn5 : x.op = 5 → -1000 ≤ x.n ∧ x.n ≤ 1000) (hrm : m.begin.room x = false) :
    Calls Tryz.prog 75 #[ptr M] w (DUp ro r w M C tag vc (m.begin.fails 82).1.dm askEnd.v) := by
  obtain ⟨xo, xn, xx⟩ := x
  have hk : k < code.length := by rcases Nat.lt_or_ge k code.length with h1 | h1; exact h1; rw [List.getElem?_eq_none h1] at hx; cases hx
  have hk' : (k : Int) < code.length := by omega
  have hkn : ¬ (code.length : Int) ≤ k := by omega
  obtain ⟨b, off, cc, rfl, hb0, hcell⟩ := Rd.blk hcode (by simp; omega)
  rw [List.length_map] at hcode hcell h ⊢
  have z0 := hcell k 0 hk (by decide)
  have z1 := hcell k 1 hk (by decide)
  have z2 := hcell k 2 hk (by decide)
  have hck : code[k] = ⟨xo, xn, xx⟩ := by rw [List.getElem?_eq_getElem hk] at hx; exact Option.some.inj hx
  simp only [List.getD, List.getElem?_map, List.getElem?_eq_getElem hk, Option.map_some, Option.getD_some, hck, Ins.row, List.getElem?_cons_zero, List.getElem?_cons_succ, Nat.add_zero] at z0 z1 z2
  have H1 := Lib.hid (h.keep0 (ans_mv ro r w))
  have R1 := Lib.hid (ans_blk ro r w)
  have M0 := Lib.hid (ans_mv ro r w)
  have hwt : m.dm.wait = -1 := by show m.wait.getD (-1) = -1; rw [hw]; rfl
  have hho : m.dm.how = 0 := hh
  have hcw := h.blk.cell
  have hltw := h.blk.lt
  unfold dcells at hcw
  rw [hwt, hho] at hcw
  have hb' : m.dm.bad = false := hb
  rw [hb'] at hcw
  have hu' : ¬ m.dm.used = C.fuel := hu
  have hp' : m.dm.place = k := hp
  rw [hp'] at hcw
  have HS0 := Lib.hid (show ∀ ro' W', Mv (setRo ro w.heap.size (r + 12)) [] (ansW w) ro' W' → (fun W' => W'.cell? ⟨M, 5, none⟩ = some (.slice (some ⟨b, off, none⟩) code.length cc) ∧ W'.cell? ⟨M, 11, none⟩ = some (.int .i64 k) ∧ W'.cell? ⟨b, off + k * 3, none⟩ = some (.int .i64 xo) ∧ W'.cell? ⟨b, off + k * 3 + 1, none⟩ = some (.int .i64 xn) ∧ W'.cell? ⟨b, off + k * 3 + 2, none⟩ = some (.float .f64 xx)) W' from fun ro' W' mv => by
    have k1 := (H1.out.blk.keep mv (by simp)).cell
    have kb := fun o => World.cell?_of_block (w := w) (w' := W') (a := ⟨b, o, none⟩) ((M0.out.trans mv).block b hb0 (by simp))
    exact ⟨(k1 5).trans rfl, (k1 11).trans (congrArg (fun z => some (Value.int .i64 z)) hp'), (kb _).trans z0, (kb _).trans z1, (kb _).trans z2⟩)
  have FW := Lib.hid (show ∀ ro0 W' p', Mv (setRo ro w.heap.size (r + 12)) [r, r + 4] (ansW w) ro0 W' → DM ro0 r W' M C tag (.slice (some ⟨b, off, none⟩) code.length cc) m.begin.dm p' → Calls Tryz.prog 114 #[ptr M, .int .i64 82] W' (AnP ro r w M C tag (.slice (some ⟨b, off, none⟩) code.length cc) (m.begin.fails 82).1.dm askEnd.v) from fun ro0 W' p' mv hd => dfails_an mv hd 82)
  have hu1 : 0 ≤ m.dm.used := hu0.1
  have hu2 : m.dm.used ≤ 1000000 := hu0.2
  have hp1 : 0 ≤ m.dm.place := by rw [hp']; omega
  have hp2 : m.dm.place ≤ 1000000 := by rw [hp']; omega
  clear h hwt hho hh hb hb' hu hp hp' hcode hcell z0 z1 z2 hx hck hw hu0
  have sf := run_store_float
  simp only [ptr, askEnd, askNone, Ask.v] at *
  unfold ansW at *
  go_enter Tryz.func75, Tryz.ntmps75
  go_wp2
  go_quiet (fail)
  rename Nat => nqa
  go_wp2
  go_quiet (fail)
  rename Nat => nqb
  go_wp2
  generalize hW : w.alloc (.cells #[.int .i64 0, .int .i64 0, .float .f64 0, .bool false] 139) = W at *
  clear hW
  have MQ := Lib.hid (show Mv (setRo ro w.heap.size (r + 12)) [] W (setRo ro w.heap.size (r + 12)) ((W.drewN nqa).drewN nqb) from ((Mv.refl _ _ _).drewN _).drewN _)
  generalize hWq : (W.drewN nqa).drewN nqb = W1 at *
  clear hWq
  refine wp_region_noPanic ?_
  refine wp_region_T (S := fun W' => W'.cell? ⟨M, 5, none⟩ = some (.slice (some ⟨b, off, none⟩) code.length cc) ∧ W'.cell? ⟨M, 11, none⟩ = some (.int .i64 k) ∧ W'.cell? ⟨b, off + k * 3, none⟩ = some (.int .i64 xo) ∧ W'.cell? ⟨b, off + k * 3 + 1, none⟩ = some (.int .i64 xn) ∧ W'.cell? ⟨b, off + k * 3 + 2, none⟩ = some (.float .f64 xx)) (last := 12) (by kernel_rfl) (HS0.out (setRo ro w.heap.size (r + 12)) _ MQ.out.drew) (fun hHeld => ?_)
  refine' wpAnyT_take (i := 0) (v := _) rfl (by kernel_rfl) (by kernel_rfl) (by kernel_rfl) (by kernel_rfl) (fun _ _ _ h => h) (Or.inl ⟨by rfl, ?hy0u192⟩) (by assumption) ?rest0u192
  case hy0u192 => (intro w hSw; (try dsimp only at hSw); go_simp; try with_reducible rfl)
  try simp only [Act.put, List.setIfInBounds_toArray, List.set_cons_zero, List.set_cons_succ]
  refine' wpAnyT_take (i := 1) (v := _) rfl (by kernel_rfl) (by kernel_rfl) (by kernel_rfl) (by kernel_rfl) (fun _ _ _ h => h) (Or.inl ⟨by rfl, ?hy1u193⟩) (by assumption) ?rest1u193
  case hy1u193 => (intro w hSw; (try dsimp only at hSw); go_simp; try with_reducible rfl)
  try simp only [Act.put, List.setIfInBounds_toArray, List.set_cons_zero, List.set_cons_succ]
  refine' wpAnyT_take (i := 2) (v := _) rfl (by kernel_rfl) (by kernel_rfl) (by kernel_rfl) (by kernel_rfl) (fun _ _ _ h => h) (Or.inl ⟨by rfl, ?hy2u194⟩) (by assumption) ?rest2u194
  case hy2u194 => (intro w hSw; (try dsimp only at hSw); go_simp; try with_reducible rfl)
  try simp only [Act.put, List.setIfInBounds_toArray, List.set_cons_zero, List.set_cons_succ]
  refine' wpAnyT_take (i := 3) (v := _) rfl (by kernel_rfl) (by kernel_rfl) (by kernel_rfl) (by kernel_rfl) (fun _ _ _ h => h) (Or.inl ⟨by rfl, ?hy3u195⟩) (by assumption) ?rest3u195
  case hy3u195 => (intro w hSw; (try dsimp only at hSw); go_simp; try with_reducible rfl)
  try simp only [Act.put, List.setIfInBounds_toArray, List.set_cons_zero, List.set_cons_succ]
  refine' wpAnyT_take (i := 4) (v := _) rfl (by kernel_rfl) (by kernel_rfl) (by kernel_rfl) (by kernel_rfl) (fun _ _ _ h => h) (Or.inl ⟨by rfl, ?hy4u196⟩) (by assumption) ?rest4u196
  case hy4u196 => (intro w hSw; (try dsimp only at hSw); go_simp; try with_reducible rfl)
  try simp only [Act.put, List.setIfInBounds_toArray, List.set_cons_zero, List.set_cons_succ]
  refine' wpAnyT_take (i := 5) (v := _) rfl (by kernel_rfl) (by kernel_rfl) (by kernel_rfl) (by kernel_rfl) (fun _ _ _ h => h) (Or.inl ⟨by rfl, ?hy5u197⟩) (by assumption) ?rest5u197
  case hy5u197 => (intro w hSw; (try dsimp only at hSw); go_simp; try with_reducible rfl)
  try simp only [Act.put, List.setIfInBounds_toArray, List.set_cons_zero, List.set_cons_succ]
  refine' wpAnyT_take (i := 6) (v := _) rfl (by kernel_rfl) (by kernel_rfl) (by kernel_rfl) (by kernel_rfl) (fun _ _ _ h => h) (Or.inl ⟨by rfl, ?hy6u198⟩) (by assumption) ?rest6u198
  case hy6u198 => (intro w hSw; (try dsimp only at hSw); go_simp; try with_reducible rfl)
  try simp only [Act.put, List.setIfInBounds_toArray, List.set_cons_zero, List.set_cons_succ]
  refine' wpAnyT_take (i := 7) (v := _) rfl (by kernel_rfl) (by kernel_rfl) (by kernel_rfl) (by kernel_rfl) (fun _ _ _ h => h) (Or.inl ⟨by rfl, ?hy7u199⟩) (by assumption) ?rest7u199
  case hy7u199 => (intro w hSw; (try dsimp only at hSw); go_simp; try with_reducible rfl)
  try simp only [Act.put, List.setIfInBounds_toArray, List.set_cons_zero, List.set_cons_succ]
  refine' wpAnyT_take (i := 8) (v := _) rfl (by kernel_rfl) (by kernel_rfl) (by kernel_rfl) (by kernel_rfl) (fun _ _ _ h => h) (Or.inl ⟨by rfl, ?hy8u200⟩) (by assumption) ?rest8u200
  case hy8u200 => (intro w hSw; (try dsimp only at hSw); go_simp; try with_reducible rfl)
  try simp only [Act.put, List.setIfInBounds_toArray, List.set_cons_zero, List.set_cons_succ]
  refine' wpAnyT_take (i := 9) (v := _) rfl (by kernel_rfl) (by kernel_rfl) (by kernel_rfl) (by kernel_rfl) (fun _ _ _ h => h) (Or.inl ⟨by rfl, ?hy9u201⟩) (by assumption) ?rest9u201
  case hy9u201 => (intro w hSw; (try dsimp only at hSw); go_simp; try with_reducible rfl)
  try simp only [Act.put, List.setIfInBounds_toArray, List.set_cons_zero, List.set_cons_succ]
  refine' wpAnyT_take (i := 10) (v := _) rfl (by kernel_rfl) (by kernel_rfl) (by kernel_rfl) (by kernel_rfl) (fun _ _ _ h => h) (Or.inl ⟨by rfl, ?hy10u202⟩) (by assumption) ?rest10u202
  case hy10u202 => (intro w hSw; (try dsimp only at hSw); go_simp; try with_reducible rfl)
  try simp only [Act.put, List.setIfInBounds_toArray, List.set_cons_zero, List.set_cons_succ]
  refine wpAnyT_one (i := 11) (by kernel_rfl) rfl (fun K hK => ?_)
  go_simp
  refine hK.out _ _ (.inr (HS0.out (setRo ro w.heap.size (r + 12)) _ (MQ.out.drew.alloc _))) (fun hHx => ?_)
  have hHeld := hHx.resolve_left (by decide)
  clear hK K hHx
  refine wpAnyT_one (i := 12) (by kernel_rfl) rfl (fun K hK => ?_)
  go_simp
  refine hK.out _ _ (.inl rfl) (fun _ => ?_)
  clear hK K hHeld
  refine wpAnyT_done (by kernel_rfl) ?_ _
  refine NoPanic.normal ?_
  have ME : Mv (setRo ro w.heap.size (r + 12)) [] W (setRo (setRo ro w.heap.size (r + 12)) W1.heap.size (r + 11)) (W1.alloc (.cells #[.int .i64 xo, .int .i64 xn, .float .f64 xx] 117)).drew := ((MQ.out.alloc _).give MQ.out.size).drew
  have HE := H1.out.keep0 ME
  have RE := R1.out.keep ME (by simp)
  have IE : Blk (setRo (setRo ro w.heap.size (r + 12)) W1.heap.size (r + 11)) (r + 11) (W1.alloc (.cells #[.int .i64 xo, .int .i64 xn, .float .f64 xx] 117)).drew W1.heap.size #[.int .i64 xo, .int .i64 xn, .float .f64 xx] 117 := ⟨heap_alloc_new _ _, setRo_at _ _ _⟩
  clear hcw hltw
  generalize (W1.alloc (.cells #[.int .i64 xo, .int .i64 xn, .float .f64 xx] 117)).drew = E at *
  generalize setRo (setRo ro w.heap.size (r + 12)) W1.heap.size (r + 11) = roE at *
  generalize W1.heap.size = IB at *
  have hcE := HE.blk.cell
  have hfE := HE.blk.free
  have hlE := HE.blk.lt
  have icE := IE.cell
  have hneI : IB ≠ M := IE.ne HE.blk (by omega)
  have hneI' := hneI.symm
  unfold dcells at hcE
  obtain ⟨k1, b1⟩ := HE.put (d' := { m.dm with used := m.dm.used + 1 }) 12 (.int .i64 (m.dm.used + 1)) rfl rfl rfl rfl rfl rfl rfl rfl
  obtain ⟨k2, b2⟩ := k1.put (d' := m.begin.dm) 11 (.int .i64 (m.dm.place + 1)) rfl rfl rfl rfl rfl rfl rfl rfl
  have RW := Lib.hid (droom_walk k2 ⟨xo, xn, xx⟩ hl hcl16 ⟨(eff_bd xo).1, by have := (eff_bd xo).2.1; show effT xo ≤ 10; omega⟩ ⟨(eff_bd xo).2.2.1, by have := (eff_bd xo).2.2.2; show effL xo ≤ 10; omega⟩ hn5)
  have HK2 := Lib.hid k2
  have IK2 := Lib.hid ((IE.keep b1 (by simp)).keep b2 (by simp))
  have MK2 := Lib.hid (show Mv (setRo ro w.heap.size (r + 12)) [r, r + 4] W roE _ from ((ME.mono (by simp)).trans (b1.mono (by simp))).trans (b2.mono (by simp)))
  clear k1 k2 b1 b2 HE RE IE ME HS0 H1 R1 MQ
  simp only [hrm, insV] at RW
  go_wp2_with (first | (go_at_call 115; refine RW.out.mono ?_; rintro e w3 ⟨rfl, b3⟩; have M3 := Lib.hid (Mv.then_below MK2.out b3); have H3 := Lib.hid (HK2.out.keep0 (Mv.of_below b3)); have i3 := (IK2.out.keep (Mv.of_below (R := []) b3) (by simp)).cell; clear b3) | (go_at_call 114; refine (FW.out _ _ _ M3.out H3.out).mono ?_; rintro e w1 ⟨rfl, ro1, p1, h1, m1, r1⟩; have bc := r1.cell; have bf := r1.free))
  refine bodyPost_ret (v := .agg #[.int .i64 4, .int .i64 0, .float .f64 0, .bool false]) (by simp [results, Tryz.results75, go_sem, bc, bf]) rfl ?_
  have hR : ro1 w.heap.size ∈ [r + 12] := by rw [r1.role]; simp
  have n0 := Nat.le_refl w.heap.size
  exact ⟨rfl, ro1, _, h1.keep (((((Mv.refl _ _ _).setCell hR _).setCell hR _).setCell hR _).setCell hR _) (by simp), (((m1.setNew n0 _).setNew n0 _).setNew n0 _).setNew n0 _⟩
set_option maxRecDepth 100000 in
set_option maxHeartbeats 4000000 in
theorem dstep_do {ro : Nat → Nat} {r : Nat} {w : World} {M C tag vc p} {m : Ms} (h : DM ro r w M C tag vc m.dm p) (hl : m.stack.length ≤ 64) (hw : m.wait = none) (hh : m.how = 0) (hb : m.bad = false) (hu : m.used ≠ C.fuel) (hu0 : 0 ≤ m.used ∧ m.used ≤ 1000000) (hcl16 : m.calls.length ≤ 16) (code : List Ins) (hcode : RdC w vc code) (hcl : code.length ≤ 1000000) (k : Nat) (hp : m.place = k) (x : Ins) (hx : code[k]? = some x) (hn5 : x.op = 5 → -1000 ≤ x.n ∧ x.n ≤ 1000) (hrm : m.begin.room x = true) (q : Ms × Ask) (DOW : ∀ ro0 W' p', DM ro0 r W' M C tag vc m.begin.dm p' → Calls Tryz.prog 116 #[ptr M, insV x.op x.n x.x] W' (DUp ro0 r W' M C tag vc q.1.dm q.2.v)) :
    Calls Tryz.prog 75 #[ptr M] w (DUp ro r w M C tag vc q.1.dm q.2.v) := by
  obtain ⟨m', a1, a2, a3, a4⟩ := q
  obtain ⟨xo, xn, xx⟩ := x
  have hk : k < code.length := by rcases Nat.lt_or_ge k code.length with h1 | h1; exact h1; rw [List.getElem?_eq_none h1] at hx; cases hx
  have hk' : (k : Int) < code.length := by omega
  have hkn : ¬ (code.length : Int) ≤ k := by omega
  obtain ⟨b, off, cc, rfl, hb0, hcell⟩ := Rd.blk hcode (by simp; omega)
  rw [List.length_map] at hcode hcell h DOW ⊢
  have z0 := hcell k 0 hk (by decide)
  have z1 := hcell k 1 hk (by decide)
  have z2 := hcell k 2 hk (by decide)
  have hck : code[k] = ⟨xo, xn, xx⟩ := by rw [List.getElem?_eq_getElem hk] at hx; exact Option.some.inj hx
  simp only [List.getD, List.getElem?_map, List.getElem?_eq_getElem hk, Option.map_some, Option.getD_some, hck, Ins.row, List.getElem?_cons_zero, List.getElem?_cons_succ, Nat.add_zero] at z0 z1 z2
  have H1 := Lib.hid (h.keep0 (ans_mv ro r w))
  have R1 := Lib.hid (ans_blk ro r w)
  have M0 := Lib.hid (ans_mv ro r w)
  have hwt : m.dm.wait = -1 := by show m.wait.getD (-1) = -1; rw [hw]; rfl
  have hho : m.dm.how = 0 := hh
  have hcw := h.blk.cell
  have hltw := h.blk.lt
  unfold dcells at hcw
  rw [hwt, hho] at hcw
  have hb' : m.dm.bad = false := hb
  rw [hb'] at hcw
  have hu' : ¬ m.dm.used = C.fuel := hu
  have hp' : m.dm.place = k := hp
  rw [hp'] at hcw
  have HS0 := Lib.hid (show ∀ ro' W', Mv (setRo ro w.heap.size (r + 12)) [] (ansW w) ro' W' → (fun W' => W'.cell? ⟨M, 5, none⟩ = some (.slice (some ⟨b, off, none⟩) code.length cc) ∧ W'.cell? ⟨M, 11, none⟩ = some (.int .i64 k) ∧ W'.cell? ⟨b, off + k * 3, none⟩ = some (.int .i64 xo) ∧ W'.cell? ⟨b, off + k * 3 + 1, none⟩ = some (.int .i64 xn) ∧ W'.cell? ⟨b, off + k * 3 + 2, none⟩ = some (.float .f64 xx)) W' from fun ro' W' mv => by
    have k1 := (H1.out.blk.keep mv (by simp)).cell
    have kb := fun o => World.cell?_of_block (w := w) (w' := W') (a := ⟨b, o, none⟩) ((M0.out.trans mv).block b hb0 (by simp))
    exact ⟨(k1 5).trans rfl, (k1 11).trans (congrArg (fun z => some (Value.int .i64 z)) hp'), (kb _).trans z0, (kb _).trans z1, (kb _).trans z2⟩)
  have FW := Lib.hid (show ∀ ro0 W' p', Mv (setRo ro w.heap.size (r + 12)) [r, r + 4] (ansW w) ro0 W' → DM ro0 r W' M C tag (.slice (some ⟨b, off, none⟩) code.length cc) m.begin.dm p' → Calls Tryz.prog 116 #[ptr M, insV xo xn xx] W' (AnP ro r w M C tag (.slice (some ⟨b, off, none⟩) code.length cc) m'.dm (Ask.v ⟨a1, a2, a3, a4⟩)) from fun ro0 W' p' mv hd => (DOW ro0 W' p' hd).mono fun e w' hh => by
    obtain ⟨he, ro1, p1, h1, m1⟩ := hh
    have m2 := mv.trans m1
    exact ⟨he, ro1, p1, h1, dR_mv (ans_mv ro r w) m2, (ans_blk ro r w).keep m2 (by simp)⟩)
  have hu1 : 0 ≤ m.dm.used := hu0.1
  have hu2 : m.dm.used ≤ 1000000 := hu0.2
  have hp1 : 0 ≤ m.dm.place := by rw [hp']; omega
  have hp2 : m.dm.place ≤ 1000000 := by rw [hp']; omega
  clear h hwt hho hh hb hb' hu hp hp' hcode hcell z0 z1 z2 hx hck hw hu0 DOW
  have sf := run_store_float
  simp only [ptr, askEnd, askNone, Ask.v] at *
  unfold ansW at *
  go_enter Tryz.func75, Tryz.ntmps75
  go_wp2
  go_quiet (fail)
  rename Nat => nqa
  go_wp2
  go_quiet (fail)
  rename Nat => nqb
  go_wp2
  generalize hW : w.alloc (.cells #[.int .i64 0, .int .i64 0, .float .f64 0, .bool false] 139) = W at *
  clear hW
  have MQ := Lib.hid (show Mv (setRo ro w.heap.size (r + 12)) [] W (setRo ro w.heap.size (r + 12)) ((W.drewN nqa).drewN nqb) from ((Mv.refl _ _ _).drewN _).drewN _)
  generalize hWq : (W.drewN nqa).drewN nqb = W1 at *
  clear hWq
  refine wp_region_noPanic ?_
  refine wp_region_T (S := fun W' => W'.cell? ⟨M, 5, none⟩ = some (.slice (some ⟨b, off, none⟩) code.length cc) ∧ W'.cell? ⟨M, 11, none⟩ = some (.int .i64 k) ∧ W'.cell? ⟨b, off + k * 3, none⟩ = some (.int .i64 xo) ∧ W'.cell? ⟨b, off + k * 3 + 1, none⟩ = some (.int .i64 xn) ∧ W'.cell? ⟨b, off + k * 3 + 2, none⟩ = some (.float .f64 xx)) (last := 12) (by kernel_rfl) (HS0.out (setRo ro w.heap.size (r + 12)) _ MQ.out.drew) (fun hHeld => ?_)
  refine' wpAnyT_take (i := 0) (v := _) rfl (by kernel_rfl) (by kernel_rfl) (by kernel_rfl) (by kernel_rfl) (fun _ _ _ h => h) (Or.inl ⟨by rfl, ?hy0u192⟩) (by assumption) ?rest0u192
  case hy0u192 => (intro w hSw; (try dsimp only at hSw); go_simp; try with_reducible rfl)
  try simp only [Act.put, List.setIfInBounds_toArray, List.set_cons_zero, List.set_cons_succ]
  refine' wpAnyT_take (i := 1) (v := _) rfl (by kernel_rfl) (by kernel_rfl) (by kernel_rfl) (by kernel_rfl) (fun _ _ _ h => h) (Or.inl ⟨by rfl, ?hy1u193⟩) (by assumption) ?rest1u193
  case hy1u193 => (intro w hSw; (try dsimp only at hSw); go_simp; try with_reducible rfl)
  try simp only [Act.put, List.setIfInBounds_toArray, List.set_cons_zero, List.set_cons_succ]
  refine' wpAnyT_take (i := 2) (v := _) rfl (by kernel_rfl) (by kernel_rfl) (by kernel_rfl) (by kernel_rfl) (fun _ _ _ h => h) (Or.inl ⟨by rfl, ?hy2u194⟩) (by assumption) ?rest2u194
  case hy2u194 => (intro w hSw; (try dsimp only at hSw); go_simp; try with_reducible rfl)
  try simp only [Act.put, List.setIfInBounds_toArray, List.set_cons_zero, List.set_cons_succ]
  refine' wpAnyT_take (i := 3) (v := _) rfl (by kernel_rfl) (by kernel_rfl) (by kernel_rfl) (by kernel_rfl) (fun _ _ _ h => h) (Or.inl ⟨by rfl, ?hy3u195⟩) (by assumption) ?rest3u195
  case hy3u195 => (intro w hSw; (try dsimp only at hSw); go_simp; try with_reducible rfl)
  try simp only [Act.put, List.setIfInBounds_toArray, List.set_cons_zero, List.set_cons_succ]
  refine' wpAnyT_take (i := 4) (v := _) rfl (by kernel_rfl) (by kernel_rfl) (by kernel_rfl) (by kernel_rfl) (fun _ _ _ h => h) (Or.inl ⟨by rfl, ?hy4u196⟩) (by assumption) ?rest4u196
  case hy4u196 => (intro w hSw; (try dsimp only at hSw); go_simp; try with_reducible rfl)
  try simp only [Act.put, List.setIfInBounds_toArray, List.set_cons_zero, List.set_cons_succ]
  refine' wpAnyT_take (i := 5) (v := _) rfl (by kernel_rfl) (by kernel_rfl) (by kernel_rfl) (by kernel_rfl) (fun _ _ _ h => h) (Or.inl ⟨by rfl, ?hy5u197⟩) (by assumption) ?rest5u197
  case hy5u197 => (intro w hSw; (try dsimp only at hSw); go_simp; try with_reducible rfl)
  try simp only [Act.put, List.setIfInBounds_toArray, List.set_cons_zero, List.set_cons_succ]
  refine' wpAnyT_take (i := 6) (v := _) rfl (by kernel_rfl) (by kernel_rfl) (by kernel_rfl) (by kernel_rfl) (fun _ _ _ h => h) (Or.inl ⟨by rfl, ?hy6u198⟩) (by assumption) ?rest6u198
  case hy6u198 => (intro w hSw; (try dsimp only at hSw); go_simp; try with_reducible rfl)
  try simp only [Act.put, List.setIfInBounds_toArray, List.set_cons_zero, List.set_cons_succ]
  refine' wpAnyT_take (i := 7) (v := _) rfl (by kernel_rfl) (by kernel_rfl) (by kernel_rfl) (by kernel_rfl) (fun _ _ _ h => h) (Or.inl ⟨by rfl, ?hy7u199⟩) (by assumption) ?rest7u199
  case hy7u199 => (intro w hSw; (try dsimp only at hSw); go_simp; try with_reducible rfl)
  try simp only [Act.put, List.setIfInBounds_toArray, List.set_cons_zero, List.set_cons_succ]
  refine' wpAnyT_take (i := 8) (v := _) rfl (by kernel_rfl) (by kernel_rfl) (by kernel_rfl) (by kernel_rfl) (fun _ _ _ h => h) (Or.inl ⟨by rfl, ?hy8u200⟩) (by assumption) ?rest8u200
  case hy8u200 => (intro w hSw; (try dsimp only at hSw); go_simp; try with_reducible rfl)
  try simp only [Act.put, List.setIfInBounds_toArray, List.set_cons_zero, List.set_cons_succ]
  refine' wpAnyT_take (i := 9) (v := _) rfl (by kernel_rfl) (by kernel_rfl) (by kernel_rfl) (by kernel_rfl) (fun _ _ _ h => h) (Or.inl ⟨by rfl, ?hy9u201⟩) (by assumption) ?rest9u201
  case hy9u201 => (intro w hSw; (try dsimp only at hSw); go_simp; try with_reducible rfl)
  try simp only [Act.put, List.setIfInBounds_toArray, List.set_cons_zero, List.set_cons_succ]
  refine' wpAnyT_take (i := 10) (v := _) rfl (by kernel_rfl) (by kernel_rfl) (by kernel_rfl) (by kernel_rfl) (fun _ _ _ h => h) (Or.inl ⟨by rfl, ?hy10u202⟩) (by assumption) ?rest10u202
  case hy10u202 => (intro w hSw; (try dsimp only at hSw); go_simp; try with_reducible rfl)
  try simp only [Act.put, List.setIfInBounds_toArray, List.set_cons_zero, List.set_cons_succ]
  refine wpAnyT_one (i := 11) (by kernel_rfl) rfl (fun K hK => ?_)
  go_simp
  refine hK.out _ _ (.inr (HS0.out (setRo ro w.heap.size (r + 12)) _ (MQ.out.drew.alloc _))) (fun hHx => ?_)
  have hHeld := hHx.resolve_left (by decide)
  clear hK K hHx
  refine wpAnyT_one (i := 12) (by kernel_rfl) rfl (fun K hK => ?_)
  go_simp
  refine hK.out _ _ (.inl rfl) (fun _ => ?_)
  clear hK K hHeld
  refine wpAnyT_done (by kernel_rfl) ?_ _
  refine NoPanic.normal ?_
  have ME : Mv (setRo ro w.heap.size (r + 12)) [] W (setRo (setRo ro w.heap.size (r + 12)) W1.heap.size (r + 11)) (W1.alloc (.cells #[.int .i64 xo, .int .i64 xn, .float .f64 xx] 117)).drew := ((MQ.out.alloc _).give MQ.out.size).drew
  have HE := H1.out.keep0 ME
  have RE := R1.out.keep ME (by simp)
  have IE : Blk (setRo (setRo ro w.heap.size (r + 12)) W1.heap.size (r + 11)) (r + 11) (W1.alloc (.cells #[.int .i64 xo, .int .i64 xn, .float .f64 xx] 117)).drew W1.heap.size #[.int .i64 xo, .int .i64 xn, .float .f64 xx] 117 := ⟨heap_alloc_new _ _, setRo_at _ _ _⟩
  clear hcw hltw
  generalize (W1.alloc (.cells #[.int .i64 xo, .int .i64 xn, .float .f64 xx] 117)).drew = E at *
  generalize setRo (setRo ro w.heap.size (r + 12)) W1.heap.size (r + 11) = roE at *
  generalize W1.heap.size = IB at *
  have hcE := HE.blk.cell
  have hfE := HE.blk.free
  have hlE := HE.blk.lt
  have icE := IE.cell
  have hneI : IB ≠ M := IE.ne HE.blk (by omega)
  have hneI' := hneI.symm
  unfold dcells at hcE
  obtain ⟨k1, b1⟩ := HE.put (d' := { m.dm with used := m.dm.used + 1 }) 12 (.int .i64 (m.dm.used + 1)) rfl rfl rfl rfl rfl rfl rfl rfl
  obtain ⟨k2, b2⟩ := k1.put (d' := m.begin.dm) 11 (.int .i64 (m.dm.place + 1)) rfl rfl rfl rfl rfl rfl rfl rfl
  have RW := Lib.hid (droom_walk k2 ⟨xo, xn, xx⟩ hl hcl16 ⟨(eff_bd xo).1, by have := (eff_bd xo).2.1; show effT xo ≤ 10; omega⟩ ⟨(eff_bd xo).2.2.1, by have := (eff_bd xo).2.2.2; show effL xo ≤ 10; omega⟩ hn5)
  have HK2 := Lib.hid k2
  have IK2 := Lib.hid ((IE.keep b1 (by simp)).keep b2 (by simp))
  have MK2 := Lib.hid (show Mv (setRo ro w.heap.size (r + 12)) [r, r + 4] W roE _ from ((ME.mono (by simp)).trans (b1.mono (by simp))).trans (b2.mono (by simp)))
  clear k1 k2 b1 b2 HE RE IE ME HS0 H1 R1 MQ
  simp only [hrm, insV] at RW
  go_wp2_with (first | (go_at_call 115; refine RW.out.mono ?_; rintro e w3 ⟨rfl, b3⟩; have M3 := Lib.hid (Mv.then_below MK2.out b3); have H3 := Lib.hid (HK2.out.keep0 (Mv.of_below b3)); have i3 := (IK2.out.keep (Mv.of_below (R := []) b3) (by simp)).cell; clear b3) | (go_at_call 116; refine (FW.out _ _ _ M3.out H3.out).mono ?_; rintro e w1 ⟨rfl, ro1, p1, h1, m1, r1⟩; have bc := r1.cell; have bf := r1.free))
  refine bodyPost_ret (v := .agg #[.int .i64 a1, .int .i64 a2, .float .f64 a3, .bool a4]) (by simp [results, Tryz.results75, go_sem, bc, bf]) rfl ?_
  have hR : ro1 w.heap.size ∈ [r + 12] := by rw [r1.role]; simp
  have n0 := Nat.le_refl w.heap.size
  exact ⟨rfl, ro1, _, h1.keep (((((Mv.refl _ _ _).setCell hR _).setCell hR _).setCell hR _).setCell hR _) (by simp), (((m1.setNew n0 _).setNew n0 _).setNew n0 _).setNew n0 _⟩
end Go.Proofs.YtphaeodcomgffaaGreat
set_option linter.unusedVariables false
set_option linter.unusedSimpArgs false
namespace Go.Proofs.YtphaeodcomgffaaGreat
open Go.RowKit

/-! The document's machine: an instruction, a step, whole. -/
set_option maxHeartbeats 2000000 in
theorem ddo_walk {ro : Nat → Nat} {r : Nat} {w : World} {M C tag vc p} {m : Ms} {code : List Ins} {x : Ins} (h : DM ro r w M C tag vc m.dm p) (hC : C.ok) (T : Took C code x m) (F : FixA m) (A : FitA code m) (hh : m.how = 0) :
    Calls Tryz.prog 116 #[ptr M, insV x.op x.n x.x] w (DoD ro r w M C tag vc (m.doD C tag x)) := by
  obtain ⟨o1, o2⟩ := op_cases T.may
  have hn := T.need
  have hl := T.wf.stack
  have hwl := T.wf.writesL
  have hr1 := T.wf.reads
  have ho1 := T.wf.out
  have hu1 := T.wf.used1
  have hcl := T.wf.callsL
  obtain ⟨e1, e2⟩ := F.clean hh
  obtain ⟨C1, C2, C3, C4, C5, C6, C7, C8⟩ := hC
  obtain ⟨op, n, xx⟩ := x
  simp only at o1 o2 hn ⊢
  rcases (by omega : op = 1 ∨ op = 2 ∨ op = 3 ∨ op = 4 ∨ op = 5 ∨ op = 6 ∨ op = 7 ∨ op = 8 ∨ op = 9 ∨ op = 10 ∨ op = 11 ∨ op = 12 ∨ op = 13 ∨ op = 14 ∨ op = 15 ∨ op = 16 ∨ op = 17 ∨ op = 18 ∨ op = 19 ∨ op = 20) with rfl | rfl | rfl | rfl | rfl | rfl | rfl | rfl | rfl | rfl | rfl | rfl | rfl | rfl | rfl | rfl | rfl | rfl | rfl | rfl
  · have e : m.doD C tag ⟨1, n, xx⟩ = (m.trade 0 [fx xx], askNone) := by simp [Ms.doD, Ms.doS, Ms.reck]
    rw [e]
    exact ddo_1 h hl n xx
  · simp [show effT 2 = 1 by decide] at hn
    have e : m.doD C tag ⟨2, n, xx⟩ = (m.trade 1 [], askNone) := by simp [Ms.doD, Ms.doS, Ms.reck]
    rw [e]
    exact ddo_2 h hl n xx (by omega)
  · simp [show effT 3 = 1 by decide] at hn
    have e : m.doD C tag ⟨3, n, xx⟩ = (m.trade 0 [m.top 0], askNone) := by simp [Ms.doD, Ms.doS, Ms.reck]
    rw [e]
    exact ddo_3 h hl n xx (by omega)
  · simp [show effT 4 = 2 by decide] at hn
    have e : m.doD C tag ⟨4, n, xx⟩ = (m.trade 2 [m.top 0, m.top 1], askNone) := by simp [Ms.doD, Ms.doS, Ms.reck]
    rw [e]
    exact ddo_4 h hl n xx (by omega)
  · simp at hn
    have hj := pick_may T.may rfl
    simp only at hj
    obtain ⟨j, rfl⟩ : ∃ j : Nat, n = (j : Int) := ⟨n.toNat, by omega⟩
    have e : m.doD C tag ⟨5, (j : Int), xx⟩ = (m.trade 0 [m.top j], askNone) := by simp [Ms.doD, Ms.doS, Ms.reck]
    rw [e]
    exact ddo_5 h hl j xx (by omega)
  · have hj := small_may T.may (.inl rfl)
    simp only at hj
    obtain ⟨j, rfl⟩ : ∃ j : Nat, n = (j : Int) := ⟨n.toNat, by omega⟩
    have e : m.doD C tag ⟨6, (j : Int), xx⟩ = (m.trade 0 [m.args j], askNone) := by simp [Ms.doD, Ms.doS, Ms.reck]
    rw [e]
    exact ddo_6 h hl j xx (by omega)
  · have hj := small_may T.may (.inr (.inl rfl))
    simp only at hj
    obtain ⟨j, rfl⟩ : ∃ j : Nat, n = (j : Int) := ⟨n.toNat, by omega⟩
    have e : m.doD C tag ⟨7, (j : Int), xx⟩ = (m.trade 0 [m.locals j], askNone) := by simp [Ms.doD, Ms.doS, Ms.reck]
    rw [e]
    exact ddo_7 h hl j xx (by omega)
  · simp [show effT 8 = 1 by decide] at hn
    have hj := small_may T.may (.inr (.inr rfl))
    simp only at hj
    obtain ⟨j, rfl⟩ : ∃ j : Nat, n = (j : Int) := ⟨n.toNat, by omega⟩
    have e : m.doD C tag ⟨8, (j : Int), xx⟩ = ({ m.trade 1 [] with locals := fun i => if i = j then m.top 0 else m.locals i }, askNone) := by simp [Ms.doD, Ms.doS, Ms.reck]
    rw [e]
    exact ddo_8 h hl j xx (by omega) (by omega)
  · simp [show effT 9 = 1 by decide] at hn
    have hj := one_may T.may rfl
    simp only at hj
    have e : m.doD C tag ⟨9, n, xx⟩ = (m.trade 1 [oneF n (fx (m.top 0))], askNone) := by simp [Ms.doD, Ms.doS, Ms.reck]
    rw [e]
    exact ddo_9 h hl n xx (by omega) hj.1 hj.2 (F.top 0) (A.top 0)
  · simp [show effT 10 = 2 by decide] at hn
    have hj := two_may T.may rfl
    simp only at hj
    have e : m.doD C tag ⟨10, n, xx⟩ = (m.trade 2 [twoF n (fx (m.top 1)) (fx (m.top 0))], askNone) := by simp [Ms.doD, Ms.doS, Ms.reck]
    rw [e]
    exact ddo_10 h hl n xx (by omega) hj.1 hj.2 (F.top 0) (A.top 0) (F.top 1) (A.top 1)
  · have e : m.doD C tag ⟨11, n, xx⟩ = ({ m with place := n }, askNone) := by simp [Ms.doD, Ms.doS]
    rw [e]
    exact ddo_11 h hl n xx
  · simp [show effT 12 = 1 by decide] at hn
    cases hb : trueF (m.top 0)
    · have e : m.doD C tag ⟨12, n, xx⟩ = (m.trade 1 [], askNone) := by simp [Ms.doD, Ms.doS, hb, Ms.trade]
      rw [e]
      exact ddo_12n h hl n xx (by omega) hb
    · have e : m.doD C tag ⟨12, n, xx⟩ = ({ m.trade 1 [] with place := n }, askNone) := by simp [Ms.doD, Ms.doS, hb, Ms.trade]
      rw [e]
      exact ddo_12y h hl n xx (by omega) hb
  · simp [show effT 13 = 1 by decide] at hn
    cases hb : trueF (m.top 0)
    · have e : m.doD C tag ⟨13, n, xx⟩ = ({ m.trade 1 [] with place := n }, askNone) := by simp [Ms.doD, Ms.doS, hb, Ms.trade]
      rw [e]
      exact ddo_13y h hl n xx (by omega) hb
    · have e : m.doD C tag ⟨13, n, xx⟩ = (m.trade 1 [], askNone) := by simp [Ms.doD, Ms.doS, hb, Ms.trade]
      rw [e]
      exact ddo_13n h hl n xx (by omega) hb
  · have e : m.doD C tag ⟨14, n, xx⟩ = ({ m with calls := m.calls ++ [m.place], place := n }, askNone) := by simp [Ms.doD, Ms.doS]
    rw [e]
    rcases h.calls.form with ⟨f1, f2⟩ | ⟨b, off, c, f1, f2, _, _⟩
    · exact ddo_14nil h hl n xx f1 f2
    · exact ddo_14some h hl n xx b off c f1 (T.call rfl) f2
  · rcases h.calls.form with ⟨f1, f2⟩ | ⟨b, off, c, f1, f2, _, _⟩
    · have hk : m.calls = [] := f2
      have e : m.doD C tag ⟨15, n, xx⟩ = m.ends 1 0 0 := by simp [Ms.doD, Ms.doS, hk]
      rw [e]
      exact ddo_15nil h hl n xx e1 e2 hk
    · rcases Nat.eq_zero_or_pos m.calls.length with h0 | h0
      · have hk : m.calls = [] := List.eq_nil_of_length_eq_zero h0
        have e : m.doD C tag ⟨15, n, xx⟩ = m.ends 1 0 0 := by simp [Ms.doD, Ms.doS, hk]
        rw [e]
        exact ddo_15nil h hl n xx e1 e2 hk
      · obtain ⟨j, hj⟩ : ∃ j, m.calls.length = j + 1 := ⟨m.calls.length - 1, by omega⟩
        obtain ⟨pl, hg⟩ : ∃ pl, m.calls[j]? = some pl := ⟨_, List.getElem?_eq_getElem (by omega)⟩
        have hlast : m.calls.getLast? = some pl := by rw [List.getLast?_eq_getElem?, hj, Nat.add_sub_cancel, hg]
        have hdrop : m.calls.dropLast = m.calls.take j := by rw [List.dropLast_eq_take, hj, Nat.add_sub_cancel]
        have e : m.doD C tag ⟨15, n, xx⟩ = ({ m with calls := m.calls.take j, place := pl }, askNone) := by simp [Ms.doD, Ms.doS, hlast, hdrop]
        rw [e]
        have f1' : p.vk = .slice (some ⟨b, off, none⟩) (j + 1) c := by rw [← hj]; exact f1
        exact ddo_15some h hl n xx b off c j _ f1' hj (by omega) hg
  · simp [show effT 16 = 1 by decide] at hn
    have e0 : m.doD C tag ⟨16, n, xx⟩ = m.readD C := by
      unfold Ms.doD Ms.readD
      rw [show m.doS C tag ⟨16, n, xx⟩ = m.readS C by simp [Ms.doS]]
      cases m.readS C <;> rfl
    rw [e0]
    refine ddo_16 h hl n xx _ fun ro' W h' => ?_
    unfold Ms.readD Ms.readS
    cases hi : indexF (m.top 0) C.cells with
    | none => exact dread_err h' hl (by omega) hi
    | some c =>
      simp only
      cases hw : wrote m.writes c with
      | none => exact dread_wait h' hl (by omega) (by omega) c hi hw
      | some y => exact dread_own h' hl (by omega) (by omega) (by omega) c y hi hw
  · simp [show effT 17 = 2 by decide] at hn
    have e0 : m.doD C tag ⟨17, n, xx⟩ = (match m.writeS C tag with | .error e => m.fails e | .ok r => r) := by
      unfold Ms.doD
      rw [show m.doS C tag ⟨17, n, xx⟩ = m.writeS C tag by simp [Ms.doS]]
      cases m.writeS C tag <;> rfl
    rw [e0]
    refine ddo_17 h hl n xx _ fun ro' W h' => ?_
    unfold Ms.writeS
    by_cases ht : tag = 2
    · rw [if_neg (by simp [ht])]
      cases hi : indexF (m.top 0) C.cells with
      | none => exact dwrite_idx h' hl ht (by omega) hi
      | some c =>
        simp only
        unfold putS
        rw [F.top 1]
        cases hw : wrote m.writes c with
        | none =>
          simp only
          by_cases hf : (m.writes.length : Int) = C.writes
          · rw [if_pos hf]
            exact dwrite_full h' hl ht (by omega) (by omega) c hi hw hf
          · rw [if_neg hf]
            exact dwrite_first h' hl ht (by omega) (by omega) c hi hw hf
        | some z => exact dwrite_again h' hl ht (by omega) (by omega) c z hi hw
    · rw [if_pos ht]
      exact dwrite_tag h' hl ht
  · simp [show effT 18 = 1 by decide] at hn
    have e : m.doD C tag ⟨18, n, xx⟩ = ({ m.trade 1 [] with out := m.out ++ [m.top 0] }, askNone) := by simp [Ms.doD, Ms.doS, Ms.reck]
    rw [e]
    rcases h.out.form with ⟨f1, f2⟩ | ⟨b, off, c, f1, f2, _, _⟩
    · exact ddo_18nil h hl n xx (by omega) f1 f2
    · exact ddo_18some h hl n xx (by omega) b off c f1 (by omega) f2
  · have e : m.doD C tag ⟨19, n, xx⟩ = m.ends 2 n 0 := by simp [Ms.doD, Ms.doS]
    rw [e]
    exact ddo_19 h hl n xx
  · have e : m.doD C tag ⟨20, n, xx⟩ = m.ends 1 0 0 := by simp [Ms.doD, Ms.doS]
    rw [e]
    exact ddo_20 h hl n xx e1 e2
/-- A step of the document's machine is the program's. -/
theorem dstep_walk {ro : Nat → Nat} {r : Nat} {w : World} {M C tag vc p} {m : Ms} {code : List Ins} (h : DM ro r w M C tag vc m.dm p) (hC : C.ok) (hcode : RdC w vc code) (hcl : m.bad = false → code.length ≤ 1000000) (W : Wf C code m) (F : FixA m) (A : FitA code m) (hw : m.wait = none) (hh : m.how = 0) :
    Calls Tryz.prog 75 #[ptr M] w (DUp ro r w M C tag vc (m.step C tag code).1.dm (m.step C tag code).2.v) := by
  have hl := W.stack
  have hu0 := W.used0
  have hu1 := W.used1
  have hp0 := W.place0
  obtain ⟨C1, C2, C3, C4, C5, C6, C7, C8⟩ := id hC
  unfold Ms.step
  rw [hw]
  simp only
  rw [if_neg (by rw [hh]; decide)]
  cases hb : m.bad
  · simp only [Bool.false_eq_true, if_false]
    by_cases hu : m.used = C.fuel
    · rw [if_pos hu]
      exact dstep_fuel h hl hw hh hb hu
    · rw [if_neg hu]
      by_cases hp : m.place = code.length
      · rw [if_pos hp]
        exact dstep_out h hl hw hh hb hu code hcode hp
      · rw [if_neg hp]
        have hp1 := W.place1
        have hx : code[m.place.toNat]? = some (code[m.place.toNat]'(by omega)) := List.getElem?_eq_getElem (by omega)
        generalize code[m.place.toNat]'(by omega) = x at hx
        rw [hx]
        simp only
        have hk : m.place = (m.place.toNat : Nat) := by omega
        have hmay := W.good hb x (List.mem_of_getElem? hx)
        have hn5 : x.op = 5 → -1000 ≤ x.n ∧ x.n ≤ 1000 := fun h5 => by have := pick_may hmay h5; omega
        cases hr : m.begin.room x
        · simp only [Bool.false_eq_true, if_false]
          exact dstep_noroom h hl hw hh hb hu ⟨hu0, by omega⟩ W.callsL code hcode (hcl hb) _ hk x hx hn5 hr
        · simp only [if_true]
          have T := begin_took W hw hb hu hp hx hr
          exact dstep_do h hl hw hh hb hu ⟨hu0, by omega⟩ W.callsL code hcode (hcl hb) _ hk x hx hn5 hr (m.begin.doD C tag x) fun ro0 W' p' hd => ddo_walk hd hC T (begin_fix F) (begin_fit A) hh
  · simp only [if_true]
    exact dstep_bad h hl hw hh hb
end Go.Proofs.YtphaeodcomgffaaGreat
