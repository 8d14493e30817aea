import Derived.Test.YtphaeodcomgffaaGreatDE
set_option linter.unusedVariables false
set_option linter.unusedSimpArgs false
namespace Go.Proofs.YtphaeodcomgffaaGreat
open Go.RowKit

/-! The document's reader: a step. -/
set_option maxRecDepth 100000 in
set_option maxHeartbeats 4000000 in
theorem dstep_a {ro : Nat → Nat} {r rw : Nat} {w : World} {B C th tag vc args d M va p WB v2 ws cnt} {m : Ms} (h : DRI ro r w B C th tag vc args d m M va p) (hq : WrdIs ro rw w WB v2 ws cnt) (hrr : r + 9 < rw ∨ rw + 1 < r) (hC : C.ok) (hl : (ws.length : Int) = 3 + C.threads + 3 * C.cells) (n0 : 0 ≤ cnt) (n1 : cnt ≤ 1000000000) (s0 : 0 ≤ d.steps) (s1 : d.steps ≤ 1000000) (hp : d.part = 1) (hs : d.sub = 0) :
    Calls Tryz.prog 29 #[ptr B, ptr WB] w (RdP ro r rw w B C th tag vc args { d.more with claim := ws.getD 2 0, sub := 1 } m M va WB v2 ws (cnt + 1) (.tuple #[.bool false, .int .i64 0])) := by
  obtain ⟨C1, C2, C3, C4, C5, C6, C7, C8⟩ := id hC
  have hc := h.blk.cell
  have hf := h.blk.free
  have hlt := h.blk.lt
  unfold drcells at hc
  rw [hp] at hc
  obtain ⟨va2, vc2, rfl⟩ := hq.own.form
  have hcw := hq.blk.cell
  have hge : ¬ (ws.length : Int) < 3 + C.threads + 3 * C.cells := by omega
  have H := Lib.hid h
  have HQ := Lib.hid hq
  have HP := Lib.hid hp
  rw [hs] at hc
  clear hs
  have LW := Lib.hid (show ∀ W, Mv ro [r, r + 4, r + 8] w ro W → Calls Tryz.prog 72 #[ptr WB, .int .i64 2] W fun e w' => e = .returned (.int .u64 (ws.getD 2 0)) ∧ WrdIs ro rw w' WB (.slice va2 ws.length vc2) ws (cnt + 1) ∧ Mv ro [rw] W ro w' from fun W mv => wload_walk (hq.keep mv (by simp; omega) (by simp; omega)) 2 (by omega) (by omega) n0 n1)
  generalize ws.getD 2 0 = x at *
  simp only [ptr] at *
  clear h hq hp
  go_enter Tryz.func29, Tryz.ntmps29
  go_wp2
  go_quiet (fail)
  obtain ⟨k0, b0⟩ := (H.out.keep ((Mv.refl ro [] w).drewN nq) (by simp)).put (d' := d.more) 17 (.int .i64 (d.steps + 1)) rfl
  have K0 := Lib.hid k0
  have M0 := Lib.hid (show Mv ro [r, r + 4, r + 8] w ro _ from ((Mv.refl ro [r, r + 4, r + 8] w).drewN nq).trans (b0.mono (by simp)))
  have Q0 := Lib.hid ((HQ.out.keep ((Mv.refl ro [] w).drewN nq) (by simp) (by simp)).keep b0 (by simp; omega) (by simp; omega))
  clear k0 b0
  go_wp2_with (go_at_call 72; refine (LW.out _ M0.out).mono ?_; rintro e w1 ⟨rfl, q1, m1⟩; have h1 := K0.out.keep m1 (by simp; omega); have hc1 := h1.blk.cell; have hf1 := h1.blk.free; have hlt1 := h1.blk.lt; unfold drcells at hc1; have H1 := Lib.hid h1; have M1 := Lib.hid (show Mv ro (dS r rw) w ro w1 from (M0.out.mono (by simp [dS])).trans (m1.mono (by simp [dS]))); have Q1 := Lib.hid q1; clear h1 m1 q1)
  go_ret2
  obtain ⟨k1, b1⟩ := H1.out.put (d' := { d.more with claim := x }) 12 (.int .u64 x) rfl
  obtain ⟨k2, b2⟩ := k1.put (d' := { d.more with claim := x, sub := 1 }) 11 (.int .i64 1) rfl
  exact ⟨rfl, ro, p, k2, (Q1.out.keep b1 (by simp; omega) (by simp; omega)).keep b2 (by simp; omega) (by simp; omega), (M1.out.trans (b1.mono (by simp [dS]))).trans (b2.mono (by simp [dS]))⟩
set_option maxRecDepth 100000 in
set_option maxHeartbeats 4000000 in
theorem dstep_c {ro : Nat → Nat} {r rw : Nat} {w : World} {B C th tag vc args d M va p WB v2 ws cnt} {m : Ms} (h : DRI ro r w B C th tag vc args d m M va p) (hq : WrdIs ro rw w WB v2 ws cnt) (hrr : r + 9 < rw ∨ rw + 1 < r) (hC : C.ok) (hl : (ws.length : Int) = 3 + C.threads + 3 * C.cells) (n0 : 0 ≤ cnt) (n1 : cnt ≤ 1000000000) (s0 : 0 ≤ d.steps) (s1 : d.steps ≤ 1000000) (hp : d.part = 1) (hs : d.sub = 2) :
    Calls Tryz.prog 29 #[ptr B, ptr WB] w (RdP ro r rw w B C th tag vc args { d.more with stamp := ws.getD 2 0, part := 2 } m M va WB v2 ws (cnt + 1) (.tuple #[.bool false, .int .i64 0])) := by
  obtain ⟨C1, C2, C3, C4, C5, C6, C7, C8⟩ := id hC
  have hc := h.blk.cell
  have hf := h.blk.free
  have hlt := h.blk.lt
  unfold drcells at hc
  rw [hp] at hc
  obtain ⟨va2, vc2, rfl⟩ := hq.own.form
  have hcw := hq.blk.cell
  have hge : ¬ (ws.length : Int) < 3 + C.threads + 3 * C.cells := by omega
  have H := Lib.hid h
  have HQ := Lib.hid hq
  have HP := Lib.hid hp
  rw [hs] at hc
  clear hs
  have LW := Lib.hid (show ∀ W, Mv ro [r, r + 4, r + 8] w ro W → Calls Tryz.prog 72 #[ptr WB, .int .i64 2] W fun e w' => e = .returned (.int .u64 (ws.getD 2 0)) ∧ WrdIs ro rw w' WB (.slice va2 ws.length vc2) ws (cnt + 1) ∧ Mv ro [rw] W ro w' from fun W mv => wload_walk (hq.keep mv (by simp; omega) (by simp; omega)) 2 (by omega) (by omega) n0 n1)
  generalize ws.getD 2 0 = x at *
  simp only [ptr] at *
  clear h hq hp
  go_enter Tryz.func29, Tryz.ntmps29
  go_wp2
  go_quiet (fail)
  obtain ⟨k0, b0⟩ := (H.out.keep ((Mv.refl ro [] w).drewN nq) (by simp)).put (d' := d.more) 17 (.int .i64 (d.steps + 1)) rfl
  have K0 := Lib.hid k0
  have M0 := Lib.hid (show Mv ro [r, r + 4, r + 8] w ro _ from ((Mv.refl ro [r, r + 4, r + 8] w).drewN nq).trans (b0.mono (by simp)))
  have Q0 := Lib.hid ((HQ.out.keep ((Mv.refl ro [] w).drewN nq) (by simp) (by simp)).keep b0 (by simp; omega) (by simp; omega))
  clear k0 b0
  go_wp2_with (go_at_call 72; refine (LW.out _ M0.out).mono ?_; rintro e w1 ⟨rfl, q1, m1⟩; have h1 := K0.out.keep m1 (by simp; omega); have hc1 := h1.blk.cell; have hf1 := h1.blk.free; have hlt1 := h1.blk.lt; unfold drcells at hc1; have H1 := Lib.hid h1; have M1 := Lib.hid (show Mv ro (dS r rw) w ro w1 from (M0.out.mono (by simp [dS])).trans (m1.mono (by simp [dS]))); have Q1 := Lib.hid q1; clear h1 m1 q1)
  go_ret2
  obtain ⟨k1, b1⟩ := H1.out.put (d' := { d.more with stamp := x }) 13 (.int .u64 x) rfl
  obtain ⟨k2, b2⟩ := k1.put (d' := { d.more with stamp := x, part := 2 }) 10 (.int .i64 2) rfl
  exact ⟨rfl, ro, p, k2, (Q1.out.keep b1 (by simp; omega) (by simp; omega)).keep b2 (by simp; omega) (by simp; omega), (M1.out.trans (b1.mono (by simp [dS]))).trans (b2.mono (by simp [dS]))⟩
set_option maxRecDepth 100000 in
set_option maxHeartbeats 4000000 in
theorem dstep_b {ro : Nat → Nat} {r rw : Nat} {w : World} {B C th tag vc args d M va p WB v2 ws cnt} {m : Ms} (h : DRI ro r w B C th tag vc args d m M va p) (hq : WrdIs ro rw w WB v2 ws cnt) (hrr : r + 9 < rw ∨ rw + 1 < r) (hC : C.ok) (hl : (ws.length : Int) = 3 + C.threads + 3 * C.cells) (n0 : 0 ≤ cnt) (n1 : cnt ≤ 1000000000) (s0 : 0 ≤ d.steps) (s1 : d.steps ≤ 1000000) (hp : d.part = 1) (hs : d.sub = 1) (t0 : 0 ≤ th) (t1 : th < C.threads) :
    Calls Tryz.prog 29 #[ptr B, ptr WB] w (RdP ro r rw w B C th tag vc args { d.more with sub := 2 } m M va WB v2 (ws.set (3 + th.toNat) ((d.claim + 1) % 18446744073709551616)) (cnt + 1) (.tuple #[.bool false, .int .i64 0])) := by
  obtain ⟨C1, C2, C3, C4, C5, C6, C7, C8⟩ := id hC
  have hc := h.blk.cell
  have hf := h.blk.free
  have hlt := h.blk.lt
  unfold drcells at hc
  rw [hp] at hc
  obtain ⟨va2, vc2, rfl⟩ := hq.own.form
  have hcw := hq.blk.cell
  have hge : ¬ (ws.length : Int) < 3 + C.threads + 3 * C.cells := by omega
  have H := Lib.hid h
  have HQ := Lib.hid hq
  have HP := Lib.hid hp
  rw [hs] at hc
  have HS := Lib.hid hs
  clear hs
  have wi : IntKind.i64.wrap (3 + th) = 3 + th := IntWalk.i64_in _ (by omega)
  have wu : IntKind.u64.wrap ((d.claim : Int) + 1) = ((d.claim : Int) + 1) % 18446744073709551616 := rfl
  have SW := Lib.hid (show ∀ W, Mv ro [r, r + 4, r + 8] w ro W → Calls Tryz.prog 73 #[ptr WB, .int .i64 (3 + th), .int .u64 (((d.claim : Int) + 1) % 18446744073709551616)] W fun e w' => e = .returned (.tuple #[]) ∧ WrdIs ro rw w' WB (.slice va2 ws.length vc2) (ws.set (3 + th.toNat) ((d.claim + 1) % 18446744073709551616)) (cnt + 1) ∧ Mv ro [rw, rw + 1] W ro w' from fun W mv => by
    have := wstore_walk (hq.keep mv (by simp; omega) (by simp; omega)) (3 + th.toNat) ((d.claim + 1) % 18446744073709551616) (by omega) (by omega) n0 n1
    rw [show (((3 + th.toNat : Nat) : Int)) = 3 + th by omega, show (((((d.claim + 1) % 18446744073709551616) : Nat) : Int)) = (((d.claim : Int) + 1) % 18446744073709551616) by omega] at this
    exact this)
  simp only [ptr] at *
  clear h hq hp
  go_enter Tryz.func29, Tryz.ntmps29
  go_wp2
  go_quiet (fail)
  obtain ⟨k0, b0⟩ := (H.out.keep ((Mv.refl ro [] w).drewN nq) (by simp)).put (d' := d.more) 17 (.int .i64 (d.steps + 1)) rfl
  have K0 := Lib.hid k0
  have M0 := Lib.hid (show Mv ro [r, r + 4, r + 8] w ro _ from ((Mv.refl ro [r, r + 4, r + 8] w).drewN nq).trans (b0.mono (by simp)))
  have Q0 := Lib.hid ((HQ.out.keep ((Mv.refl ro [] w).drewN nq) (by simp) (by simp)).keep b0 (by simp; omega) (by simp; omega))
  clear k0 b0
  go_wp2
  generalize ((w.drewN nq).setCell ⟨B, 17, none⟩ (.int .i64 (d.steps + 1))) = W0 at *
  clear hc hf hlt hcw
  have hc0 := K0.out.blk.cell
  have hf0 := K0.out.blk.free
  unfold drcells at hc0
  rw [show d.more.sub = 1 from HS.out, show d.more.part = 1 from HP.out] at hc0
  refine wp_region_noPanic ?_
  go_region_law (go_simp; (go_at_call 73; refine (SW.out _ (by first | exact M0.out | exact M0.out.drew | exact M0.out.drew.drew)).mono ?_; rintro e w1 ⟨rfl, q1, m1⟩; have m1' : Mv ro [rw, rw + 1] W0 ro w1 := Mv.trans (by first | exact Mv.refl _ _ _ | exact (Mv.refl _ _ _).drew | exact (Mv.refl _ _ _).drew.drew) m1; have h1 := K0.out.keep m1' (by simp; omega); have hc1 := h1.blk.cell; have hf1 := h1.blk.free; have hlt1 := h1.blk.lt; unfold drcells at hc1; have H1 := Lib.hid h1; have M1 := Lib.hid (show Mv ro (dS r rw) w ro w1 from (M0.out.mono (by simp [dS])).trans (m1'.mono (by simp [dS]))); have Q1 := Lib.hid q1; clear h1 m1 q1 m1'))
  all_goals
    refine NoPanic.normal ?_
    go_wp2
    go_ret2
    obtain ⟨k1, b1⟩ := H1.out.put (d' := { d.more with sub := 2 }) 11 (.int .i64 2) rfl
    exact ⟨rfl, ro, p, k1, Q1.out.keep b1 (by simp; omega) (by simp; omega), M1.out.trans (b1.mono (by simp [dS]))⟩
set_option maxRecDepth 100000 in
set_option maxHeartbeats 4000000 in
theorem dstep_d {ro : Nat → Nat} {r rw : Nat} {w : World} {B C th tag vc args d M va p WB v2 ws cnt} {m : Ms} (h : DRI ro r w B C th tag vc args d m M va p) (hq : WrdIs ro rw w WB v2 ws cnt) (hrr : r + 9 < rw ∨ rw + 1 < r) (hC : C.ok) (hl : (ws.length : Int) = 3 + C.threads + 3 * C.cells) (n0 : 0 ≤ cnt) (n1 : cnt ≤ 1000000000) (s0 : 0 ≤ d.steps) (s1 : d.steps ≤ 1000000) (hp : d.part = 3) (t0 : 0 ≤ th) (t1 : th < C.threads) :
    Calls Tryz.prog 29 #[ptr B, ptr WB] w (RdP ro r rw w B C th tag vc args { d.more with part := 4 } m M va WB v2 (ws.set (3 + th.toNat) 0) (cnt + 1) (.tuple #[.bool true, .int .i64 0])) := by
  obtain ⟨C1, C2, C3, C4, C5, C6, C7, C8⟩ := id hC
  have hc := h.blk.cell
  have hf := h.blk.free
  have hlt := h.blk.lt
  unfold drcells at hc
  rw [hp] at hc
  obtain ⟨va2, vc2, rfl⟩ := hq.own.form
  have hcw := hq.blk.cell
  have hge : ¬ (ws.length : Int) < 3 + C.threads + 3 * C.cells := by omega
  have H := Lib.hid h
  have HQ := Lib.hid hq
  have HP := Lib.hid hp
  have wi : IntKind.i64.wrap (3 + th) = 3 + th := IntWalk.i64_in _ (by omega)
  have SW := Lib.hid (show ∀ W, Mv ro [r, r + 4, r + 8] w ro W → Calls Tryz.prog 73 #[ptr WB, .int .i64 (3 + th), .int .u64 0] W fun e w' => e = .returned (.tuple #[]) ∧ WrdIs ro rw w' WB (.slice va2 ws.length vc2) (ws.set (3 + th.toNat) 0) (cnt + 1) ∧ Mv ro [rw, rw + 1] W ro w' from fun W mv => by
    have := wstore_walk (hq.keep mv (by simp; omega) (by simp; omega)) (3 + th.toNat) 0 (by omega) (by omega) n0 n1
    rw [show (((3 + th.toNat : Nat) : Int)) = 3 + th by omega, show (((0 : Nat) : Int)) = 0 by omega] at this
    exact this)
  simp only [ptr] at *
  clear h hq hp
  go_enter Tryz.func29, Tryz.ntmps29
  go_wp2
  go_quiet (fail)
  obtain ⟨k0, b0⟩ := (H.out.keep ((Mv.refl ro [] w).drewN nq) (by simp)).put (d' := d.more) 17 (.int .i64 (d.steps + 1)) rfl
  have K0 := Lib.hid k0
  have M0 := Lib.hid (show Mv ro [r, r + 4, r + 8] w ro _ from ((Mv.refl ro [r, r + 4, r + 8] w).drewN nq).trans (b0.mono (by simp)))
  have Q0 := Lib.hid ((HQ.out.keep ((Mv.refl ro [] w).drewN nq) (by simp) (by simp)).keep b0 (by simp; omega) (by simp; omega))
  clear k0 b0
  go_wp2
  generalize ((w.drewN nq).setCell ⟨B, 17, none⟩ (.int .i64 (d.steps + 1))) = W0 at *
  clear hc hf hlt hcw
  have hc0 := K0.out.blk.cell
  have hf0 := K0.out.blk.free
  unfold drcells at hc0
  rw [show d.more.part = 3 from HP.out] at hc0
  refine wp_region_noPanic ?_
  go_region_law (go_simp; (go_at_call 73; refine (SW.out _ (by first | exact M0.out | exact M0.out.drew | exact M0.out.drew.drew)).mono ?_; rintro e w1 ⟨rfl, q1, m1⟩; have m1' : Mv ro [rw, rw + 1] W0 ro w1 := Mv.trans (by first | exact Mv.refl _ _ _ | exact (Mv.refl _ _ _).drew | exact (Mv.refl _ _ _).drew.drew) m1; have h1 := K0.out.keep m1' (by simp; omega); have hc1 := h1.blk.cell; have hf1 := h1.blk.free; have hlt1 := h1.blk.lt; unfold drcells at hc1; have H1 := Lib.hid h1; have M1 := Lib.hid (show Mv ro (dS r rw) w ro w1 from (M0.out.mono (by simp [dS])).trans (m1'.mono (by simp [dS]))); have Q1 := Lib.hid q1; clear h1 m1 q1 m1'))
  all_goals
    refine NoPanic.normal ?_
    go_wp2
    go_ret2
    obtain ⟨k1, b1⟩ := H1.out.put (d' := { d.more with part := 4 }) 10 (.int .i64 4) rfl
    exact ⟨rfl, ro, p, k1, Q1.out.keep b1 (by simp; omega) (by simp; omega), M1.out.trans (b1.mono (by simp [dS]))⟩
set_option maxRecDepth 100000 in
set_option maxHeartbeats 4000000 in
theorem dstep_e {ro : Nat → Nat} {r rw : Nat} {w : World} {B C th tag vc args d M va p WB v2 ws cnt} {m : Ms} (h : DRI ro r w B C th tag vc args d m M va p) (hq : WrdIs ro rw w WB v2 ws cnt) (hrr : r + 9 < rw ∨ rw + 1 < r) (hC : C.ok) (hl : (ws.length : Int) = 3 + C.threads + 3 * C.cells) (n0 : 0 ≤ cnt) (n1 : cnt ≤ 1000000000) (s0 : 0 ≤ d.steps) (s1 : d.steps ≤ 1000000) (hp : d.part = 2) (hcl : 0 ≤ d.cell) (hc1 : d.cell < C.cells) (u0 : 0 ≤ d.sub) (u3 : d.sub ≤ 3) (hst : m.stack.length ≤ 63) (hrl : m.reads.length ≤ 4096) (hwt : m.wait = some d.cell) :
    Calls Tryz.prog 29 #[ptr B, ptr WB] w (RdP ro r rw w B C th tag vc args (d.more.read C ws m).1 (d.more.read C ws m).2 M va WB v2 ws (cnt + 1) (.tuple #[.bool false, .int .i64 0])) := by
  obtain ⟨C1, C2, C3, C4, C5, C6, C7, C8⟩ := id hC
  have hc := h.blk.cell
  have hf := h.blk.free
  have hlt := h.blk.lt
  unfold drcells at hc
  rw [hp] at hc
  obtain ⟨va2, vc2, rfl⟩ := hq.own.form
  have hcw := hq.blk.cell
  have hge : ¬ (ws.length : Int) < 3 + C.threads + 3 * C.cells := by omega
  have H := Lib.hid h
  have HQ := Lib.hid hq
  have HP := Lib.hid hp
  simp only [ptr] at *
  clear h hq hp
  go_enter Tryz.func29, Tryz.ntmps29
  go_wp2
  go_quiet (fail)
  obtain ⟨k0, b0⟩ := (H.out.keep ((Mv.refl ro [] w).drewN nq) (by simp)).put (d' := d.more) 17 (.int .i64 (d.steps + 1)) rfl
  have K0 := Lib.hid k0
  have M0 := Lib.hid (show Mv ro [r, r + 4, r + 8] w ro _ from ((Mv.refl ro [r, r + 4, r + 8] w).drewN nq).trans (b0.mono (by simp)))
  have Q0 := Lib.hid ((HQ.out.keep ((Mv.refl ro [] w).drewN nq) (by simp) (by simp)).keep b0 (by simp; omega) (by simp; omega))
  clear k0 b0
  have RW := Lib.hid (rread_walk K0.out Q0.out hrr hC u0 u3 hcl hc1 hl n0 n1 hst hrl hwt)
  go_wp2_with (go_at_call 74; refine RW.out.mono ?_; rintro e w1 ⟨rfl, ro1, p1, h1, q1, m1⟩; have H1 := Lib.hid h1; have Q1 := Lib.hid q1; have M1 := Lib.hid ((M0.out.mono (R' := dS r rw) (by simp [dS])).trans m1); clear h1 q1 m1)
  go_ret2
  exact ⟨rfl, ro1, p1, H1.out, Q1.out, M1.out⟩
set_option maxRecDepth 100000 in
set_option maxHeartbeats 4000000 in
theorem dstep_over {ro : Nat → Nat} {r rw : Nat} {w : World} {B C th tag vc args d M va p WB v2 ws cnt} {m : Ms} (h : DRI ro r w B C th tag vc args d m M va p) (hq : WrdIs ro rw w WB v2 ws cnt) (hC : C.ok) (hl : (ws.length : Int) = 3 + C.threads + 3 * C.cells) (hp : d.part = 4) :
    Calls Tryz.prog 29 #[ptr B, ptr WB] w fun e w' => e = .returned (.tuple #[.bool false, .int .i64 3]) ∧ ∃ q, w' = w.drewN q := by
  have hc := h.blk.cell
  unfold drcells at hc
  rw [hp] at hc
  obtain ⟨va2, vc2, rfl⟩ := hq.own.form
  have hcw := hq.blk.cell
  have hge : ¬ (ws.length : Int) < 3 + C.threads + 3 * C.cells := by omega
  simp only [ptr] at *
  clear h hq hp
  go_enter Tryz.func29, Tryz.ntmps29
  go_wp2
  go_quiet (fail)
  go_wp2
  go_ret2
  exact ⟨rfl, _, rfl⟩
set_option maxRecDepth 100000 in
set_option maxHeartbeats 4000000 in
theorem dstep_f0 {ro : Nat → Nat} {r rw : Nat} {w : World} {B C th tag vc args d M va p WB v2 ws cnt} {m : Ms} (h : DRI ro r w B C th tag vc args d m M va p) (hq : WrdIs ro rw w WB v2 ws cnt) (hrr : r + 9 < rw ∨ rw + 1 < r) (hC : C.ok) (hl : (ws.length : Int) = 3 + C.threads + 3 * C.cells) (n0 : 0 ≤ cnt) (n1 : cnt ≤ 1000000000) (s0 : 0 ≤ d.steps) (s1 : d.steps ≤ 1000000) (hp : d.part = 2) (hcl : d.cell = -1) (code : List Ins) (hcode : ∀ ro' W, Mv ro (dS r rw) w ro' W → RdC W vc code) (hcl2 : m.bad = false → code.length ≤ 1000000) (hWf : Wf C code m) (hF : FixA m) (hA : FitA code m) (hwt : m.wait = none) (hh : m.how = 0) (m1 : Ms) (a : Ask) (hstep : m.step C tag code = (m1, a)) (hk : a.kind ≠ 1) (hm0 : m1.how = 0) :
    Calls Tryz.prog 29 #[ptr B, ptr WB] w (RdP ro r rw w B C th tag vc args d.more m1 M va WB v2 ws cnt (.tuple #[.bool false, .int .i64 0])) := by
  obtain ⟨C1, C2, C3, C4, C5, C6, C7, C8⟩ := id hC
  have hc := h.blk.cell
  have hf := h.blk.free
  have hlt := h.blk.lt
  unfold drcells at hc
  rw [hp] at hc
  obtain ⟨va2, vc2, rfl⟩ := hq.own.form
  have hcw := hq.blk.cell
  have hge : ¬ (ws.length : Int) < 3 + C.threads + 3 * C.cells := by omega
  have H := Lib.hid h
  have HQ := Lib.hid hq
  have HP := Lib.hid hp
  rw [hcl] at hc
  obtain ⟨a1, a2, a3, a4⟩ := a
  have sf := run_store_float
  have hk' : ¬ a1 = 1 := hk
  have hm0' : m1.dm.how = 0 := hm0
  simp only [ptr] at *
  clear h hq hp hcl
  go_enter Tryz.func29, Tryz.ntmps29
  go_wp2
  go_quiet (fail)
  obtain ⟨k0, b0⟩ := (H.out.keep ((Mv.refl ro [] w).drewN nq) (by simp)).put (d' := d.more) 17 (.int .i64 (d.steps + 1)) rfl
  have K0 := Lib.hid k0
  have M0 := Lib.hid (show Mv ro [r, r + 4, r + 8] w ro _ from ((Mv.refl ro [r, r + 4, r + 8] w).drewN nq).trans (b0.mono (by simp)))
  have Q0 := Lib.hid ((HQ.out.keep ((Mv.refl ro [] w).drewN nq) (by simp) (by simp)).keep b0 (by simp; omega) (by simp; omega))
  clear k0 b0
  have DSW := Lib.hid (dstep_walk K0.out.mach hC (hcode _ _ (M0.out.mono (by simp [dS]))) hcl2 hWf hF hA hwt hh)
  simp only [hstep, Ask.v, ptr] at DSW
  go_wp2_with (go_at_call 75; refine DSW.out.mono ?_; rintro e w1 ⟨rfl, ro1, p1, h1, mv1⟩; have k1 := K0.out.mach' mv1 h1; have hc1 := k1.blk.cell; have hf1 := k1.blk.free; have hlt1 := k1.blk.lt; have hm1 := h1.blk.cell; have hlm1 := h1.blk.lt; have hneM : M ≠ B := (by have := h1.blk.ne k1.blk (by omega); exact this); have hneM' := hneM.symm; unfold drcells at hc1; unfold ptr at hc1; unfold dcells at hm1; rw [hm0'] at hm1; have K1 := Lib.hid k1; have M1 := Lib.hid ((M0.out.mono (R' := dS r rw) (by simp [dS])).trans (mv1.mono (by simp [dS]))); have Q1 := Lib.hid (Q0.out.keep mv1 (by simp; omega) (by simp; omega)); clear k1 h1 mv1)
  go_ret2
  have ma := (Mv.refl ro1 [] w1).alloc (.cells #[.int .i64 a1, .int .i64 a2, .float .f64 a3, .bool a4] 139)
  exact ⟨rfl, ro1, p1, K1.out.keep ma (by simp), Q1.out.keep ma (by simp) (by simp), M1.out.alloc _⟩
set_option maxRecDepth 100000 in
set_option maxHeartbeats 4000000 in
theorem dstep_f3 {ro : Nat → Nat} {r rw : Nat} {w : World} {B C th tag vc args d M va p WB v2 ws cnt} {m : Ms} (h : DRI ro r w B C th tag vc args d m M va p) (hq : WrdIs ro rw w WB v2 ws cnt) (hrr : r + 9 < rw ∨ rw + 1 < r) (hC : C.ok) (hl : (ws.length : Int) = 3 + C.threads + 3 * C.cells) (n0 : 0 ≤ cnt) (n1 : cnt ≤ 1000000000) (s0 : 0 ≤ d.steps) (s1 : d.steps ≤ 1000000) (hp : d.part = 2) (hcl : d.cell = -1) (code : List Ins) (hcode : ∀ ro' W, Mv ro (dS r rw) w ro' W → RdC W vc code) (hcl2 : m.bad = false → code.length ≤ 1000000) (hWf : Wf C code m) (hF : FixA m) (hA : FitA code m) (hwt : m.wait = none) (hh : m.how = 0) (m1 : Ms) (a : Ask) (hstep : m.step C tag code = (m1, a)) (hk : a.kind ≠ 1) (hm0 : m1.how ≠ 0) :
    Calls Tryz.prog 29 #[ptr B, ptr WB] w (RdP ro r rw w B C th tag vc args { d.more with part := 3 } m1 M va WB v2 ws cnt (.tuple #[.bool false, .int .i64 0])) := by
  obtain ⟨C1, C2, C3, C4, C5, C6, C7, C8⟩ := id hC
  have hc := h.blk.cell
  have hf := h.blk.free
  have hlt := h.blk.lt
  unfold drcells at hc
  rw [hp] at hc
  obtain ⟨va2, vc2, rfl⟩ := hq.own.form
  have hcw := hq.blk.cell
  have hge : ¬ (ws.length : Int) < 3 + C.threads + 3 * C.cells := by omega
  have H := Lib.hid h
  have HQ := Lib.hid hq
  have HP := Lib.hid hp
  rw [hcl] at hc
  obtain ⟨a1, a2, a3, a4⟩ := a
  have sf := run_store_float
  have hk' : ¬ a1 = 1 := hk
  have hm0' : ¬ m1.dm.how = 0 := hm0
  simp only [ptr] at *
  clear h hq hp hcl
  go_enter Tryz.func29, Tryz.ntmps29
  go_wp2
  go_quiet (fail)
  obtain ⟨k0, b0⟩ := (H.out.keep ((Mv.refl ro [] w).drewN nq) (by simp)).put (d' := d.more) 17 (.int .i64 (d.steps + 1)) rfl
  have K0 := Lib.hid k0
  have M0 := Lib.hid (show Mv ro [r, r + 4, r + 8] w ro _ from ((Mv.refl ro [r, r + 4, r + 8] w).drewN nq).trans (b0.mono (by simp)))
  have Q0 := Lib.hid ((HQ.out.keep ((Mv.refl ro [] w).drewN nq) (by simp) (by simp)).keep b0 (by simp; omega) (by simp; omega))
  clear k0 b0
  have DSW := Lib.hid (dstep_walk K0.out.mach hC (hcode _ _ (M0.out.mono (by simp [dS]))) hcl2 hWf hF hA hwt hh)
  simp only [hstep, Ask.v, ptr] at DSW
  go_wp2_with (go_at_call 75; refine DSW.out.mono ?_; rintro e w1 ⟨rfl, ro1, p1, h1, mv1⟩; have k1 := K0.out.mach' mv1 h1; have hc1 := k1.blk.cell; have hf1 := k1.blk.free; have hlt1 := k1.blk.lt; have hm1 := h1.blk.cell; have hlm1 := h1.blk.lt; have hneM : M ≠ B := (by have := h1.blk.ne k1.blk (by omega); exact this); have hneM' := hneM.symm; unfold drcells at hc1; unfold ptr at hc1; unfold dcells at hm1; have K1 := Lib.hid k1; have M1 := Lib.hid ((M0.out.mono (R' := dS r rw) (by simp [dS])).trans (mv1.mono (by simp [dS]))); have Q1 := Lib.hid (Q0.out.keep mv1 (by simp; omega) (by simp; omega)); clear k1 h1 mv1)
  go_ret2
  obtain ⟨k2, b2⟩ := K1.out.put (d' := { d.more with part := 3 }) 10 (.int .i64 3) rfl
  have ma := (Mv.refl ro1 [] (w1.setCell ⟨B, 10, none⟩ (.int .i64 3))).alloc (.cells #[.int .i64 a1, .int .i64 a2, .float .f64 a3, .bool a4] 139)
  exact ⟨rfl, ro1, p1, k2.keep ma (by simp), (Q1.out.keep b2 (by simp; omega) (by simp; omega)).keep ma (by simp) (by simp), (M1.out.trans (b2.mono (by simp [dS]))).alloc _⟩
set_option maxRecDepth 100000 in
set_option maxHeartbeats 4000000 in
theorem dstep_f1 {ro : Nat → Nat} {r rw : Nat} {w : World} {B C th tag vc args d M va p WB v2 ws cnt} {m : Ms} (h : DRI ro r w B C th tag vc args d m M va p) (hq : WrdIs ro rw w WB v2 ws cnt) (hrr : r + 9 < rw ∨ rw + 1 < r) (hC : C.ok) (hl : (ws.length : Int) = 3 + C.threads + 3 * C.cells) (n0 : 0 ≤ cnt) (n1 : cnt ≤ 1000000000) (s0 : 0 ≤ d.steps) (s1 : d.steps ≤ 1000000) (hp : d.part = 2) (hcl : d.cell = -1) (code : List Ins) (hcode : ∀ ro' W, Mv ro (dS r rw) w ro' W → RdC W vc code) (hcl2 : m.bad = false → code.length ≤ 1000000) (hWf : Wf C code m) (hF : FixA m) (hA : FitA code m) (hwt : m.wait = none) (hh : m.how = 0) (m1 : Ms) (a : Ask) (hstep : m.step C tag code = (m1, a)) (hk : a.kind = 1) (hca : 0 ≤ a.cell) (hcb : a.cell < C.cells) (hst : m1.stack.length ≤ 63) (hrl : m1.reads.length ≤ 4096) (hw1 : m1.wait = some a.cell) (hm0 : (({ d.more with cell := a.cell, sub := 0 } : Dr).read C ws m1).2.how = 0) :
    Calls Tryz.prog 29 #[ptr B, ptr WB] w (RdP ro r rw w B C th tag vc args (({ d.more with cell := a.cell, sub := 0 } : Dr).read C ws m1).1 (({ d.more with cell := a.cell, sub := 0 } : Dr).read C ws m1).2 M va WB v2 ws (cnt + 1) (.tuple #[.bool false, .int .i64 0])) := by
  obtain ⟨C1, C2, C3, C4, C5, C6, C7, C8⟩ := id hC
  have hc := h.blk.cell
  have hf := h.blk.free
  have hlt := h.blk.lt
  unfold drcells at hc
  rw [hp] at hc
  obtain ⟨va2, vc2, rfl⟩ := hq.own.form
  have hcw := hq.blk.cell
  have hge : ¬ (ws.length : Int) < 3 + C.threads + 3 * C.cells := by omega
  have H := Lib.hid h
  have HQ := Lib.hid hq
  have HP := Lib.hid hp
  rw [hcl] at hc
  obtain ⟨a1, a2, a3, a4⟩ := a
  have sf := run_store_float
  have hk' : a1 = 1 := hk
  subst hk'
  have HM0 := Lib.hid (show ((({ d.more with cell := a2, sub := 0 } : Dr).read C ws m1).2).dm.how = 0 from hm0)
  clear hm0
  simp only [ptr] at *
  clear h hq hp hcl
  go_enter Tryz.func29, Tryz.ntmps29
  go_wp2
  go_quiet (fail)
  obtain ⟨k0, b0⟩ := (H.out.keep ((Mv.refl ro [] w).drewN nq) (by simp)).put (d' := d.more) 17 (.int .i64 (d.steps + 1)) rfl
  have K0 := Lib.hid k0
  have M0 := Lib.hid (show Mv ro [r, r + 4, r + 8] w ro _ from ((Mv.refl ro [r, r + 4, r + 8] w).drewN nq).trans (b0.mono (by simp)))
  have Q0 := Lib.hid ((HQ.out.keep ((Mv.refl ro [] w).drewN nq) (by simp) (by simp)).keep b0 (by simp; omega) (by simp; omega))
  clear k0 b0
  have DSW := Lib.hid (dstep_walk K0.out.mach hC (hcode _ _ (M0.out.mono (by simp [dS]))) hcl2 hWf hF hA hwt hh)
  simp only [hstep, Ask.v, ptr] at DSW
  go_wp2_with (first | (go_at_call 75; refine DSW.out.mono ?_; rintro e w1 ⟨rfl, ro1, p1, h1, mv1⟩; have k1 := K0.out.mach' mv1 h1; have hc1 := k1.blk.cell; have hf1 := k1.blk.free; have hlt1 := k1.blk.lt; have hm1 := h1.blk.cell; have hlm1 := h1.blk.lt; have hneM : M ≠ B := (by have := h1.blk.ne k1.blk (by omega); exact this); have hneM' := hneM.symm; unfold drcells at hc1; unfold ptr at hc1; unfold dcells at hm1; have K1 := Lib.hid k1; have M1 := Lib.hid ((M0.out.mono (R' := dS r rw) (by simp [dS])).trans (mv1.mono (by simp [dS]))); have q1 := Q0.out.keep mv1 (by simp; omega) (by simp; omega); obtain ⟨k2, b2⟩ := k1.put (d' := { d.more with cell := a2 }) 14 (.int .i64 a2) rfl; obtain ⟨k3, b3⟩ := k2.put (d' := { d.more with cell := a2, sub := 0 }) 11 (.int .i64 0) rfl; have ma : Mv ro1 [] ((w1.setCell ⟨B, 14, none⟩ (.int .i64 a2)).setCell ⟨B, 11, none⟩ (.int .i64 0)) ro1 (((w1.setCell ⟨B, 14, none⟩ (.int .i64 a2)).setCell ⟨B, 11, none⟩ (.int .i64 0)).alloc (.cells #[.int .i64 1, .int .i64 a2, .float .f64 a3, .bool a4] 139)) := (Mv.refl _ _ _).alloc _; have RW := Lib.hid (rread_walk (k3.keep ma (by simp)) (((q1.keep b2 (by simp; omega) (by simp; omega)).keep b3 (by simp; omega) (by simp; omega)).keep ma (by simp) (by simp)) hrr hC (Int.le_refl 0) (show (0 : Int) ≤ 3 by decide) hca hcb hl n0 n1 hst hrl hw1); have MA := Lib.hid ((((M0.out.mono (R' := dS r rw) (by simp [dS])).trans (mv1.mono (by simp [dS]))).trans (b2.mono (by simp [dS]))).trans (b3.mono (by simp [dS])) |>.trans (ma.mono (by simp))); simp only [ptr] at RW; clear k1 h1 mv1 q1 k2 b2 k3 b3 ma) | (go_at_call 74; refine RW.out.mono ?_; rintro e w5 ⟨rfl, ro5, p5, h5, q5, m5⟩; have hc5 := h5.blk.cell; have hm5 := h5.mach.blk.cell; unfold drcells at hc5; unfold ptr at hc5; unfold dcells at hm5; rw [HM0.out] at hm5; have H5 := Lib.hid h5; have Q5 := Lib.hid q5; have M5 := Lib.hid (MA.out.trans m5); clear h5 q5 m5))
  go_ret2
  exact ⟨rfl, ro5, p5, H5.out, Q5.out, M5.out⟩
end Go.Proofs.YtphaeodcomgffaaGreat
set_option linter.unusedVariables false
set_option linter.unusedSimpArgs false
namespace Go.Proofs.YtphaeodcomgffaaGreat
open Go.RowKit

/-! The document's reader: a step, whole. -/
theorem read_how (C : Cfg) (ws : List Nat) (d : Dr) (m : Ms) : (d.read C ws m).2.how = m.how := by
  unfold Dr.read
  have g : ∀ x, (m.give x).1.how = m.how := fun x => by unfold Ms.give; split <;> rfl
  split
  · rfl
  split
  · rfl
  split
  · split
    · exact g _
    · rfl
  · exact g _
theorem read_part (C : Cfg) (ws : List Nat) (d : Dr) (m : Ms) : (d.read C ws m).1.part = d.part := by
  unfold Dr.read
  split
  · rfl
  split
  · rfl
  split
  · split <;> rfl
  · rfl
theorem rdstep_walk {ro : Nat → Nat} {r rw : Nat} {w : World} {B C th tag vc args d M va p WB v2 ws cnt} {s : Rs} {code : List Ins} (h : DRI ro r w B C th tag vc args d s.m M va p) (hq : WrdIs ro rw w WB v2 ws cnt) (hrr : r + 9 < rw ∨ rw + 1 < r) (hC : C.ok) (hl : (ws.length : Int) = 3 + C.threads + 3 * C.cells) (n0 : 0 ≤ cnt) (n1 : cnt ≤ 1000000000) (s0 : 0 ≤ d.steps) (s1 : d.steps ≤ 1000000) (t0 : 0 ≤ th) (t1 : th < C.threads)
    (hR : Rwf C code s) (hS : Sim C s d) (hp : s.part ≤ 3) (F : FixA s.m) (hcode : ∀ ro' W, Mv ro (dS r rw) w ro' W → RdC W vc code) (hcl : s.m.bad = false → code.length ≤ 1000000) :
    Calls Tryz.prog 29 #[ptr B, ptr WB] w (RdP ro r rw w B C th tag vc args (d.step C tag code th ws s.m).1 (d.step C tag code th ws s.m).2.1 M va WB v2 (d.step C tag code th ws s.m).2.2.1 (if (d.step C tag code th ws s.m).2.2.2 then cnt + 1 else cnt) (.tuple #[.bool ((d.step C tag code th ws s.m).1.part == 4), .int .i64 0])) := by
  have hp1 := hR.part1
  have hdp := hS.part
  have hrl := hR.wf.reads
  have hu := hR.wf.used1
  obtain ⟨_, _, _, _, _, C6, _, _⟩ := id hC
  unfold Dr.step
  rcases (by omega : s.part = 1 ∨ s.part = 3 ∨ s.part = 2) with e | e | e
  · have e0 : d.part = 1 := hdp.trans e
    obtain ⟨e1, e2⟩ := hS.sub e
    have k0 := hR.n0
    have k2 := (hR.n1 e).1
    simp only [if_pos e0]
    rcases (by omega : d.sub = 0 ∨ d.sub = 1 ∨ d.sub = 2) with k | k | k
    · simp only [if_pos k, if_true]
      rw [show (({ d.more with claim := ws.getD 2 0, sub := 1 } : Dr).part == 4) = false by show (d.part == 4) = false; rw [e0]; rfl]
      exact dstep_a h hq hrr hC hl n0 n1 s0 s1 e0 k
    · have k' : ¬ d.sub = 0 := by omega
      simp only [if_neg k', if_pos k, if_true]
      rw [show (({ d.more with sub := 2 } : Dr).part == 4) = false by show (d.part == 4) = false; rw [e0]; rfl]
      exact dstep_b h hq hrr hC hl n0 n1 s0 s1 e0 k t0 t1
    · have k' : ¬ d.sub = 0 := by omega
      have k'' : ¬ d.sub = 1 := by omega
      simp only [if_neg k', if_neg k'', if_true]
      exact dstep_c h hq hrr hC hl n0 n1 s0 s1 e0 k
  · have e0 : d.part = 3 := hdp.trans e
    have e1 : ¬ d.part = 1 := by omega
    simp only [if_neg e1, if_pos e0, if_true]
    exact dstep_d h hq hrr hC hl n0 n1 s0 s1 e0 t0 t1
  · have e0 : d.part = 2 := hdp.trans e
    have e1 : ¬ d.part = 1 := by omega
    have e3 : ¬ d.part = 3 := by omega
    simp only [if_neg e1, if_neg e3]
    have hpart : ∀ (d' : Dr) (m' : Ms), d'.part = 2 → ((d'.read C ws m').1.part == 4) = false := fun d' m' hd => by rw [read_part, hd]; rfl
    rcases hg : s.read with _ | g
    · have hr0 : d.cell = -1 := by have := hS.read; rw [hg] at this; exact this
      have hc0 : ¬ 0 ≤ d.cell := by omega
      have hw := hR.idle hg
      have hh := hR.how (by omega)
      have ST := step_to (C := C) (code := code) (tag := tag) hw
      have W1 := step_wf (C := C) (code := code) (tag := tag) hR.wf
      simp only [if_neg hc0]
      obtain ⟨m1, a, hst⟩ : ∃ m1 a, s.m.step C tag code = (m1, a) := ⟨_, _, rfl⟩
      rw [hst] at ST W1
      simp only [hst]
      by_cases hk : a.kind = 1
      · rcases ST with ⟨k, _⟩ | ⟨_, k1, _, k3⟩ | ⟨_, k, _⟩
        · exact absurd (hk.symm.trans k) (by decide)
        · simp only [if_pos hk, if_true]
          obtain ⟨q1, q2, q3, q4⟩ := W1.wait a.cell k1
          have hu2 : m1.used ≤ C.fuel := W1.used1
          have hrl2 : (m1.reads.length : Int) ≤ m1.used := W1.reads
          rw [hpart ({ d.more with cell := a.cell, sub := 0 } : Dr) m1 e0]
          exact dstep_f1 h hq hrr hC hl n0 n1 s0 s1 e0 hr0 code hcode hcl hR.wf F hR.fit hw hh m1 a hst hk q1 q2 q3 (by omega) k1 (by rw [read_how]; exact k3.trans hh)
        · exact absurd hk k
      · simp only [if_neg hk]
        by_cases hm : m1.how = 0
        · simp only [if_pos hm, Bool.false_eq_true, if_false]
          rw [show (d.more.part == 4) = false by show (d.part == 4) = false; rw [e0]; rfl]
          exact dstep_f0 h hq hrr hC hl n0 n1 s0 s1 e0 hr0 code hcode hcl hR.wf F hR.fit hw hh m1 a hst hk hm
        · simp only [if_neg hm, Bool.false_eq_true, if_false]
          exact dstep_f3 h hq hrr hC hl n0 n1 s0 s1 e0 hr0 code hcode hcl hR.wf F hR.fit hw hh m1 a hst hk hm
    · have hrd := hS.read
      rw [hg] at hrd
      obtain ⟨g1, g2, g3, g4⟩ := hR.read g hg
      obtain ⟨q1, q2, q3, q4⟩ := hR.wf.wait g.cell g2
      have hc0 : 0 ≤ d.cell := by rw [hrd.1]; exact q1
      have p0 := g3.part0
      have p3 := g3.part3
      simp only [if_pos hc0, if_true]
      rw [hpart d.more s.m e0]
      exact dstep_e h hq hrr hC hl n0 n1 s0 s1 e0 hc0 (by rw [hrd.1]; exact q2) (by rw [hrd.2.1]; exact p0) (by rw [hrd.2.1]; exact p3) q3 (by omega) (by rw [g2, hrd.1])
end Go.Proofs.YtphaeodcomgffaaGreat
set_option linter.unusedVariables false
set_option linter.unusedSimpArgs false
namespace Go.Proofs.YtphaeodcomgffaaGreat
open Go.RowKit

/-! Is a stamp beyond what anything is promised of? -/
def greatS (d : Dr) : Bool := decide (4611686018427387904 < d.stamp) || decide (4611686018427387904 < d.claim)
set_option maxRecDepth 100000 in
set_option maxHeartbeats 1000000 in
theorem great_walk {ro : Nat → Nat} {r : Nat} {w : World} {B C th tag vc args d M va p} {m : Ms} (h : DRI ro r w B C th tag vc args d m M va p) :
    Calls Tryz.prog 30 #[ptr B] w fun e w' => e = .returned (.bool (greatS d)) ∧ ∃ q, w' = w.drewN q := by
  unfold greatS
  have hc := h.blk.cell
  unfold drcells at hc
  simp only [ptr] at *
  clear h
  by_cases h1 : 4611686018427387904 < d.stamp
  · have h1' : (4611686018427387904 : Int) < d.stamp := by omega
    rw [decide_eq_true h1, Bool.true_or]
    go_enter Tryz.func30, Tryz.ntmps30
    go_wp2
    go_ret
    exact ⟨rfl, 0, rfl⟩
  · have h1' : ¬ (4611686018427387904 : Int) < d.stamp := by omega
    rw [decide_eq_false h1, Bool.false_or]
    by_cases h2 : 4611686018427387904 < d.claim
    · have h2' : (4611686018427387904 : Int) < d.claim := by omega
      rw [decide_eq_true h2]
      go_enter Tryz.func30, Tryz.ntmps30
      go_wp2
      go_ret
      exact ⟨rfl, 0, rfl⟩
    · have h2' : ¬ (4611686018427387904 : Int) < d.claim := by omega
      rw [decide_eq_false h2]
      go_enter Tryz.func30, Tryz.ntmps30
      go_wp2
      go_ret
      exact ⟨rfl, 0, rfl⟩
end Go.Proofs.YtphaeodcomgffaaGreat
