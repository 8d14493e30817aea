import Derived.Test.YtphaeodcomgffaaGreatVG
import Derived.Test.YtphaeodcomgffaaGreatEE
import Derived.Deep.QuietTactic
import Derived.Deep.RegionHeldLaw
set_option linter.unusedVariables false
set_option linter.unusedSimpArgs false
namespace Go.Proofs.YtphaeodcomgffaaGreat
open Go.RowKit

/-! The writer writes its cells. -/
theorem wstep_any {ro : Nat → Nat} {r a : Nat} {w : World} {C : Cfg} {B MB : Nat} {b : Wb} {v : Value} {words : List Nat} {cnt : Int} (hC : C.ok) (hb : Blk ro a w B (wbC C b) 202) (hm : MemIs ro r w MB v words true cnt) (ha : a < r ∨ r + 1 < a) (h0 : 0 ≤ b.cell) (h1 : b.cell < C.cells) (hn0 : 0 ≤ b.n) (hn2 : b.n ≤ 2) (hl : (words.length : Int) = 3 + C.threads + 3 * C.cells) (c0 : 0 ≤ cnt) (c1 : cnt ≤ 1000000000) :
    Calls Tryz.prog 196 #[ptr B, ptr MB] w (Wbd ro r a w C B { b with n := b.n + 1 } MB v (words.set (C.cellAt b.cell b.which) b.word) cnt (b.n == 2)) := by
  obtain ⟨cell, x0, x1, x2, n⟩ := b
  simp only at h0 h1 hn0 hn2
  rcases (by omega : n = 0 ∨ n = 1 ∨ n = 2) with rfl | rfl | rfl
  · exact wstep_0 hC hb hm ha h0 h1 hl c0 c1
  · exact wstep_1 hC hb hm ha h0 h1 hl c0 c1
  · exact wstep_2 hC hb hm ha h0 h1 hl c0 c1
/-- The writing of the cell turned. -/
theorem WIs.put1 {ro : Nat → Nat} {r : Nat} {w w' : World} {X C tag code args s q R} {b0 b : Wb} (h : WIs ro r w X C tag code args s q) (hb0 : s.back = some b0) (mv : Mv ro R w ro w') (hR : ∀ x ∈ R, x = r + 22 ∨ x < r ∨ r + 24 < x) (hb : Blk ro (r + 22) w' q.BB (wbC C b) 202) : WIs ro r w' X C tag code args ({ s with back := some b } : Wr) q := by
  have k : ∀ i, i ≤ 24 → i ≠ 22 → r + i ∉ R := fun i hi hn hx => by have := hR _ hx; omega
  have hbx := h.blk.keep mv (k 20 (by omega) (by omega))
  refine ⟨?_, h.mach.keep mv fun x hx => by have := hR x hx; omega, fun g hg => (h.scan g hg).keep mv (k 21 (by omega) (by omega)), fun b' hb' => ?_, h.args.keep mv (k 23 (by omega) (by omega)), h.was.keep mv (k 24 (by omega) (by omega))⟩
  · unfold wcells at hbx ⊢
    rw [hb0] at hbx
    exact hbx
  · obtain rfl : b = b' := by simpa using hb'
    exact hb
/-- The cell is written: on to the next. -/
theorem WIs.put2 {ro : Nat → Nat} {r : Nat} {w : World} {X C tag code args s q} {n : Int} (h : WIs ro r w X C tag code args s q) :
    WIs ro r ((w.setCell ⟨X, 18, none⟩ (.pointer none)).setCell ⟨X, 19, none⟩ (.int .i64 n)) X C tag code args ({ s with back := none, written := n } : Wr) q ∧ Mv ro [r + 20] w ro ((w.setCell ⟨X, 18, none⟩ (.pointer none)).setCell ⟨X, 19, none⟩ (.int .i64 n)) := by
  have hX : ro X ∈ [r + 20] := by rw [h.blk.role]; simp
  have mX : Mv ro [r + 20] w ro ((w.setCell ⟨X, 18, none⟩ (.pointer none)).setCell ⟨X, 19, none⟩ (.int .i64 n)) := ((Mv.refl _ _ _).setCell (p := ⟨X, 18, none⟩) hX _).setCell (p := ⟨X, 19, none⟩) hX _
  have hb : ∀ b, ({ s with back := none, written := n } : Wr).back = some b → Blk ro (r + 22) ((w.setCell ⟨X, 18, none⟩ (.pointer none)).setCell ⟨X, 19, none⟩ (.int .i64 n)) q.BB (wbC C b) 202 := fun b hb => by cases hb
  exact ⟨⟨(h.blk.put (i := 18) rfl).put (i := 19) rfl, h.mach.keep mX (by simp), fun g hg => (h.scan g hg).keep mX (by simp), hb, h.args.keep mX (by simp), h.was.keep mX (by simp)⟩, mX⟩
/-- The writing of a cell, begun. -/
theorem WIs.back0 {ro : Nat → Nat} {r : Nat} {w : World} {X C tag code args s q BB} {b : Wb} (h : WIs ro r w X C tag code args s q) (hb : Blk ro (r + 22) w BB (wbC C b) 202) :
    WIs ro r (w.setCell ⟨X, 18, none⟩ (.pointer (some ⟨BB, 0, none⟩))) X C tag code args ({ s with back := some b } : Wr) { q with BB := BB } ∧ Mv ro [r + 20] w ro (w.setCell ⟨X, 18, none⟩ (.pointer (some ⟨BB, 0, none⟩))) := by
  have mX : Mv ro [r + 20] w ro (w.setCell ⟨X, 18, none⟩ (.pointer (some ⟨BB, 0, none⟩))) := (Mv.refl _ _ _).setCell (p := ⟨X, 18, none⟩) (by show ro X ∈ _; rw [h.blk.role]; simp) _
  have hk : ∀ b', ({ s with back := some b } : Wr).back = some b' → Blk ro (r + 22) (w.setCell ⟨X, 18, none⟩ (.pointer (some ⟨BB, 0, none⟩))) BB (wbC C b') 202 := fun b' hb' => by
    obtain rfl : b = b' := by simpa using hb'
    exact hb.keep mX (by simp)
  exact ⟨⟨h.blk.put (i := 18) rfl, h.mach.keep mX (by simp), fun g hg => (h.scan g hg).keep mX (by simp), hk, h.args.keep mX (by simp), h.was.keep mX (by simp)⟩, mX⟩
set_option maxRecDepth 100000 in
set_option maxHeartbeats 4000000 in
/-- A step of the writing of a cell. -/
theorem wb_goes {ro : Nat → Nat} {r rm : Nat} {w : World} {X : Nat} {C : Cfg} {tag : Int} {code : List Ins} {args : List Nat} {s : Wr} {q : Wp} {MB : Nat} {v : Value} {words : List Nat} {cnt : Int} (hC : C.ok) (h : WIs ro r w X C tag code args s q) (hm : MemIs ro rm w MB v words true cnt) (hrm : rm + 1 < r ∨ r + 31 < rm) (hl : (words.length : Int) = 3 + C.threads + 3 * C.cells) (c0 : 0 ≤ cnt) (c1 : cnt ≤ 1000000000) (hwr0 : 0 ≤ s.written) (hwr : s.written < s.was.length) (hwl : s.was.length ≤ 64) (b : Wb) (hb : s.back = some b) (hb0 : 0 ≤ b.cell) (hb1 : b.cell < C.cells) (hn0 : 0 ≤ b.n) (hn2 : b.n ≤ 1) :
    Calls Tryz.prog 153 #[ptr X, ptr MB] w (WrP ro r rm w X C tag code args ({ s with back := some { b with n := b.n + 1 } } : Wr) MB v (words.set (C.cellAt b.cell b.which) b.word) false (cnt + 1) (.tuple #[])) := by
  have hc := h.blk.cell
  have hbb := h.back b hb
  obtain ⟨pw, cw, hvw⟩ := h.was.form
  have HVW := Lib.hid hvw
  have AW := fun W (mv : Mv ro [] w ro W) => wstep_any hC (hbb.keep mv (by simp)) (hm.keep mv (by simp) (by simp)) (by omega) hb0 hb1 hn0 (by omega) hl c0 c1
  rw [show (b.n == 2) = false by simp; omega] at AW
  unfold Wbd at AW
  generalize words.set (C.cellAt b.cell b.which) b.word = words' at *
  generalize hb' : ({ b with n := b.n + 1 } : Wb) = b' at *
  unfold wcells at hc
  rw [hb] at hc
  simp only [ptr, Option.isSome_some, if_true] at hc AW ⊢
  have H := Lib.hid h
  have HB := Lib.hid hb
  have he' : (s.written == (s.was.length : Int)) = false := by simp; omega
  clear h hm hb hbb hvw hb'
  go_enter Tryz.func153, Tryz.ntmps153
  go_wp2_with (go_at_call 196; refine (AW _ (Mv.refl _ _ _)).mono ?_; rintro e w2 ⟨rfl, b2, q2, m2⟩; have x2 := H.out.put1 HB.out m2 (by intro x hx; simp at hx; omega) b2; have hc2 := x2.blk.cell; have hf2 := x2.blk.free; have hlt2 := x2.blk.lt; unfold wcells at hc2; rw [HVW.out] at hc2; simp only [ptr, Option.isSome_some, if_true] at hc2)
  go_quiet (fail)
  go_wp2
  go_end0
  exact ⟨rfl, ro, q, x2.keep ((Mv.refl ro [] w2).drewN nq) (by simp), q2.keep ((Mv.refl ro [] w2).drewN nq) (by simp) (by simp), (m2.mono (by simp [wR])).drewN nq⟩
set_option maxRecDepth 100000 in
set_option maxHeartbeats 4000000 in
/-- A step of the writing of a cell. -/
theorem wb_next {ro : Nat → Nat} {r rm : Nat} {w : World} {X : Nat} {C : Cfg} {tag : Int} {code : List Ins} {args : List Nat} {s : Wr} {q : Wp} {MB : Nat} {v : Value} {words : List Nat} {cnt : Int} (hC : C.ok) (h : WIs ro r w X C tag code args s q) (hm : MemIs ro rm w MB v words true cnt) (hrm : rm + 1 < r ∨ r + 31 < rm) (hl : (words.length : Int) = 3 + C.threads + 3 * C.cells) (c0 : 0 ≤ cnt) (c1 : cnt ≤ 1000000000) (hwr0 : 0 ≤ s.written) (hwr : s.written < s.was.length) (hwl : s.was.length ≤ 64) (b : Wb) (hb : s.back = some b) (hb0 : 0 ≤ b.cell) (hb1 : b.cell < C.cells) (hn0 : 0 ≤ b.n) (hn2 : b.n = 2) (he : s.written + 1 ≠ s.was.length) :
    Calls Tryz.prog 153 #[ptr X, ptr MB] w (WrP ro r rm w X C tag code args ({ s with back := none, written := s.written + 1 } : Wr) MB v (words.set (C.cellAt b.cell b.which) b.word) false (cnt + 1) (.tuple #[])) := by
  have hc := h.blk.cell
  have hbb := h.back b hb
  obtain ⟨pw, cw, hvw⟩ := h.was.form
  have HVW := Lib.hid hvw
  have AW := fun W (mv : Mv ro [] w ro W) => wstep_any hC (hbb.keep mv (by simp)) (hm.keep mv (by simp) (by simp)) (by omega) hb0 hb1 hn0 (by omega) hl c0 c1
  rw [show (b.n == 2) = true by simpa using hn2] at AW
  unfold Wbd at AW
  generalize words.set (C.cellAt b.cell b.which) b.word = words' at *
  generalize hb' : ({ b with n := b.n + 1 } : Wb) = b' at *
  unfold wcells at hc
  rw [hb] at hc
  simp only [ptr, Option.isSome_some, if_true] at hc AW ⊢
  have H := Lib.hid h
  have HB := Lib.hid hb
  have he' : (s.written + 1 == (s.was.length : Int)) = false := by simpa using he
  clear h hm hb hbb hvw hb'
  clear hn2 he
  go_enter Tryz.func153, Tryz.ntmps153
  go_wp2_with (go_at_call 196; refine (AW _ (Mv.refl _ _ _)).mono ?_; rintro e w2 ⟨rfl, b2, q2, m2⟩; have x2 := H.out.put1 HB.out m2 (by intro x hx; simp at hx; omega) b2; have hc2 := x2.blk.cell; have hf2 := x2.blk.free; have hlt2 := x2.blk.lt; unfold wcells at hc2; rw [HVW.out] at hc2; simp only [ptr, Option.isSome_some, if_true] at hc2)
  obtain ⟨x3, m3⟩ := x2.put2 (n := s.written + 1)
  have Q3 := Lib.hid (q2.keep m3 (by simp; omega) (by simp; omega))
  have M3 := Lib.hid m3
  have X3 := Lib.hid x3
  have M2 := Lib.hid m2
  have hc3 := x3.blk.cell
  have hf3 := x3.blk.free
  unfold wcells at hc3
  rw [HVW.out] at hc3
  simp only [ptr, Option.isSome_none, Bool.false_eq_true, if_false] at hc3
  clear hc2 hf2 m2 x2 m3 q2 x3
  generalize (w2.setCell ⟨X, 18, none⟩ (.pointer none)).setCell ⟨X, 19, none⟩ (.int .i64 (s.written + 1)) = w3 at *
  go_quiet (fail)
  go_wp2
  go_end0
  exact ⟨rfl, ro, q, X3.out.keep ((Mv.refl ro [] w3).drewN nq) (by simp), Q3.out.keep ((Mv.refl ro [] w3).drewN nq) (by simp) (by simp), ((M2.out.mono (by simp [wR])).trans (M3.out.mono (by simp [wR]))).drewN nq⟩
set_option maxRecDepth 100000 in
set_option maxHeartbeats 4000000 in
/-- A step of the writing of a cell. -/
theorem wb_last {ro : Nat → Nat} {r rm : Nat} {w : World} {X : Nat} {C : Cfg} {tag : Int} {code : List Ins} {args : List Nat} {s : Wr} {q : Wp} {MB : Nat} {v : Value} {words : List Nat} {cnt : Int} (hC : C.ok) (h : WIs ro r w X C tag code args s q) (hm : MemIs ro rm w MB v words true cnt) (hrm : rm + 1 < r ∨ r + 31 < rm) (hl : (words.length : Int) = 3 + C.threads + 3 * C.cells) (c0 : 0 ≤ cnt) (c1 : cnt ≤ 1000000000) (hwr0 : 0 ≤ s.written) (hwr : s.written < s.was.length) (hwl : s.was.length ≤ 64) (b : Wb) (hb : s.back = some b) (hb0 : 0 ≤ b.cell) (hb1 : b.cell < C.cells) (hn0 : 0 ≤ b.n) (hn2 : b.n = 2) (he : s.written + 1 = s.was.length) :
    Calls Tryz.prog 153 #[ptr X, ptr MB] w (WrP ro r rm w X C tag code args ({ s with back := none, written := s.written + 1, part := 7 } : Wr) MB v (words.set (C.cellAt b.cell b.which) b.word) false (cnt + 1) (.tuple #[])) := by
  have hc := h.blk.cell
  have hbb := h.back b hb
  obtain ⟨pw, cw, hvw⟩ := h.was.form
  have HVW := Lib.hid hvw
  have AW := fun W (mv : Mv ro [] w ro W) => wstep_any hC (hbb.keep mv (by simp)) (hm.keep mv (by simp) (by simp)) (by omega) hb0 hb1 hn0 (by omega) hl c0 c1
  rw [show (b.n == 2) = true by simpa using hn2] at AW
  unfold Wbd at AW
  generalize words.set (C.cellAt b.cell b.which) b.word = words' at *
  generalize hb' : ({ b with n := b.n + 1 } : Wb) = b' at *
  unfold wcells at hc
  rw [hb] at hc
  simp only [ptr, Option.isSome_some, if_true] at hc AW ⊢
  have H := Lib.hid h
  have HB := Lib.hid hb
  have he' : (s.written + 1 == (s.was.length : Int)) = true := by simpa using he
  have GW := fun ro' W (b : Blk ro' (r + 20) W X (wcells C tag ({ s with back := none, written := s.written + 1 } : Wr) q) 152) => goes_walk b 7 (by decide)
  unfold wcells at GW
  simp only [ptr] at GW
  clear h hm hb hbb hvw hb'
  clear hn2 he
  go_enter Tryz.func153, Tryz.ntmps153
  go_wp2_with (go_at_call 196; refine (AW _ (Mv.refl _ _ _)).mono ?_; rintro e w2 ⟨rfl, b2, q2, m2⟩; have x2 := H.out.put1 HB.out m2 (by intro x hx; simp at hx; omega) b2; have hc2 := x2.blk.cell; have hf2 := x2.blk.free; have hlt2 := x2.blk.lt; unfold wcells at hc2; rw [HVW.out] at hc2; simp only [ptr, Option.isSome_some, if_true] at hc2)
  obtain ⟨x3, m3⟩ := x2.put2 (n := s.written + 1)
  have Q3 := Lib.hid (q2.keep m3 (by simp; omega) (by simp; omega))
  have M3 := Lib.hid m3
  have X3 := Lib.hid x3
  have M2 := Lib.hid m2
  have hc3 := x3.blk.cell
  have hf3 := x3.blk.free
  unfold wcells at hc3
  rw [HVW.out] at hc3
  simp only [ptr, Option.isSome_none, Bool.false_eq_true, if_false] at hc3
  clear hc2 hf2 m2 x2 m3 q2 x3
  generalize (w2.setCell ⟨X, 18, none⟩ (.pointer none)).setCell ⟨X, 19, none⟩ (.int .i64 (s.written + 1)) = w3 at *
  go_quiet (fail)
  go_wp2_with (go_at_call 117; refine (GW ro _ (X3.out.blk.keep ((Mv.refl ro [] w3).drewN nq) (by simp))).mono ?_; rintro e w4 ⟨rfl, x4, m4⟩)
  go_end0
  have m34 : Mv ro [r + 20] w3 ro w4 := ((Mv.refl ro [r + 20] w3).drewN nq).trans m4
  exact ⟨rfl, ro, q, X3.out.cells m34 x4 rfl (fun g hg => ⟨hg, rfl⟩) (fun g hg => hg) rfl, Q3.out.keep m34 (by simp; omega) (by simp; omega), ((M2.out.mono (by simp [wR])).trans (M3.out.mono (by simp [wR]))).trans (m34.mono (by simp [wR]))⟩
end Go.Proofs.YtphaeodcomgffaaGreat
set_option linter.unusedVariables false
set_option linter.unusedSimpArgs false
namespace Go.Proofs.YtphaeodcomgffaaGreat
open Go.RowKit

theorem OwnL.touchAt {ro : Nat → Nat} {r : Nat} {w : World} {E g n c : Nat} {l : List (Int × Nat)} (h : OwnL cT ro r w E 2 (.slice (some ⟨g, 0, none⟩) n c) l) {k : Nat} (hk : k < l.length) {t : Int × Nat} (ht : l[k] = t) : w.cell? ⟨g, k * 2, none⟩ = some (.int .i64 t.1) ∧ w.cell? ⟨g, k * 2 + 1, none⟩ = some (.float .f64 t.2) := by
  obtain ⟨b, off, c', e, -, hc⟩ := (h.rd cT_len).blk (by rw [List.length_map]; omega)
  have e0 : b = g ∧ off = 0 := by
    simp only [Value.slice.injEq, Option.some.injEq, Addr.mk.injEq] at e
    exact ⟨e.1.1.symm, e.1.2.1.symm⟩
  obtain ⟨rfl, rfl⟩ := e0
  have a0 := hc k 0 (by rw [List.length_map]; exact hk) (by decide)
  have a1 := hc k 1 (by rw [List.length_map]; exact hk) (by decide)
  simp only [List.getD, List.getElem?_map, List.getElem?_eq_getElem hk, Option.map_some, Option.getD_some, cT, List.getElem?_cons_zero, List.getElem?_cons_succ, Nat.add_zero, Nat.zero_add, ht] at a0 a1
  exact ⟨a0, a1⟩
theorem OwnL.at1w {ro : Nat → Nat} {r : Nat} {w : World} {E g c : Nat} {v : Value} {l : List Nat} (h : OwnL cF ro r w E 1 v l) (hv : v = .slice (some ⟨g, 0, none⟩) l.length c) {k : Nat} (hk : k < l.length) {y : Nat} (hy : l[k] = y) : w.cell? ⟨g, k, none⟩ = some (.float .f64 y) := by
  subst hv
  have := h.at1 cF_len hk
  rw [hy] at this
  exact this
set_option maxRecDepth 100000 in
set_option maxHeartbeats 8000000 in
/-- The writing of a cell begins. -/
theorem wb_begin {ro : Nat → Nat} {r rm : Nat} {w : World} {X : Nat} {C : Cfg} {tag : Int} {code : List Ins} {args : List Nat} {s : Wr} {q : Wp} {MB : Nat} {v : Value} {words : List Nat} {cnt : Int} (hC : C.ok) (h : WIs ro r w X C tag code args s q) (hm : MemIs ro rm w MB v words true cnt) (hrm : rm + 1 < r ∨ r + 31 < rm) (hl : (words.length : Int) = 3 + C.threads + 3 * C.cells) (c0 : 0 ≤ cnt) (c1 : cnt ≤ 1000000000) (k : Nat) (hk : s.written = k) (hkw : k < s.was.length) (hwl : s.was.length ≤ 64) (hkm : k < s.m.writes.length) (hml : s.m.writes.length ≤ 64) (hb : s.back = none) (cell : Int) (x y : Nat) (ht : s.m.writes[k]? = some (cell, x)) (hy : s.was[k]? = some y) (hb0 : 0 ≤ cell) (hb1 : cell < C.cells) :
    Calls Tryz.prog 153 #[ptr X, ptr MB] w (WrP ro r rm w X C tag code args ({ s with back := some ⟨cell, fx y, inc64 s.stamp, fx x, 1⟩ } : Wr) MB v (words.set (C.cellAt cell 2) (fx y)) false (cnt + 1) (.tuple #[])) := by
  have hc := h.blk.cell
  have htx : s.m.writes[k] = (cell, x) := by have := ht; rw [List.getElem?_eq_getElem hkm] at this; simpa using this
  have hyx : s.was[k] = y := by have := hy; rw [List.getElem?_eq_getElem hkw] at this; simpa using this
  obtain ⟨gw, cw, hvw, -, -, -⟩ := h.was.pos (by omega)
  have HVW := Lib.hid hvw
  have WW := fun ro' W p' (z : MIs ro' r W q.M C tag code s.m p') => writes_walk (r + 26) z (by omega)
  have NW := fun ro' W => newwrite_walk ro' (r + 22) C cell (inc64 s.stamp) y x W
  have eu : IntKind.u64.wrap ((s.stamp : Int) + 1) = ((inc64 s.stamp : Nat) : Int) := by rw [wrapU]; unfold inc64; omega
  have AW := fun ro' W B (z : Blk ro' (r + 22) W B (wbC C ⟨cell, fx y, inc64 s.stamp, fx x, 0⟩) 202) (z2 : MemIs ro' rm W MB v words true cnt) => wstep_0 hC z z2 (by omega) hb0 hb1 hl c0 c1
  unfold SetRoP at WW
  unfold planV at NW
  unfold Wbd at AW
  generalize words.set (C.cellAt cell 2) (fx y) = words' at *
  generalize fx y = fy at *
  generalize fx x = fxx at *
  generalize inc64 s.stamp = st1 at *
  unfold wcells at hc
  rw [hb, hk, hvw] at hc
  simp only [ptr, Option.isSome_none, Bool.false_eq_true, if_false] at hc WW NW AW ⊢
  have hk0 : (k : Int) < s.m.writes.length := by omega
  have hk1 : (k : Int) < s.was.length := by omega
  have hk2 : ((k : Int) == (s.was.length : Int)) = false := by simp; omega
  have H := Lib.hid h
  have HM := Lib.hid hm
  have HK := Lib.hid hk
  have HB := Lib.hid hb
  have HTX := Lib.hid htx
  have HYX := Lib.hid hyx
  have HKM := Lib.hid hkm
  have HKW := Lib.hid hkw
  have sf := run_store_float
  clear h hm hk hb htx hyx ht hy hvw
  go_enter Tryz.func153, Tryz.ntmps153
  go_wp2
  refine wp_region_noPanic ?_
  refine wp_region_held_drew (S := fun W => (W.cell? ⟨X, 7, none⟩ = some (.pointer (some ⟨q.M, 0, none⟩)) ∧ W.cell? ⟨X, 19, none⟩ = some (.int .i64 k))) (by kernel_rfl) ⟨hc 7, hc 19⟩ (fun hHeld => ?_)
  refine' wpAnyH_take (i := 0) (v := _) rfl (by kernel_rfl) (by kernel_rfl) (by kernel_rfl) (fun _ _ _ h => h) (Or.inl ⟨by kernel_rfl, ?hy29x1⟩) (by assumption) ?rest29x1
  case hy29x1 => (intro w hSw; (try dsimp only at hSw); go_simp; try with_reducible rfl)
  try simp only [Act.put, List.getElem_toArray, List.getElem_cons_succ, List.getElem_cons_zero, List.setIfInBounds_toArray, List.set_cons_zero, List.set_cons_succ]
  refine' wpAnyH_take (i := 1) (v := _) rfl (by kernel_rfl) (by kernel_rfl) (by kernel_rfl) (fun _ _ _ h => h) (Or.inl ⟨by kernel_rfl, ?hy30x2⟩) (by assumption) ?rest30x2
  case hy30x2 => (intro w hSw; (try dsimp only at hSw); go_simp; try with_reducible rfl)
  try simp only [Act.put, List.getElem_toArray, List.getElem_cons_succ, List.getElem_cons_zero, List.setIfInBounds_toArray, List.set_cons_zero, List.set_cons_succ]
  refine' wpAnyH_take (i := 2) (v := _) rfl (by kernel_rfl) (by kernel_rfl) (by kernel_rfl) (fun _ _ _ h => h) (Or.inl ⟨by kernel_rfl, ?hy31x3⟩) (by assumption) ?rest31x3
  case hy31x3 => (intro w hSw; (try dsimp only at hSw); go_simp; try with_reducible rfl)
  try simp only [Act.put, List.getElem_toArray, List.getElem_cons_succ, List.getElem_cons_zero, List.setIfInBounds_toArray, List.set_cons_zero, List.set_cons_succ]
  refine' wpAnyH_take (i := 3) (v := _) rfl (by kernel_rfl) (by kernel_rfl) (by kernel_rfl) (fun _ _ _ h => h) (Or.inl ⟨by kernel_rfl, ?hy32x4⟩) (by assumption) ?rest32x4
  case hy32x4 => (intro w hSw; (try dsimp only at hSw); go_simp; try with_reducible rfl)
  try simp only [Act.put, List.getElem_toArray, List.getElem_cons_succ, List.getElem_cons_zero, List.setIfInBounds_toArray, List.set_cons_zero, List.set_cons_succ]
  refine' wpAnyH_take (i := 5) (v := _) rfl (by kernel_rfl) (by kernel_rfl) (by kernel_rfl) (fun _ _ _ h => h) (Or.inl ⟨by kernel_rfl, ?hy33x5⟩) (by assumption) ?rest33x5
  case hy33x5 => (intro w hSw; (try dsimp only at hSw); go_simp; try with_reducible rfl)
  try simp only [Act.put, List.getElem_toArray, List.getElem_cons_succ, List.getElem_cons_zero, List.setIfInBounds_toArray, List.set_cons_zero, List.set_cons_succ]
  refine' wpAnyH_take (i := 6) (v := _) rfl (by kernel_rfl) (by kernel_rfl) (by kernel_rfl) (fun _ _ _ h => h) (Or.inl ⟨by kernel_rfl, ?hy34x6⟩) (by assumption) ?rest34x6
  case hy34x6 => (intro w hSw; (try dsimp only at hSw); go_simp; try with_reducible rfl)
  try simp only [Act.put, List.getElem_toArray, List.getElem_cons_succ, List.getElem_cons_zero, List.setIfInBounds_toArray, List.set_cons_zero, List.set_cons_succ]
  refine' wpAnyH_take (i := 7) (v := _) rfl (by kernel_rfl) (by kernel_rfl) (by kernel_rfl) (fun _ _ _ h => h) (Or.inl ⟨by kernel_rfl, ?hy35x7⟩) (by assumption) ?rest35x7
  case hy35x7 => (intro w hSw; (try dsimp only at hSw); go_simp; try with_reducible rfl)
  try simp only [Act.put, List.getElem_toArray, List.getElem_cons_succ, List.getElem_cons_zero, List.setIfInBounds_toArray, List.set_cons_zero, List.set_cons_succ]
  refine' wpAnyH_take (i := 8) (v := _) rfl (by kernel_rfl) (by kernel_rfl) (by kernel_rfl) (fun _ _ _ h => h) (Or.inl ⟨by kernel_rfl, ?hy36x8⟩) (by assumption) ?rest36x8
  case hy36x8 => (intro w hSw; (try dsimp only at hSw); go_simp; try with_reducible rfl)
  try simp only [Act.put, List.getElem_toArray, List.getElem_cons_succ, List.getElem_cons_zero, List.setIfInBounds_toArray, List.set_cons_zero, List.set_cons_succ]
  refine wpAnyH_ready (rs := [4, 11]) (by kernel_rfl) (by simp) ?_
  refine AllReadyH.cons rfl (fun K hK => ?_) ?_
  rotate_left
  · refine AllReadyH.cons rfl (fun K hK => ?_) ?_
    rotate_left
    · exact AllReadyH.nil
    go_simp
    have mB : Mv ro [] w (setRo ro w.heap.size (r + 25)) (w.alloc (.cells #[.int .i64 0, .float .f64 0] 76)).drew := (((Mv.refl _ _ _).alloc _).give (Nat.le_refl _)).drew
    have bB : Blk (setRo ro w.heap.size (r + 25)) (r + 25) (w.alloc (.cells #[.int .i64 0, .float .f64 0] 76)).drew w.heap.size #[.int .i64 0, .float .f64 0] 76 := (Blk.new ro (r + 25) w _ _).keep (Mv.refl _ [] _).drew (by simp)
    have xB := H.out.keep mB (by simp)
    generalize setRo ro w.heap.size (r + 25) = roB at *
    generalize (w.alloc (.cells #[.int .i64 0, .float .f64 0] 76)).drew = wB at *
    try dsimp only
    refine hK.out _ _ ⟨by have := (xB).blk.cell 7; unfold wcells at this; simpa [ptr] using this, by have := (xB).blk.cell 19; unfold wcells at this; rw [HK.out] at this; simpa using this⟩ (fun hHeld => ?_)
    clear hK K
    refine wpAnyH_ready (rs := [4]) (by kernel_rfl) (by simp) ?_
    refine AllReadyH.cons rfl (fun K hK => ?_) ?_
    rotate_left
    · exact AllReadyH.nil
    go_simp
    go_at_call 79
    refine (WW roB _ _ ((xB).mach.keep0 (Mv.refl roB [] wB))).mono ?_
    rintro e w5 ⟨v5, ro5, rfl, o5, m5⟩
    have m5d := ((Mv.refl roB [] wB)).trans m5
    obtain ⟨g5, c5, ev5, -, -, -⟩ := o5.pos (by have := HKM.out; omega)
    subst ev5
    obtain ⟨hz0, hz1⟩ := o5.touchAt HKM.out HTX.out
    have x5 := (xB).keep m5d (by simp)
    try dsimp only
    refine hK.out _ _ ⟨by have := (x5).blk.cell 7; unfold wcells at this; simpa [ptr] using this, by have := (x5).blk.cell 19; unfold wcells at this; rw [HK.out] at this; simpa using this⟩ (fun hHeld => ?_)
    clear hK K
    refine' wpAnyH_take (i := 9) (v := _) rfl (by kernel_rfl) (by kernel_rfl) (by kernel_rfl) (fun _ _ _ h => h) (Or.inl ⟨by kernel_rfl, ?hy28x9⟩) (by assumption) ?rest28x9
    case hy28x9 => (intro w hSw; (try dsimp only at hSw); go_simp; try with_reducible rfl)
    try simp only [Act.put, List.getElem_toArray, List.getElem_cons_succ, List.getElem_cons_zero, List.setIfInBounds_toArray, List.set_cons_zero, List.set_cons_succ]
    refine wpAnyH_ready (rs := [10]) (by kernel_rfl) (by simp) ?_
    refine AllReadyH.cons rfl (fun K hK => ?_) ?_
    rotate_left
    · exact AllReadyH.nil
    go_simp
    try dsimp only
    refine hK.out _ _ ⟨by have := (x5).blk.cell 7; unfold wcells at this; simpa [ptr] using this, by have := (x5).blk.cell 19; unfold wcells at this; rw [HK.out] at this; simpa using this⟩ (fun hHeld => ?_)
    clear hK K
    have b5 := bB.keep m5d (by simp)
    have b5c := b5.cell
    have b5f := b5.free
    have b5l := b5.lt
    refine wpAnyH_ready (rs := [12]) (by kernel_rfl) (by simp) ?_
    refine AllReadyH.cons rfl (fun K hK => ?_) ?_
    rotate_left
    · exact AllReadyH.nil
    go_simp
    have h5 : ro5 w.heap.size ∈ [r + 25] := by rw [b5.role]; simp
    have mF : Mv ro5 [r + 25] w5 ro5 ((w5.setCell ⟨w.heap.size, 0, none⟩ (.int .i64 cell)).setCell ⟨w.heap.size, 1, none⟩ (.float .f64 x)) := ((Mv.refl _ _ _).setCell (p := ⟨w.heap.size, 0, none⟩) h5 _).setCell (p := ⟨w.heap.size, 1, none⟩) h5 _
    have bF : Blk ro5 (r + 25) ((w5.setCell ⟨w.heap.size, 0, none⟩ (.int .i64 cell)).setCell ⟨w.heap.size, 1, none⟩ (.float .f64 x)) w.heap.size #[.int .i64 cell, .float .f64 x] 76 := (b5.put (i := 0) rfl).put (i := 1) rfl
    have xF := x5.keep mF (by simp)
    have nF := ((mB.trans m5d).setNew (p := ⟨w.heap.size, 0, none⟩) (Nat.le_refl _) (.int .i64 cell)).setNew (p := ⟨w.heap.size, 1, none⟩) (Nat.le_refl _) (.float .f64 x)
    try dsimp only
    refine hK.out _ _ ⟨by have := (xF).blk.cell 7; unfold wcells at this; simpa [ptr] using this, by have := (xF).blk.cell 19; unfold wcells at this; rw [HK.out] at this; simpa using this⟩ (fun hHeld => ?_)
    clear hK K
    refine wpAnyH_done (by kernel_rfl) ?_ _
    refine NoPanic.normal ?_
    have XF := Lib.hid xF
    have BF := Lib.hid bF
    have NF := Lib.hid nF
    have HMF := Lib.hid (HM.out.keep nF (by simp) (by simp))
    clear xF bF nF
    clear mB bB xB mF x5 hz0 hz1 o5 m5 b5 b5c b5f b5l h5
    have hcF := XF.out.blk.cell
    have haF := BF.out.cell
    have hwF := XF.out.was.at1w HVW.out HKW.out HYX.out
    have hltF := XF.out.blk.lt
    have hAX := (XF.out.blk.ne BF.out (by omega)).symm
    unfold wcells at hcF
    rw [HB.out, HK.out, HVW.out] at hcF
    simp only [ptr, Option.isSome_none, Bool.false_eq_true, if_false] at hcF
    generalize (w5.setCell ⟨w.heap.size, 0, none⟩ (.int .i64 cell)).setCell ⟨w.heap.size, 1, none⟩ (.float .f64 x) = Wf at *
    go_wp2
    refine wp_region_noPanic ?_
    refine wp_region_held_drew (S := fun W => (W.cell? ⟨X, 1, none⟩ = some (.int .i64 0) ∧ W.cell? ⟨X, 2, none⟩ = some (.int .i64 1) ∧ W.cell? ⟨X, 3, none⟩ = some (.int .i64 2) ∧ W.cell? ⟨X, 4, none⟩ = some (.int .i64 3) ∧ W.cell? ⟨X, 5, none⟩ = some (.int .i64 (3 + C.threads)) ∧ W.cell? ⟨X, 6, none⟩ = some (.int .i64 (3 + C.threads + 3 * C.cells)) ∧ W.cell? ⟨X, 14, none⟩ = some (.int .u64 s.stamp) ∧ W.cell? ⟨X, 16, none⟩ = some (.slice (some ⟨gw, 0, none⟩) s.was.length cw) ∧ W.cell? ⟨X, 19, none⟩ = some (.int .i64 k) ∧ W.cell? ⟨w.heap.size, 0, none⟩ = some (.int .i64 cell) ∧ W.cell? ⟨w.heap.size, 1, none⟩ = some (.float .f64 x) ∧ W.cell? ⟨gw, k, none⟩ = some (.float .f64 y))) (by kernel_rfl) ⟨hcF 1, hcF 2, hcF 3, hcF 4, hcF 5, hcF 6, hcF 14, hcF 16, hcF 19, haF 0, haF 1, hwF⟩ (fun hHeld => ?_)
    refine' wpAnyH_take (i := 0) (v := _) rfl (by kernel_rfl) (by kernel_rfl) (by kernel_rfl) (fun _ _ _ h => h) (Or.inl ⟨by kernel_rfl, ?hy1x10⟩) (by assumption) ?rest1x10
    case hy1x10 => (intro w hSw; (try dsimp only at hSw); go_simp; try with_reducible rfl)
    try simp only [Act.put, List.getElem_toArray, List.getElem_cons_succ, List.getElem_cons_zero, List.setIfInBounds_toArray, List.set_cons_zero, List.set_cons_succ]
    refine' wpAnyH_take (i := 1) (v := _) rfl (by kernel_rfl) (by kernel_rfl) (by kernel_rfl) (fun _ _ _ h => h) (Or.inl ⟨by kernel_rfl, ?hy2x11⟩) (by assumption) ?rest2x11
    case hy2x11 => (intro w hSw; (try dsimp only at hSw); go_simp; try with_reducible rfl)
    try simp only [Act.put, List.getElem_toArray, List.getElem_cons_succ, List.getElem_cons_zero, List.setIfInBounds_toArray, List.set_cons_zero, List.set_cons_succ]
    refine' wpAnyH_take (i := 2) (v := _) rfl (by kernel_rfl) (by kernel_rfl) (by kernel_rfl) (fun _ _ _ h => h) (Or.inl ⟨by kernel_rfl, ?hy3x12⟩) (by assumption) ?rest3x12
    case hy3x12 => (intro w hSw; (try dsimp only at hSw); go_simp; try with_reducible rfl)
    try simp only [Act.put, List.getElem_toArray, List.getElem_cons_succ, List.getElem_cons_zero, List.setIfInBounds_toArray, List.set_cons_zero, List.set_cons_succ]
    refine' wpAnyH_take (i := 3) (v := _) rfl (by kernel_rfl) (by kernel_rfl) (by kernel_rfl) (fun _ _ _ h => h) (Or.inl ⟨by kernel_rfl, ?hy4x13⟩) (by assumption) ?rest4x13
    case hy4x13 => (intro w hSw; (try dsimp only at hSw); go_simp; try with_reducible rfl)
    try simp only [Act.put, List.getElem_toArray, List.getElem_cons_succ, List.getElem_cons_zero, List.setIfInBounds_toArray, List.set_cons_zero, List.set_cons_succ]
    refine' wpAnyH_take (i := 4) (v := _) rfl (by kernel_rfl) (by kernel_rfl) (by kernel_rfl) (fun _ _ _ h => h) (Or.inl ⟨by kernel_rfl, ?hy5x14⟩) (by assumption) ?rest5x14
    case hy5x14 => (intro w hSw; (try dsimp only at hSw); go_simp; try with_reducible rfl)
    try simp only [Act.put, List.getElem_toArray, List.getElem_cons_succ, List.getElem_cons_zero, List.setIfInBounds_toArray, List.set_cons_zero, List.set_cons_succ]
    refine' wpAnyH_take (i := 5) (v := _) rfl (by kernel_rfl) (by kernel_rfl) (by kernel_rfl) (fun _ _ _ h => h) (Or.inl ⟨by kernel_rfl, ?hy6x15⟩) (by assumption) ?rest6x15
    case hy6x15 => (intro w hSw; (try dsimp only at hSw); go_simp; try with_reducible rfl)
    try simp only [Act.put, List.getElem_toArray, List.getElem_cons_succ, List.getElem_cons_zero, List.setIfInBounds_toArray, List.set_cons_zero, List.set_cons_succ]
    refine' wpAnyH_take (i := 6) (v := _) rfl (by kernel_rfl) (by kernel_rfl) (by kernel_rfl) (fun _ _ _ h => h) (Or.inl ⟨by kernel_rfl, ?hy7x16⟩) (by assumption) ?rest7x16
    case hy7x16 => (intro w hSw; (try dsimp only at hSw); go_simp; try with_reducible rfl)
    try simp only [Act.put, List.getElem_toArray, List.getElem_cons_succ, List.getElem_cons_zero, List.setIfInBounds_toArray, List.set_cons_zero, List.set_cons_succ]
    refine' wpAnyH_take (i := 7) (v := _) rfl (by kernel_rfl) (by kernel_rfl) (by kernel_rfl) (fun _ _ _ h => h) (Or.inl ⟨by kernel_rfl, ?hy8x17⟩) (by assumption) ?rest8x17
    case hy8x17 => (intro w hSw; (try dsimp only at hSw); go_simp; try with_reducible rfl)
    try simp only [Act.put, List.getElem_toArray, List.getElem_cons_succ, List.getElem_cons_zero, List.setIfInBounds_toArray, List.set_cons_zero, List.set_cons_succ]
    refine' wpAnyH_take (i := 8) (v := _) rfl (by kernel_rfl) (by kernel_rfl) (by kernel_rfl) (fun _ _ _ h => h) (Or.inl ⟨by kernel_rfl, ?hy9x18⟩) (by assumption) ?rest9x18
    case hy9x18 => (intro w hSw; (try dsimp only at hSw); go_simp; try with_reducible rfl)
    try simp only [Act.put, List.getElem_toArray, List.getElem_cons_succ, List.getElem_cons_zero, List.setIfInBounds_toArray, List.set_cons_zero, List.set_cons_succ]
    refine' wpAnyH_take (i := 9) (v := _) rfl (by kernel_rfl) (by kernel_rfl) (by kernel_rfl) (fun _ _ _ h => h) (Or.inl ⟨by kernel_rfl, ?hy10x19⟩) (by assumption) ?rest10x19
    case hy10x19 => (intro w hSw; (try dsimp only at hSw); go_simp; try with_reducible rfl)
    try simp only [Act.put, List.getElem_toArray, List.getElem_cons_succ, List.getElem_cons_zero, List.setIfInBounds_toArray, List.set_cons_zero, List.set_cons_succ]
    refine' wpAnyH_take (i := 10) (v := _) rfl (by kernel_rfl) (by kernel_rfl) (by kernel_rfl) (fun _ _ _ h => h) (Or.inl ⟨by kernel_rfl, ?hy11x20⟩) (by assumption) ?rest11x20
    case hy11x20 => (intro w hSw; (try dsimp only at hSw); go_simp; try with_reducible rfl)
    try simp only [Act.put, List.getElem_toArray, List.getElem_cons_succ, List.getElem_cons_zero, List.setIfInBounds_toArray, List.set_cons_zero, List.set_cons_succ]
    refine' wpAnyH_take (i := 11) (v := _) rfl (by kernel_rfl) (by kernel_rfl) (by kernel_rfl) (fun _ _ _ h => h) (Or.inl ⟨by kernel_rfl, ?hy12x21⟩) (by assumption) ?rest12x21
    case hy12x21 => (intro w hSw; (try dsimp only at hSw); go_simp; try with_reducible rfl)
    try simp only [Act.put, List.getElem_toArray, List.getElem_cons_succ, List.getElem_cons_zero, List.setIfInBounds_toArray, List.set_cons_zero, List.set_cons_succ]
    refine' wpAnyH_take (i := 12) (v := _) rfl (by kernel_rfl) (by kernel_rfl) (by kernel_rfl) (fun _ _ _ h => h) (Or.inl ⟨by kernel_rfl, ?hy13x22⟩) (by assumption) ?rest13x22
    case hy13x22 => (intro w hSw; (try dsimp only at hSw); go_simp; try with_reducible rfl)
    try simp only [Act.put, List.getElem_toArray, List.getElem_cons_succ, List.getElem_cons_zero, List.setIfInBounds_toArray, List.set_cons_zero, List.set_cons_succ]
    refine' wpAnyH_take (i := 13) (v := _) rfl (by kernel_rfl) (by kernel_rfl) (by kernel_rfl) (fun _ _ _ h => h) (Or.inl ⟨by kernel_rfl, ?hy14x23⟩) (by assumption) ?rest14x23
    case hy14x23 => (intro w hSw; (try dsimp only at hSw); go_simp; try with_reducible rfl)
    try simp only [Act.put, List.getElem_toArray, List.getElem_cons_succ, List.getElem_cons_zero, List.setIfInBounds_toArray, List.set_cons_zero, List.set_cons_succ]
    refine' wpAnyH_take (i := 14) (v := _) rfl (by kernel_rfl) (by kernel_rfl) (by kernel_rfl) (fun _ _ _ h => h) (Or.inl ⟨by kernel_rfl, ?hy15x24⟩) (by assumption) ?rest15x24
    case hy15x24 => (intro w hSw; (try dsimp only at hSw); go_simp; try with_reducible rfl)
    try simp only [Act.put, List.getElem_toArray, List.getElem_cons_succ, List.getElem_cons_zero, List.setIfInBounds_toArray, List.set_cons_zero, List.set_cons_succ]
    refine' wpAnyH_take (i := 15) (v := _) rfl (by kernel_rfl) (by kernel_rfl) (by kernel_rfl) (fun _ _ _ h => h) (Or.inl ⟨by kernel_rfl, ?hy16x25⟩) (by assumption) ?rest16x25
    case hy16x25 => (intro w hSw; (try dsimp only at hSw); go_simp; try with_reducible rfl)
    try simp only [Act.put, List.getElem_toArray, List.getElem_cons_succ, List.getElem_cons_zero, List.setIfInBounds_toArray, List.set_cons_zero, List.set_cons_succ]
    refine' wpAnyH_take (i := 16) (v := _) rfl (by kernel_rfl) (by kernel_rfl) (by kernel_rfl) (fun _ _ _ h => h) (Or.inl ⟨by kernel_rfl, ?hy17x26⟩) (by assumption) ?rest17x26
    case hy17x26 => (intro w hSw; (try dsimp only at hSw); go_simp; try with_reducible rfl)
    try simp only [Act.put, List.getElem_toArray, List.getElem_cons_succ, List.getElem_cons_zero, List.setIfInBounds_toArray, List.set_cons_zero, List.set_cons_succ]
    refine' wpAnyH_take (i := 17) (v := _) rfl (by kernel_rfl) (by kernel_rfl) (by kernel_rfl) (fun _ _ _ h => h) (Or.inl ⟨by kernel_rfl, ?hy18x27⟩) (by assumption) ?rest18x27
    case hy18x27 => (intro w hSw; (try dsimp only at hSw); go_simp; try with_reducible rfl)
    try simp only [Act.put, List.getElem_toArray, List.getElem_cons_succ, List.getElem_cons_zero, List.setIfInBounds_toArray, List.set_cons_zero, List.set_cons_succ]
    refine' wpAnyH_take (i := 18) (v := _) rfl (by kernel_rfl) (by kernel_rfl) (by kernel_rfl) (fun _ _ _ h => h) (Or.inl ⟨by kernel_rfl, ?hy19x28⟩) (by assumption) ?rest19x28
    case hy19x28 => (intro w hSw; (try dsimp only at hSw); go_simp; try with_reducible rfl)
    try simp only [Act.put, List.getElem_toArray, List.getElem_cons_succ, List.getElem_cons_zero, List.setIfInBounds_toArray, List.set_cons_zero, List.set_cons_succ]
    refine' wpAnyH_take (i := 19) (v := _) rfl (by kernel_rfl) (by kernel_rfl) (by kernel_rfl) (fun _ _ _ h => h) (Or.inl ⟨by kernel_rfl, ?hy20x29⟩) (by assumption) ?rest20x29
    case hy20x29 => (intro w hSw; (try dsimp only at hSw); go_simp; try with_reducible rfl)
    try simp only [Act.put, List.getElem_toArray, List.getElem_cons_succ, List.getElem_cons_zero, List.setIfInBounds_toArray, List.set_cons_zero, List.set_cons_succ]
    refine' wpAnyH_take (i := 20) (v := _) rfl (by kernel_rfl) (by kernel_rfl) (by kernel_rfl) (fun _ _ _ h => h) (Or.inl ⟨by kernel_rfl, ?hy21x30⟩) (by assumption) ?rest21x30
    case hy21x30 => (intro w hSw; (try dsimp only at hSw); go_simp; try with_reducible rfl)
    try simp only [Act.put, List.getElem_toArray, List.getElem_cons_succ, List.getElem_cons_zero, List.setIfInBounds_toArray, List.set_cons_zero, List.set_cons_succ]
    refine' wpAnyH_take (i := 21) (v := _) rfl (by kernel_rfl) (by kernel_rfl) (by kernel_rfl) (fun _ _ _ h => h) (Or.inl ⟨by kernel_rfl, ?hy22x31⟩) (by assumption) ?rest22x31
    case hy22x31 => (intro w hSw; (try dsimp only at hSw); go_simp; try with_reducible rfl)
    try simp only [Act.put, List.getElem_toArray, List.getElem_cons_succ, List.getElem_cons_zero, List.setIfInBounds_toArray, List.set_cons_zero, List.set_cons_succ]
    refine' wpAnyH_take (i := 22) (v := _) rfl (by kernel_rfl) (by kernel_rfl) (by kernel_rfl) (fun _ _ _ h => h) (Or.inl ⟨by kernel_rfl, ?hy23x32⟩) (by assumption) ?rest23x32
    case hy23x32 => (intro w hSw; (try dsimp only at hSw); go_simp; try with_reducible rfl)
    try simp only [Act.put, List.getElem_toArray, List.getElem_cons_succ, List.getElem_cons_zero, List.setIfInBounds_toArray, List.set_cons_zero, List.set_cons_succ]
    refine' wpAnyH_take (i := 23) (v := _) rfl (by kernel_rfl) (by kernel_rfl) (by kernel_rfl) (fun _ _ _ h => h) (Or.inl ⟨by kernel_rfl, ?hy24x33⟩) (by assumption) ?rest24x33
    case hy24x33 => (intro w hSw; (try dsimp only at hSw); go_simp; try with_reducible rfl)
    try simp only [Act.put, List.getElem_toArray, List.getElem_cons_succ, List.getElem_cons_zero, List.setIfInBounds_toArray, List.set_cons_zero, List.set_cons_succ]
    refine wpAnyH_ready (rs := [24]) (by kernel_rfl) (by simp) ?_
    refine AllReadyH.cons rfl (fun K hK => ?_) ?_
    rotate_left
    · exact AllReadyH.nil
    go_simp
    go_at_call 195
    refine (NW ro5 _).mono ?_
    rintro e w6 ⟨BB, ro6, rfl, b6, m6⟩
    have m6d : Mv ro5 [] Wf ro6 w6 := (Mv.refl ro5 [] Wf).drew.trans m6
    have x6 := XF.out.keep m6d (by simp)
    have hc6 := x6.blk.cell
    have hf6 := x6.blk.free
    have ha6 := (BF.out.keep m6d (by simp)).cell
    have hw6 := x6.was.at1w HVW.out HKW.out HYX.out
    unfold wcells at hc6
    rw [HB.out, HK.out, HVW.out] at hc6
    simp only [ptr, Option.isSome_none, Bool.false_eq_true, if_false] at hc6
    try dsimp only
    refine hK.out _ _ ⟨hc6 1, hc6 2, hc6 3, hc6 4, hc6 5, hc6 6, hc6 14, hc6 16, hc6 19, ha6 0, ha6 1, hw6⟩ (fun hHeld => ?_)
    clear hK K
    refine' wpAnyH_take (i := 25) (v := _) rfl (by kernel_rfl) (by kernel_rfl) (by kernel_rfl) (fun _ _ _ h => h) (Or.inl ⟨by kernel_rfl, ?hy25x34⟩) (by assumption) ?rest25x34
    case hy25x34 => (intro w hSw; (try dsimp only at hSw); go_simp; try with_reducible rfl)
    try simp only [Act.put, List.getElem_toArray, List.getElem_cons_succ, List.getElem_cons_zero, List.setIfInBounds_toArray, List.set_cons_zero, List.set_cons_succ]
    refine' wpAnyH_take (i := 26) (v := _) rfl (by kernel_rfl) (by kernel_rfl) (by kernel_rfl) (fun _ _ _ h => h) (Or.inl ⟨by kernel_rfl, ?hy26x35⟩) (by assumption) ?rest26x35
    case hy26x35 => (intro w hSw; (try dsimp only at hSw); go_simp; try with_reducible rfl)
    try simp only [Act.put, List.getElem_toArray, List.getElem_cons_succ, List.getElem_cons_zero, List.setIfInBounds_toArray, List.set_cons_zero, List.set_cons_succ]
    refine wpAnyH_ready (rs := [27]) (by kernel_rfl) (by simp) ?_
    refine AllReadyH.cons rfl (fun K hK => ?_) ?_
    rotate_left
    · exact AllReadyH.nil
    go_simp
    obtain ⟨x7, m7⟩ := x6.back0 b6
    have hc7 := x7.blk.cell
    have ha7 := ((BF.out.keep m6d (by simp)).keep m7 (by simp)).cell
    have hw7 := x7.was.at1w HVW.out HKW.out HYX.out
    unfold wcells at hc7
    rw [HK.out, HVW.out] at hc7
    simp only [ptr, Option.isSome_some, if_true] at hc7
    try dsimp only
    refine hK.out _ _ ⟨hc7 1, hc7 2, hc7 3, hc7 4, hc7 5, hc7 6, hc7 14, hc7 16, hc7 19, ha7 0, ha7 1, hw7⟩ (fun hHeld => ?_)
    clear hK K
    refine wpAnyH_done (by kernel_rfl) ?_ _
    refine NoPanic.normal ?_
    have X7 := Lib.hid x7
    have M7 := Lib.hid m7
    have M6 := Lib.hid m6d
    have B7 := Lib.hid (b6.keep m7 (by simp))
    have HM7 := Lib.hid ((HMF.out.keep m6d (by simp) (by simp)).keep m7 (by simp; omega) (by simp; omega))
    clear x7 m7 m6 m6d x6 hc6 hf6 ha6 hw6 ha7 hw7 hcF haF hwF b6
    generalize w6.setCell ⟨X, 18, none⟩ (.pointer (some ⟨BB, 0, none⟩)) = W7 at *
    go_wp2_with (go_at_call 196; refine (AW ro6 _ _ B7.out HM7.out).mono ?_; rintro e w8 ⟨rfl, b8, q8, m8⟩; have x8 := X7.out.put1 rfl m8 (by intro x hx; simp at hx; omega) b8; have hc8 := x8.blk.cell; unfold wcells at hc8; rw [HK.out, HVW.out] at hc8; simp only [ptr, Option.isSome_some, if_true] at hc8)
    go_quiet (fail)
    go_wp2
    go_end0
    exact ⟨rfl, ro6, _, x8.keep ((Mv.refl ro6 [] w8).drewN nq) (by simp), q8.keep ((Mv.refl ro6 [] w8).drewN nq) (by simp) (by simp), ((((NF.out.mono (by simp)).trans (M6.out.mono (by simp))).trans (M7.out.mono (by simp [wR]))).trans (m8.mono (by simp [wR]))).drewN nq⟩
  · skip
    go_simp
    go_at_call 79
    refine (WW ro _ _ ((H.out).mach.keep0 (Mv.refl ro [] w).drew)).mono ?_
    rintro e w5 ⟨v5, ro5, rfl, o5, m5⟩
    have m5d := ((Mv.refl ro [] w).drew).trans m5
    obtain ⟨g5, c5, ev5, -, -, -⟩ := o5.pos (by have := HKM.out; omega)
    subst ev5
    obtain ⟨hz0, hz1⟩ := o5.touchAt HKM.out HTX.out
    have x5 := (H.out).keep m5d (by simp)
    try dsimp only
    refine hK.out _ _ ⟨by have := (x5).blk.cell 7; unfold wcells at this; simpa [ptr] using this, by have := (x5).blk.cell 19; unfold wcells at this; rw [HK.out] at this; simpa using this⟩ (fun hHeld => ?_)
    clear hK K
    refine' wpAnyH_take (i := 9) (v := _) rfl (by kernel_rfl) (by kernel_rfl) (by kernel_rfl) (fun _ _ _ h => h) (Or.inl ⟨by kernel_rfl, ?hy27x36⟩) (by assumption) ?rest27x36
    case hy27x36 => (intro w hSw; (try dsimp only at hSw); go_simp; try with_reducible rfl)
    try simp only [Act.put, List.getElem_toArray, List.getElem_cons_succ, List.getElem_cons_zero, List.setIfInBounds_toArray, List.set_cons_zero, List.set_cons_succ]
    refine wpAnyH_ready (rs := [10, 11]) (by kernel_rfl) (by simp) ?_
    refine AllReadyH.cons rfl (fun K hK => ?_) ?_
    rotate_left
    · refine AllReadyH.cons rfl (fun K hK => ?_) ?_
      rotate_left
      · exact AllReadyH.nil
      go_simp
      have mA : Mv ro5 [] w5 (setRo ro5 w5.heap.size (r + 25)) (w5.alloc (.cells #[.int .i64 0, .float .f64 0] 76)) := ((Mv.refl _ _ _).alloc _).give (Nat.le_refl _)
      have bA := (Blk.new ro5 (r + 25) w5 #[.int .i64 0, .float .f64 0] 76).cell
      have xA := x5.keep mA (by simp)
      try dsimp only
      refine hK.out _ _ ⟨by have := (xA).blk.cell 7; unfold wcells at this; simpa [ptr] using this, by have := (xA).blk.cell 19; unfold wcells at this; rw [HK.out] at this; simpa using this⟩ (fun hHeld => ?_)
      clear hK K
      obtain ⟨hy0, hy1⟩ := (o5.keep mA (by simp)).touchAt HKM.out HTX.out
      refine wpAnyH_ready (rs := [10]) (by kernel_rfl) (by simp) ?_
      refine AllReadyH.cons rfl (fun K hK => ?_) ?_
      rotate_left
      · exact AllReadyH.nil
      go_simp
      try dsimp only
      refine hK.out _ _ ⟨by have := (xA).blk.cell 7; unfold wcells at this; simpa [ptr] using this, by have := (xA).blk.cell 19; unfold wcells at this; rw [HK.out] at this; simpa using this⟩ (fun hHeld => ?_)
      clear hK K
      refine wpAnyH_ready (rs := [12]) (by kernel_rfl) (by simp) ?_
      refine AllReadyH.cons rfl (fun K hK => ?_) ?_
      rotate_left
      · exact AllReadyH.nil
      go_simp
      have mF : Mv ro5 [] w5 (setRo ro5 w5.heap.size (r + 25)) (w5.alloc (.cells #[.int .i64 cell, .float .f64 x] 76)) := ((Mv.refl _ _ _).alloc _).give (Nat.le_refl _)
      have bF := Blk.new ro5 (r + 25) w5 #[.int .i64 cell, .float .f64 x] 76
      have xF := x5.keep mF (by simp)
      have nF := m5d.trans mF
      try dsimp only
      refine hK.out _ _ ⟨by have := (xF).blk.cell 7; unfold wcells at this; simpa [ptr] using this, by have := (xF).blk.cell 19; unfold wcells at this; rw [HK.out] at this; simpa using this⟩ (fun hHeld => ?_)
      clear hK K
      refine wpAnyH_done (by kernel_rfl) ?_ _
      refine NoPanic.normal ?_
      have XF := Lib.hid xF
      have BF := Lib.hid bF
      have NF := Lib.hid nF
      have HMF := Lib.hid (HM.out.keep nF (by simp) (by simp))
      clear xF bF nF
      clear mA bA xA mF x5 hz0 hz1 o5 m5 hy0 hy1
      have hcF := XF.out.blk.cell
      have haF := BF.out.cell
      have hwF := XF.out.was.at1w HVW.out HKW.out HYX.out
      have hltF := XF.out.blk.lt
      have hAX := (XF.out.blk.ne BF.out (by omega)).symm
      unfold wcells at hcF
      rw [HB.out, HK.out, HVW.out] at hcF
      simp only [ptr, Option.isSome_none, Bool.false_eq_true, if_false] at hcF
      generalize w5.alloc (.cells #[.int .i64 cell, .float .f64 x] 76) = Wf at *
      go_wp2
      refine wp_region_noPanic ?_
      refine wp_region_held_drew (S := fun W => (W.cell? ⟨X, 1, none⟩ = some (.int .i64 0) ∧ W.cell? ⟨X, 2, none⟩ = some (.int .i64 1) ∧ W.cell? ⟨X, 3, none⟩ = some (.int .i64 2) ∧ W.cell? ⟨X, 4, none⟩ = some (.int .i64 3) ∧ W.cell? ⟨X, 5, none⟩ = some (.int .i64 (3 + C.threads)) ∧ W.cell? ⟨X, 6, none⟩ = some (.int .i64 (3 + C.threads + 3 * C.cells)) ∧ W.cell? ⟨X, 14, none⟩ = some (.int .u64 s.stamp) ∧ W.cell? ⟨X, 16, none⟩ = some (.slice (some ⟨gw, 0, none⟩) s.was.length cw) ∧ W.cell? ⟨X, 19, none⟩ = some (.int .i64 k) ∧ W.cell? ⟨w5.heap.size, 0, none⟩ = some (.int .i64 cell) ∧ W.cell? ⟨w5.heap.size, 1, none⟩ = some (.float .f64 x) ∧ W.cell? ⟨gw, k, none⟩ = some (.float .f64 y))) (by kernel_rfl) ⟨hcF 1, hcF 2, hcF 3, hcF 4, hcF 5, hcF 6, hcF 14, hcF 16, hcF 19, haF 0, haF 1, hwF⟩ (fun hHeld => ?_)
      refine' wpAnyH_take (i := 0) (v := _) rfl (by kernel_rfl) (by kernel_rfl) (by kernel_rfl) (fun _ _ _ h => h) (Or.inl ⟨by kernel_rfl, ?hy1x37⟩) (by assumption) ?rest1x37
      case hy1x37 => (intro w hSw; (try dsimp only at hSw); go_simp; try with_reducible rfl)
      try simp only [Act.put, List.getElem_toArray, List.getElem_cons_succ, List.getElem_cons_zero, List.setIfInBounds_toArray, List.set_cons_zero, List.set_cons_succ]
      refine' wpAnyH_take (i := 1) (v := _) rfl (by kernel_rfl) (by kernel_rfl) (by kernel_rfl) (fun _ _ _ h => h) (Or.inl ⟨by kernel_rfl, ?hy2x38⟩) (by assumption) ?rest2x38
      case hy2x38 => (intro w hSw; (try dsimp only at hSw); go_simp; try with_reducible rfl)
      try simp only [Act.put, List.getElem_toArray, List.getElem_cons_succ, List.getElem_cons_zero, List.setIfInBounds_toArray, List.set_cons_zero, List.set_cons_succ]
      refine' wpAnyH_take (i := 2) (v := _) rfl (by kernel_rfl) (by kernel_rfl) (by kernel_rfl) (fun _ _ _ h => h) (Or.inl ⟨by kernel_rfl, ?hy3x39⟩) (by assumption) ?rest3x39
      case hy3x39 => (intro w hSw; (try dsimp only at hSw); go_simp; try with_reducible rfl)
      try simp only [Act.put, List.getElem_toArray, List.getElem_cons_succ, List.getElem_cons_zero, List.setIfInBounds_toArray, List.set_cons_zero, List.set_cons_succ]
      refine' wpAnyH_take (i := 3) (v := _) rfl (by kernel_rfl) (by kernel_rfl) (by kernel_rfl) (fun _ _ _ h => h) (Or.inl ⟨by kernel_rfl, ?hy4x40⟩) (by assumption) ?rest4x40
      case hy4x40 => (intro w hSw; (try dsimp only at hSw); go_simp; try with_reducible rfl)
      try simp only [Act.put, List.getElem_toArray, List.getElem_cons_succ, List.getElem_cons_zero, List.setIfInBounds_toArray, List.set_cons_zero, List.set_cons_succ]
      refine' wpAnyH_take (i := 4) (v := _) rfl (by kernel_rfl) (by kernel_rfl) (by kernel_rfl) (fun _ _ _ h => h) (Or.inl ⟨by kernel_rfl, ?hy5x41⟩) (by assumption) ?rest5x41
      case hy5x41 => (intro w hSw; (try dsimp only at hSw); go_simp; try with_reducible rfl)
      try simp only [Act.put, List.getElem_toArray, List.getElem_cons_succ, List.getElem_cons_zero, List.setIfInBounds_toArray, List.set_cons_zero, List.set_cons_succ]
      refine' wpAnyH_take (i := 5) (v := _) rfl (by kernel_rfl) (by kernel_rfl) (by kernel_rfl) (fun _ _ _ h => h) (Or.inl ⟨by kernel_rfl, ?hy6x42⟩) (by assumption) ?rest6x42
      case hy6x42 => (intro w hSw; (try dsimp only at hSw); go_simp; try with_reducible rfl)
      try simp only [Act.put, List.getElem_toArray, List.getElem_cons_succ, List.getElem_cons_zero, List.setIfInBounds_toArray, List.set_cons_zero, List.set_cons_succ]
      refine' wpAnyH_take (i := 6) (v := _) rfl (by kernel_rfl) (by kernel_rfl) (by kernel_rfl) (fun _ _ _ h => h) (Or.inl ⟨by kernel_rfl, ?hy7x43⟩) (by assumption) ?rest7x43
      case hy7x43 => (intro w hSw; (try dsimp only at hSw); go_simp; try with_reducible rfl)
      try simp only [Act.put, List.getElem_toArray, List.getElem_cons_succ, List.getElem_cons_zero, List.setIfInBounds_toArray, List.set_cons_zero, List.set_cons_succ]
      refine' wpAnyH_take (i := 7) (v := _) rfl (by kernel_rfl) (by kernel_rfl) (by kernel_rfl) (fun _ _ _ h => h) (Or.inl ⟨by kernel_rfl, ?hy8x44⟩) (by assumption) ?rest8x44
      case hy8x44 => (intro w hSw; (try dsimp only at hSw); go_simp; try with_reducible rfl)
      try simp only [Act.put, List.getElem_toArray, List.getElem_cons_succ, List.getElem_cons_zero, List.setIfInBounds_toArray, List.set_cons_zero, List.set_cons_succ]
      refine' wpAnyH_take (i := 8) (v := _) rfl (by kernel_rfl) (by kernel_rfl) (by kernel_rfl) (fun _ _ _ h => h) (Or.inl ⟨by kernel_rfl, ?hy9x45⟩) (by assumption) ?rest9x45
      case hy9x45 => (intro w hSw; (try dsimp only at hSw); go_simp; try with_reducible rfl)
      try simp only [Act.put, List.getElem_toArray, List.getElem_cons_succ, List.getElem_cons_zero, List.setIfInBounds_toArray, List.set_cons_zero, List.set_cons_succ]
      refine' wpAnyH_take (i := 9) (v := _) rfl (by kernel_rfl) (by kernel_rfl) (by kernel_rfl) (fun _ _ _ h => h) (Or.inl ⟨by kernel_rfl, ?hy10x46⟩) (by assumption) ?rest10x46
      case hy10x46 => (intro w hSw; (try dsimp only at hSw); go_simp; try with_reducible rfl)
      try simp only [Act.put, List.getElem_toArray, List.getElem_cons_succ, List.getElem_cons_zero, List.setIfInBounds_toArray, List.set_cons_zero, List.set_cons_succ]
      refine' wpAnyH_take (i := 10) (v := _) rfl (by kernel_rfl) (by kernel_rfl) (by kernel_rfl) (fun _ _ _ h => h) (Or.inl ⟨by kernel_rfl, ?hy11x47⟩) (by assumption) ?rest11x47
      case hy11x47 => (intro w hSw; (try dsimp only at hSw); go_simp; try with_reducible rfl)
      try simp only [Act.put, List.getElem_toArray, List.getElem_cons_succ, List.getElem_cons_zero, List.setIfInBounds_toArray, List.set_cons_zero, List.set_cons_succ]
      refine' wpAnyH_take (i := 11) (v := _) rfl (by kernel_rfl) (by kernel_rfl) (by kernel_rfl) (fun _ _ _ h => h) (Or.inl ⟨by kernel_rfl, ?hy12x48⟩) (by assumption) ?rest12x48
      case hy12x48 => (intro w hSw; (try dsimp only at hSw); go_simp; try with_reducible rfl)
      try simp only [Act.put, List.getElem_toArray, List.getElem_cons_succ, List.getElem_cons_zero, List.setIfInBounds_toArray, List.set_cons_zero, List.set_cons_succ]
      refine' wpAnyH_take (i := 12) (v := _) rfl (by kernel_rfl) (by kernel_rfl) (by kernel_rfl) (fun _ _ _ h => h) (Or.inl ⟨by kernel_rfl, ?hy13x49⟩) (by assumption) ?rest13x49
      case hy13x49 => (intro w hSw; (try dsimp only at hSw); go_simp; try with_reducible rfl)
      try simp only [Act.put, List.getElem_toArray, List.getElem_cons_succ, List.getElem_cons_zero, List.setIfInBounds_toArray, List.set_cons_zero, List.set_cons_succ]
      refine' wpAnyH_take (i := 13) (v := _) rfl (by kernel_rfl) (by kernel_rfl) (by kernel_rfl) (fun _ _ _ h => h) (Or.inl ⟨by kernel_rfl, ?hy14x50⟩) (by assumption) ?rest14x50
      case hy14x50 => (intro w hSw; (try dsimp only at hSw); go_simp; try with_reducible rfl)
      try simp only [Act.put, List.getElem_toArray, List.getElem_cons_succ, List.getElem_cons_zero, List.setIfInBounds_toArray, List.set_cons_zero, List.set_cons_succ]
      refine' wpAnyH_take (i := 14) (v := _) rfl (by kernel_rfl) (by kernel_rfl) (by kernel_rfl) (fun _ _ _ h => h) (Or.inl ⟨by kernel_rfl, ?hy15x51⟩) (by assumption) ?rest15x51
      case hy15x51 => (intro w hSw; (try dsimp only at hSw); go_simp; try with_reducible rfl)
      try simp only [Act.put, List.getElem_toArray, List.getElem_cons_succ, List.getElem_cons_zero, List.setIfInBounds_toArray, List.set_cons_zero, List.set_cons_succ]
      refine' wpAnyH_take (i := 15) (v := _) rfl (by kernel_rfl) (by kernel_rfl) (by kernel_rfl) (fun _ _ _ h => h) (Or.inl ⟨by kernel_rfl, ?hy16x52⟩) (by assumption) ?rest16x52
      case hy16x52 => (intro w hSw; (try dsimp only at hSw); go_simp; try with_reducible rfl)
      try simp only [Act.put, List.getElem_toArray, List.getElem_cons_succ, List.getElem_cons_zero, List.setIfInBounds_toArray, List.set_cons_zero, List.set_cons_succ]
      refine' wpAnyH_take (i := 16) (v := _) rfl (by kernel_rfl) (by kernel_rfl) (by kernel_rfl) (fun _ _ _ h => h) (Or.inl ⟨by kernel_rfl, ?hy17x53⟩) (by assumption) ?rest17x53
      case hy17x53 => (intro w hSw; (try dsimp only at hSw); go_simp; try with_reducible rfl)
      try simp only [Act.put, List.getElem_toArray, List.getElem_cons_succ, List.getElem_cons_zero, List.setIfInBounds_toArray, List.set_cons_zero, List.set_cons_succ]
      refine' wpAnyH_take (i := 17) (v := _) rfl (by kernel_rfl) (by kernel_rfl) (by kernel_rfl) (fun _ _ _ h => h) (Or.inl ⟨by kernel_rfl, ?hy18x54⟩) (by assumption) ?rest18x54
      case hy18x54 => (intro w hSw; (try dsimp only at hSw); go_simp; try with_reducible rfl)
      try simp only [Act.put, List.getElem_toArray, List.getElem_cons_succ, List.getElem_cons_zero, List.setIfInBounds_toArray, List.set_cons_zero, List.set_cons_succ]
      refine' wpAnyH_take (i := 18) (v := _) rfl (by kernel_rfl) (by kernel_rfl) (by kernel_rfl) (fun _ _ _ h => h) (Or.inl ⟨by kernel_rfl, ?hy19x55⟩) (by assumption) ?rest19x55
      case hy19x55 => (intro w hSw; (try dsimp only at hSw); go_simp; try with_reducible rfl)
      try simp only [Act.put, List.getElem_toArray, List.getElem_cons_succ, List.getElem_cons_zero, List.setIfInBounds_toArray, List.set_cons_zero, List.set_cons_succ]
      refine' wpAnyH_take (i := 19) (v := _) rfl (by kernel_rfl) (by kernel_rfl) (by kernel_rfl) (fun _ _ _ h => h) (Or.inl ⟨by kernel_rfl, ?hy20x56⟩) (by assumption) ?rest20x56
      case hy20x56 => (intro w hSw; (try dsimp only at hSw); go_simp; try with_reducible rfl)
      try simp only [Act.put, List.getElem_toArray, List.getElem_cons_succ, List.getElem_cons_zero, List.setIfInBounds_toArray, List.set_cons_zero, List.set_cons_succ]
      refine' wpAnyH_take (i := 20) (v := _) rfl (by kernel_rfl) (by kernel_rfl) (by kernel_rfl) (fun _ _ _ h => h) (Or.inl ⟨by kernel_rfl, ?hy21x57⟩) (by assumption) ?rest21x57
      case hy21x57 => (intro w hSw; (try dsimp only at hSw); go_simp; try with_reducible rfl)
      try simp only [Act.put, List.getElem_toArray, List.getElem_cons_succ, List.getElem_cons_zero, List.setIfInBounds_toArray, List.set_cons_zero, List.set_cons_succ]
      refine' wpAnyH_take (i := 21) (v := _) rfl (by kernel_rfl) (by kernel_rfl) (by kernel_rfl) (fun _ _ _ h => h) (Or.inl ⟨by kernel_rfl, ?hy22x58⟩) (by assumption) ?rest22x58
      case hy22x58 => (intro w hSw; (try dsimp only at hSw); go_simp; try with_reducible rfl)
      try simp only [Act.put, List.getElem_toArray, List.getElem_cons_succ, List.getElem_cons_zero, List.setIfInBounds_toArray, List.set_cons_zero, List.set_cons_succ]
      refine' wpAnyH_take (i := 22) (v := _) rfl (by kernel_rfl) (by kernel_rfl) (by kernel_rfl) (fun _ _ _ h => h) (Or.inl ⟨by kernel_rfl, ?hy23x59⟩) (by assumption) ?rest23x59
      case hy23x59 => (intro w hSw; (try dsimp only at hSw); go_simp; try with_reducible rfl)
      try simp only [Act.put, List.getElem_toArray, List.getElem_cons_succ, List.getElem_cons_zero, List.setIfInBounds_toArray, List.set_cons_zero, List.set_cons_succ]
      refine' wpAnyH_take (i := 23) (v := _) rfl (by kernel_rfl) (by kernel_rfl) (by kernel_rfl) (fun _ _ _ h => h) (Or.inl ⟨by kernel_rfl, ?hy24x60⟩) (by assumption) ?rest24x60
      case hy24x60 => (intro w hSw; (try dsimp only at hSw); go_simp; try with_reducible rfl)
      try simp only [Act.put, List.getElem_toArray, List.getElem_cons_succ, List.getElem_cons_zero, List.setIfInBounds_toArray, List.set_cons_zero, List.set_cons_succ]
      refine wpAnyH_ready (rs := [24]) (by kernel_rfl) (by simp) ?_
      refine AllReadyH.cons rfl (fun K hK => ?_) ?_
      rotate_left
      · exact AllReadyH.nil
      go_simp
      go_at_call 195
      refine (NW (setRo ro5 w5.heap.size (r + 25)) _).mono ?_
      rintro e w6 ⟨BB, ro6, rfl, b6, m6⟩
      have m6d : Mv (setRo ro5 w5.heap.size (r + 25)) [] Wf ro6 w6 := (Mv.refl (setRo ro5 w5.heap.size (r + 25)) [] Wf).drew.trans m6
      have x6 := XF.out.keep m6d (by simp)
      have hc6 := x6.blk.cell
      have hf6 := x6.blk.free
      have ha6 := (BF.out.keep m6d (by simp)).cell
      have hw6 := x6.was.at1w HVW.out HKW.out HYX.out
      unfold wcells at hc6
      rw [HB.out, HK.out, HVW.out] at hc6
      simp only [ptr, Option.isSome_none, Bool.false_eq_true, if_false] at hc6
      try dsimp only
      refine hK.out _ _ ⟨hc6 1, hc6 2, hc6 3, hc6 4, hc6 5, hc6 6, hc6 14, hc6 16, hc6 19, ha6 0, ha6 1, hw6⟩ (fun hHeld => ?_)
      clear hK K
      refine' wpAnyH_take (i := 25) (v := _) rfl (by kernel_rfl) (by kernel_rfl) (by kernel_rfl) (fun _ _ _ h => h) (Or.inl ⟨by kernel_rfl, ?hy25x61⟩) (by assumption) ?rest25x61
      case hy25x61 => (intro w hSw; (try dsimp only at hSw); go_simp; try with_reducible rfl)
      try simp only [Act.put, List.getElem_toArray, List.getElem_cons_succ, List.getElem_cons_zero, List.setIfInBounds_toArray, List.set_cons_zero, List.set_cons_succ]
      refine' wpAnyH_take (i := 26) (v := _) rfl (by kernel_rfl) (by kernel_rfl) (by kernel_rfl) (fun _ _ _ h => h) (Or.inl ⟨by kernel_rfl, ?hy26x62⟩) (by assumption) ?rest26x62
      case hy26x62 => (intro w hSw; (try dsimp only at hSw); go_simp; try with_reducible rfl)
      try simp only [Act.put, List.getElem_toArray, List.getElem_cons_succ, List.getElem_cons_zero, List.setIfInBounds_toArray, List.set_cons_zero, List.set_cons_succ]
      refine wpAnyH_ready (rs := [27]) (by kernel_rfl) (by simp) ?_
      refine AllReadyH.cons rfl (fun K hK => ?_) ?_
      rotate_left
      · exact AllReadyH.nil
      go_simp
      obtain ⟨x7, m7⟩ := x6.back0 b6
      have hc7 := x7.blk.cell
      have ha7 := ((BF.out.keep m6d (by simp)).keep m7 (by simp)).cell
      have hw7 := x7.was.at1w HVW.out HKW.out HYX.out
      unfold wcells at hc7
      rw [HK.out, HVW.out] at hc7
      simp only [ptr, Option.isSome_some, if_true] at hc7
      try dsimp only
      refine hK.out _ _ ⟨hc7 1, hc7 2, hc7 3, hc7 4, hc7 5, hc7 6, hc7 14, hc7 16, hc7 19, ha7 0, ha7 1, hw7⟩ (fun hHeld => ?_)
      clear hK K
      refine wpAnyH_done (by kernel_rfl) ?_ _
      refine NoPanic.normal ?_
      have X7 := Lib.hid x7
      have M7 := Lib.hid m7
      have M6 := Lib.hid m6d
      have B7 := Lib.hid (b6.keep m7 (by simp))
      have HM7 := Lib.hid ((HMF.out.keep m6d (by simp) (by simp)).keep m7 (by simp; omega) (by simp; omega))
      clear x7 m7 m6 m6d x6 hc6 hf6 ha6 hw6 ha7 hw7 hcF haF hwF b6
      generalize w6.setCell ⟨X, 18, none⟩ (.pointer (some ⟨BB, 0, none⟩)) = W7 at *
      go_wp2_with (go_at_call 196; refine (AW ro6 _ _ B7.out HM7.out).mono ?_; rintro e w8 ⟨rfl, b8, q8, m8⟩; have x8 := X7.out.put1 rfl m8 (by intro x hx; simp at hx; omega) b8; have hc8 := x8.blk.cell; unfold wcells at hc8; rw [HK.out, HVW.out] at hc8; simp only [ptr, Option.isSome_some, if_true] at hc8)
      go_quiet (fail)
      go_wp2
      go_end0
      exact ⟨rfl, ro6, _, x8.keep ((Mv.refl ro6 [] w8).drewN nq) (by simp), q8.keep ((Mv.refl ro6 [] w8).drewN nq) (by simp) (by simp), ((((NF.out.mono (by simp)).trans (M6.out.mono (by simp))).trans (M7.out.mono (by simp [wR]))).trans (m8.mono (by simp [wR]))).drewN nq⟩
    · go_simp
      try dsimp only
      refine hK.out _ _ ⟨by have := (x5).blk.cell 7; unfold wcells at this; simpa [ptr] using this, by have := (x5).blk.cell 19; unfold wcells at this; rw [HK.out] at this; simpa using this⟩ (fun hHeld => ?_)
      clear hK K
      refine wpAnyH_ready (rs := [11]) (by kernel_rfl) (by simp) ?_
      refine AllReadyH.cons rfl (fun K hK => ?_) ?_
      rotate_left
      · exact AllReadyH.nil
      go_simp
      have mA : Mv ro5 [] w5 (setRo ro5 w5.heap.size (r + 25)) (w5.alloc (.cells #[.int .i64 0, .float .f64 0] 76)) := ((Mv.refl _ _ _).alloc _).give (Nat.le_refl _)
      have bA := (Blk.new ro5 (r + 25) w5 #[.int .i64 0, .float .f64 0] 76).cell
      have xA := x5.keep mA (by simp)
      try dsimp only
      refine hK.out _ _ ⟨by have := (xA).blk.cell 7; unfold wcells at this; simpa [ptr] using this, by have := (xA).blk.cell 19; unfold wcells at this; rw [HK.out] at this; simpa using this⟩ (fun hHeld => ?_)
      clear hK K
      refine wpAnyH_ready (rs := [12]) (by kernel_rfl) (by simp) ?_
      refine AllReadyH.cons rfl (fun K hK => ?_) ?_
      rotate_left
      · exact AllReadyH.nil
      go_simp
      have mF : Mv ro5 [] w5 (setRo ro5 w5.heap.size (r + 25)) (w5.alloc (.cells #[.int .i64 cell, .float .f64 x] 76)) := ((Mv.refl _ _ _).alloc _).give (Nat.le_refl _)
      have bF := Blk.new ro5 (r + 25) w5 #[.int .i64 cell, .float .f64 x] 76
      have xF := x5.keep mF (by simp)
      have nF := m5d.trans mF
      try dsimp only
      refine hK.out _ _ ⟨by have := (xF).blk.cell 7; unfold wcells at this; simpa [ptr] using this, by have := (xF).blk.cell 19; unfold wcells at this; rw [HK.out] at this; simpa using this⟩ (fun hHeld => ?_)
      clear hK K
      refine wpAnyH_done (by kernel_rfl) ?_ _
      refine NoPanic.normal ?_
      have XF := Lib.hid xF
      have BF := Lib.hid bF
      have NF := Lib.hid nF
      have HMF := Lib.hid (HM.out.keep nF (by simp) (by simp))
      clear xF bF nF
      clear mA bA xA mF x5 hz0 hz1 o5 m5
      have hcF := XF.out.blk.cell
      have haF := BF.out.cell
      have hwF := XF.out.was.at1w HVW.out HKW.out HYX.out
      have hltF := XF.out.blk.lt
      have hAX := (XF.out.blk.ne BF.out (by omega)).symm
      unfold wcells at hcF
      rw [HB.out, HK.out, HVW.out] at hcF
      simp only [ptr, Option.isSome_none, Bool.false_eq_true, if_false] at hcF
      generalize w5.alloc (.cells #[.int .i64 cell, .float .f64 x] 76) = Wf at *
      go_wp2
      refine wp_region_noPanic ?_
      refine wp_region_held_drew (S := fun W => (W.cell? ⟨X, 1, none⟩ = some (.int .i64 0) ∧ W.cell? ⟨X, 2, none⟩ = some (.int .i64 1) ∧ W.cell? ⟨X, 3, none⟩ = some (.int .i64 2) ∧ W.cell? ⟨X, 4, none⟩ = some (.int .i64 3) ∧ W.cell? ⟨X, 5, none⟩ = some (.int .i64 (3 + C.threads)) ∧ W.cell? ⟨X, 6, none⟩ = some (.int .i64 (3 + C.threads + 3 * C.cells)) ∧ W.cell? ⟨X, 14, none⟩ = some (.int .u64 s.stamp) ∧ W.cell? ⟨X, 16, none⟩ = some (.slice (some ⟨gw, 0, none⟩) s.was.length cw) ∧ W.cell? ⟨X, 19, none⟩ = some (.int .i64 k) ∧ W.cell? ⟨w5.heap.size, 0, none⟩ = some (.int .i64 cell) ∧ W.cell? ⟨w5.heap.size, 1, none⟩ = some (.float .f64 x) ∧ W.cell? ⟨gw, k, none⟩ = some (.float .f64 y))) (by kernel_rfl) ⟨hcF 1, hcF 2, hcF 3, hcF 4, hcF 5, hcF 6, hcF 14, hcF 16, hcF 19, haF 0, haF 1, hwF⟩ (fun hHeld => ?_)
      refine' wpAnyH_take (i := 0) (v := _) rfl (by kernel_rfl) (by kernel_rfl) (by kernel_rfl) (fun _ _ _ h => h) (Or.inl ⟨by kernel_rfl, ?hy1x63⟩) (by assumption) ?rest1x63
      case hy1x63 => (intro w hSw; (try dsimp only at hSw); go_simp; try with_reducible rfl)
      try simp only [Act.put, List.getElem_toArray, List.getElem_cons_succ, List.getElem_cons_zero, List.setIfInBounds_toArray, List.set_cons_zero, List.set_cons_succ]
      refine' wpAnyH_take (i := 1) (v := _) rfl (by kernel_rfl) (by kernel_rfl) (by kernel_rfl) (fun _ _ _ h => h) (Or.inl ⟨by kernel_rfl, ?hy2x64⟩) (by assumption) ?rest2x64
      case hy2x64 => (intro w hSw; (try dsimp only at hSw); go_simp; try with_reducible rfl)
      try simp only [Act.put, List.getElem_toArray, List.getElem_cons_succ, List.getElem_cons_zero, List.setIfInBounds_toArray, List.set_cons_zero, List.set_cons_succ]
      refine' wpAnyH_take (i := 2) (v := _) rfl (by kernel_rfl) (by kernel_rfl) (by kernel_rfl) (fun _ _ _ h => h) (Or.inl ⟨by kernel_rfl, ?hy3x65⟩) (by assumption) ?rest3x65
      case hy3x65 => (intro w hSw; (try dsimp only at hSw); go_simp; try with_reducible rfl)
      try simp only [Act.put, List.getElem_toArray, List.getElem_cons_succ, List.getElem_cons_zero, List.setIfInBounds_toArray, List.set_cons_zero, List.set_cons_succ]
      refine' wpAnyH_take (i := 3) (v := _) rfl (by kernel_rfl) (by kernel_rfl) (by kernel_rfl) (fun _ _ _ h => h) (Or.inl ⟨by kernel_rfl, ?hy4x66⟩) (by assumption) ?rest4x66
      case hy4x66 => (intro w hSw; (try dsimp only at hSw); go_simp; try with_reducible rfl)
      try simp only [Act.put, List.getElem_toArray, List.getElem_cons_succ, List.getElem_cons_zero, List.setIfInBounds_toArray, List.set_cons_zero, List.set_cons_succ]
      refine' wpAnyH_take (i := 4) (v := _) rfl (by kernel_rfl) (by kernel_rfl) (by kernel_rfl) (fun _ _ _ h => h) (Or.inl ⟨by kernel_rfl, ?hy5x67⟩) (by assumption) ?rest5x67
      case hy5x67 => (intro w hSw; (try dsimp only at hSw); go_simp; try with_reducible rfl)
      try simp only [Act.put, List.getElem_toArray, List.getElem_cons_succ, List.getElem_cons_zero, List.setIfInBounds_toArray, List.set_cons_zero, List.set_cons_succ]
      refine' wpAnyH_take (i := 5) (v := _) rfl (by kernel_rfl) (by kernel_rfl) (by kernel_rfl) (fun _ _ _ h => h) (Or.inl ⟨by kernel_rfl, ?hy6x68⟩) (by assumption) ?rest6x68
      case hy6x68 => (intro w hSw; (try dsimp only at hSw); go_simp; try with_reducible rfl)
      try simp only [Act.put, List.getElem_toArray, List.getElem_cons_succ, List.getElem_cons_zero, List.setIfInBounds_toArray, List.set_cons_zero, List.set_cons_succ]
      refine' wpAnyH_take (i := 6) (v := _) rfl (by kernel_rfl) (by kernel_rfl) (by kernel_rfl) (fun _ _ _ h => h) (Or.inl ⟨by kernel_rfl, ?hy7x69⟩) (by assumption) ?rest7x69
      case hy7x69 => (intro w hSw; (try dsimp only at hSw); go_simp; try with_reducible rfl)
      try simp only [Act.put, List.getElem_toArray, List.getElem_cons_succ, List.getElem_cons_zero, List.setIfInBounds_toArray, List.set_cons_zero, List.set_cons_succ]
      refine' wpAnyH_take (i := 7) (v := _) rfl (by kernel_rfl) (by kernel_rfl) (by kernel_rfl) (fun _ _ _ h => h) (Or.inl ⟨by kernel_rfl, ?hy8x70⟩) (by assumption) ?rest8x70
      case hy8x70 => (intro w hSw; (try dsimp only at hSw); go_simp; try with_reducible rfl)
      try simp only [Act.put, List.getElem_toArray, List.getElem_cons_succ, List.getElem_cons_zero, List.setIfInBounds_toArray, List.set_cons_zero, List.set_cons_succ]
      refine' wpAnyH_take (i := 8) (v := _) rfl (by kernel_rfl) (by kernel_rfl) (by kernel_rfl) (fun _ _ _ h => h) (Or.inl ⟨by kernel_rfl, ?hy9x71⟩) (by assumption) ?rest9x71
      case hy9x71 => (intro w hSw; (try dsimp only at hSw); go_simp; try with_reducible rfl)
      try simp only [Act.put, List.getElem_toArray, List.getElem_cons_succ, List.getElem_cons_zero, List.setIfInBounds_toArray, List.set_cons_zero, List.set_cons_succ]
      refine' wpAnyH_take (i := 9) (v := _) rfl (by kernel_rfl) (by kernel_rfl) (by kernel_rfl) (fun _ _ _ h => h) (Or.inl ⟨by kernel_rfl, ?hy10x72⟩) (by assumption) ?rest10x72
      case hy10x72 => (intro w hSw; (try dsimp only at hSw); go_simp; try with_reducible rfl)
      try simp only [Act.put, List.getElem_toArray, List.getElem_cons_succ, List.getElem_cons_zero, List.setIfInBounds_toArray, List.set_cons_zero, List.set_cons_succ]
      refine' wpAnyH_take (i := 10) (v := _) rfl (by kernel_rfl) (by kernel_rfl) (by kernel_rfl) (fun _ _ _ h => h) (Or.inl ⟨by kernel_rfl, ?hy11x73⟩) (by assumption) ?rest11x73
      case hy11x73 => (intro w hSw; (try dsimp only at hSw); go_simp; try with_reducible rfl)
      try simp only [Act.put, List.getElem_toArray, List.getElem_cons_succ, List.getElem_cons_zero, List.setIfInBounds_toArray, List.set_cons_zero, List.set_cons_succ]
      refine' wpAnyH_take (i := 11) (v := _) rfl (by kernel_rfl) (by kernel_rfl) (by kernel_rfl) (fun _ _ _ h => h) (Or.inl ⟨by kernel_rfl, ?hy12x74⟩) (by assumption) ?rest12x74
      case hy12x74 => (intro w hSw; (try dsimp only at hSw); go_simp; try with_reducible rfl)
      try simp only [Act.put, List.getElem_toArray, List.getElem_cons_succ, List.getElem_cons_zero, List.setIfInBounds_toArray, List.set_cons_zero, List.set_cons_succ]
      refine' wpAnyH_take (i := 12) (v := _) rfl (by kernel_rfl) (by kernel_rfl) (by kernel_rfl) (fun _ _ _ h => h) (Or.inl ⟨by kernel_rfl, ?hy13x75⟩) (by assumption) ?rest13x75
      case hy13x75 => (intro w hSw; (try dsimp only at hSw); go_simp; try with_reducible rfl)
      try simp only [Act.put, List.getElem_toArray, List.getElem_cons_succ, List.getElem_cons_zero, List.setIfInBounds_toArray, List.set_cons_zero, List.set_cons_succ]
      refine' wpAnyH_take (i := 13) (v := _) rfl (by kernel_rfl) (by kernel_rfl) (by kernel_rfl) (fun _ _ _ h => h) (Or.inl ⟨by kernel_rfl, ?hy14x76⟩) (by assumption) ?rest14x76
      case hy14x76 => (intro w hSw; (try dsimp only at hSw); go_simp; try with_reducible rfl)
      try simp only [Act.put, List.getElem_toArray, List.getElem_cons_succ, List.getElem_cons_zero, List.setIfInBounds_toArray, List.set_cons_zero, List.set_cons_succ]
      refine' wpAnyH_take (i := 14) (v := _) rfl (by kernel_rfl) (by kernel_rfl) (by kernel_rfl) (fun _ _ _ h => h) (Or.inl ⟨by kernel_rfl, ?hy15x77⟩) (by assumption) ?rest15x77
      case hy15x77 => (intro w hSw; (try dsimp only at hSw); go_simp; try with_reducible rfl)
      try simp only [Act.put, List.getElem_toArray, List.getElem_cons_succ, List.getElem_cons_zero, List.setIfInBounds_toArray, List.set_cons_zero, List.set_cons_succ]
      refine' wpAnyH_take (i := 15) (v := _) rfl (by kernel_rfl) (by kernel_rfl) (by kernel_rfl) (fun _ _ _ h => h) (Or.inl ⟨by kernel_rfl, ?hy16x78⟩) (by assumption) ?rest16x78
      case hy16x78 => (intro w hSw; (try dsimp only at hSw); go_simp; try with_reducible rfl)
      try simp only [Act.put, List.getElem_toArray, List.getElem_cons_succ, List.getElem_cons_zero, List.setIfInBounds_toArray, List.set_cons_zero, List.set_cons_succ]
      refine' wpAnyH_take (i := 16) (v := _) rfl (by kernel_rfl) (by kernel_rfl) (by kernel_rfl) (fun _ _ _ h => h) (Or.inl ⟨by kernel_rfl, ?hy17x79⟩) (by assumption) ?rest17x79
      case hy17x79 => (intro w hSw; (try dsimp only at hSw); go_simp; try with_reducible rfl)
      try simp only [Act.put, List.getElem_toArray, List.getElem_cons_succ, List.getElem_cons_zero, List.setIfInBounds_toArray, List.set_cons_zero, List.set_cons_succ]
      refine' wpAnyH_take (i := 17) (v := _) rfl (by kernel_rfl) (by kernel_rfl) (by kernel_rfl) (fun _ _ _ h => h) (Or.inl ⟨by kernel_rfl, ?hy18x80⟩) (by assumption) ?rest18x80
      case hy18x80 => (intro w hSw; (try dsimp only at hSw); go_simp; try with_reducible rfl)
      try simp only [Act.put, List.getElem_toArray, List.getElem_cons_succ, List.getElem_cons_zero, List.setIfInBounds_toArray, List.set_cons_zero, List.set_cons_succ]
      refine' wpAnyH_take (i := 18) (v := _) rfl (by kernel_rfl) (by kernel_rfl) (by kernel_rfl) (fun _ _ _ h => h) (Or.inl ⟨by kernel_rfl, ?hy19x81⟩) (by assumption) ?rest19x81
      case hy19x81 => (intro w hSw; (try dsimp only at hSw); go_simp; try with_reducible rfl)
      try simp only [Act.put, List.getElem_toArray, List.getElem_cons_succ, List.getElem_cons_zero, List.setIfInBounds_toArray, List.set_cons_zero, List.set_cons_succ]
      refine' wpAnyH_take (i := 19) (v := _) rfl (by kernel_rfl) (by kernel_rfl) (by kernel_rfl) (fun _ _ _ h => h) (Or.inl ⟨by kernel_rfl, ?hy20x82⟩) (by assumption) ?rest20x82
      case hy20x82 => (intro w hSw; (try dsimp only at hSw); go_simp; try with_reducible rfl)
      try simp only [Act.put, List.getElem_toArray, List.getElem_cons_succ, List.getElem_cons_zero, List.setIfInBounds_toArray, List.set_cons_zero, List.set_cons_succ]
      refine' wpAnyH_take (i := 20) (v := _) rfl (by kernel_rfl) (by kernel_rfl) (by kernel_rfl) (fun _ _ _ h => h) (Or.inl ⟨by kernel_rfl, ?hy21x83⟩) (by assumption) ?rest21x83
      case hy21x83 => (intro w hSw; (try dsimp only at hSw); go_simp; try with_reducible rfl)
      try simp only [Act.put, List.getElem_toArray, List.getElem_cons_succ, List.getElem_cons_zero, List.setIfInBounds_toArray, List.set_cons_zero, List.set_cons_succ]
      refine' wpAnyH_take (i := 21) (v := _) rfl (by kernel_rfl) (by kernel_rfl) (by kernel_rfl) (fun _ _ _ h => h) (Or.inl ⟨by kernel_rfl, ?hy22x84⟩) (by assumption) ?rest22x84
      case hy22x84 => (intro w hSw; (try dsimp only at hSw); go_simp; try with_reducible rfl)
      try simp only [Act.put, List.getElem_toArray, List.getElem_cons_succ, List.getElem_cons_zero, List.setIfInBounds_toArray, List.set_cons_zero, List.set_cons_succ]
      refine' wpAnyH_take (i := 22) (v := _) rfl (by kernel_rfl) (by kernel_rfl) (by kernel_rfl) (fun _ _ _ h => h) (Or.inl ⟨by kernel_rfl, ?hy23x85⟩) (by assumption) ?rest23x85
      case hy23x85 => (intro w hSw; (try dsimp only at hSw); go_simp; try with_reducible rfl)
      try simp only [Act.put, List.getElem_toArray, List.getElem_cons_succ, List.getElem_cons_zero, List.setIfInBounds_toArray, List.set_cons_zero, List.set_cons_succ]
      refine' wpAnyH_take (i := 23) (v := _) rfl (by kernel_rfl) (by kernel_rfl) (by kernel_rfl) (fun _ _ _ h => h) (Or.inl ⟨by kernel_rfl, ?hy24x86⟩) (by assumption) ?rest24x86
      case hy24x86 => (intro w hSw; (try dsimp only at hSw); go_simp; try with_reducible rfl)
      try simp only [Act.put, List.getElem_toArray, List.getElem_cons_succ, List.getElem_cons_zero, List.setIfInBounds_toArray, List.set_cons_zero, List.set_cons_succ]
      refine wpAnyH_ready (rs := [24]) (by kernel_rfl) (by simp) ?_
      refine AllReadyH.cons rfl (fun K hK => ?_) ?_
      rotate_left
      · exact AllReadyH.nil
      go_simp
      go_at_call 195
      refine (NW (setRo ro5 w5.heap.size (r + 25)) _).mono ?_
      rintro e w6 ⟨BB, ro6, rfl, b6, m6⟩
      have m6d : Mv (setRo ro5 w5.heap.size (r + 25)) [] Wf ro6 w6 := (Mv.refl (setRo ro5 w5.heap.size (r + 25)) [] Wf).drew.trans m6
      have x6 := XF.out.keep m6d (by simp)
      have hc6 := x6.blk.cell
      have hf6 := x6.blk.free
      have ha6 := (BF.out.keep m6d (by simp)).cell
      have hw6 := x6.was.at1w HVW.out HKW.out HYX.out
      unfold wcells at hc6
      rw [HB.out, HK.out, HVW.out] at hc6
      simp only [ptr, Option.isSome_none, Bool.false_eq_true, if_false] at hc6
      try dsimp only
      refine hK.out _ _ ⟨hc6 1, hc6 2, hc6 3, hc6 4, hc6 5, hc6 6, hc6 14, hc6 16, hc6 19, ha6 0, ha6 1, hw6⟩ (fun hHeld => ?_)
      clear hK K
      refine' wpAnyH_take (i := 25) (v := _) rfl (by kernel_rfl) (by kernel_rfl) (by kernel_rfl) (fun _ _ _ h => h) (Or.inl ⟨by kernel_rfl, ?hy25x87⟩) (by assumption) ?rest25x87
      case hy25x87 => (intro w hSw; (try dsimp only at hSw); go_simp; try with_reducible rfl)
      try simp only [Act.put, List.getElem_toArray, List.getElem_cons_succ, List.getElem_cons_zero, List.setIfInBounds_toArray, List.set_cons_zero, List.set_cons_succ]
      refine' wpAnyH_take (i := 26) (v := _) rfl (by kernel_rfl) (by kernel_rfl) (by kernel_rfl) (fun _ _ _ h => h) (Or.inl ⟨by kernel_rfl, ?hy26x88⟩) (by assumption) ?rest26x88
      case hy26x88 => (intro w hSw; (try dsimp only at hSw); go_simp; try with_reducible rfl)
      try simp only [Act.put, List.getElem_toArray, List.getElem_cons_succ, List.getElem_cons_zero, List.setIfInBounds_toArray, List.set_cons_zero, List.set_cons_succ]
      refine wpAnyH_ready (rs := [27]) (by kernel_rfl) (by simp) ?_
      refine AllReadyH.cons rfl (fun K hK => ?_) ?_
      rotate_left
      · exact AllReadyH.nil
      go_simp
      obtain ⟨x7, m7⟩ := x6.back0 b6
      have hc7 := x7.blk.cell
      have ha7 := ((BF.out.keep m6d (by simp)).keep m7 (by simp)).cell
      have hw7 := x7.was.at1w HVW.out HKW.out HYX.out
      unfold wcells at hc7
      rw [HK.out, HVW.out] at hc7
      simp only [ptr, Option.isSome_some, if_true] at hc7
      try dsimp only
      refine hK.out _ _ ⟨hc7 1, hc7 2, hc7 3, hc7 4, hc7 5, hc7 6, hc7 14, hc7 16, hc7 19, ha7 0, ha7 1, hw7⟩ (fun hHeld => ?_)
      clear hK K
      refine wpAnyH_done (by kernel_rfl) ?_ _
      refine NoPanic.normal ?_
      have X7 := Lib.hid x7
      have M7 := Lib.hid m7
      have M6 := Lib.hid m6d
      have B7 := Lib.hid (b6.keep m7 (by simp))
      have HM7 := Lib.hid ((HMF.out.keep m6d (by simp) (by simp)).keep m7 (by simp; omega) (by simp; omega))
      clear x7 m7 m6 m6d x6 hc6 hf6 ha6 hw6 ha7 hw7 hcF haF hwF b6
      generalize w6.setCell ⟨X, 18, none⟩ (.pointer (some ⟨BB, 0, none⟩)) = W7 at *
      go_wp2_with (go_at_call 196; refine (AW ro6 _ _ B7.out HM7.out).mono ?_; rintro e w8 ⟨rfl, b8, q8, m8⟩; have x8 := X7.out.put1 rfl m8 (by intro x hx; simp at hx; omega) b8; have hc8 := x8.blk.cell; unfold wcells at hc8; rw [HK.out, HVW.out] at hc8; simp only [ptr, Option.isSome_some, if_true] at hc8)
      go_quiet (fail)
      go_wp2
      go_end0
      exact ⟨rfl, ro6, _, x8.keep ((Mv.refl ro6 [] w8).drewN nq) (by simp), q8.keep ((Mv.refl ro6 [] w8).drewN nq) (by simp) (by simp), ((((NF.out.mono (by simp)).trans (M6.out.mono (by simp))).trans (M7.out.mono (by simp [wR]))).trans (m8.mono (by simp [wR]))).drewN nq⟩
end Go.Proofs.YtphaeodcomgffaaGreat
set_option linter.unusedVariables false
set_option linter.unusedSimpArgs false
namespace Go.Proofs.YtphaeodcomgffaaGreat
open Go.RowKit

/-! The writer: a step. -/
theorem wopened {ro : Nat → Nat} {r rm : Nat} {w w2 : World} {X C tag code args s q MB v words} {cnt : Int} (H : WIs ro r w X C tag code args s q) (Q : MemIs ro rm w2 MB v words true cnt) (m : Mv ro [rm] w ro w2) (hrm : rm + 1 < r ∨ r + 31 < rm) :
    WIs ro r (w2.setCell ⟨X, 12, none⟩ (.int .i64 (s.steps + 1))) X C tag code args s.more q ∧ MemIs ro rm (w2.setCell ⟨X, 12, none⟩ (.int .i64 (s.steps + 1))) MB v words true cnt ∧ Mv ro [rm, r + 20] w ro (w2.setCell ⟨X, 12, none⟩ (.int .i64 (s.steps + 1))) := by
  have x2 := H.keep m (by intro x hx; simp at hx; omega)
  have mX : Mv ro [r + 20] w2 ro (w2.setCell ⟨X, 12, none⟩ (.int .i64 (s.steps + 1))) := (Mv.refl _ _ _).setCell (p := ⟨X, 12, none⟩) (by show ro X ∈ _; rw [x2.blk.role]; simp) _
  exact ⟨x2.cells mX (x2.blk.put (i := 12) rfl) rfl (fun g hg => ⟨hg, rfl⟩) (fun g hg => hg) rfl, Q.keep mX (by simp; omega) (by simp; omega), (m.mono (by simp)).trans (mX.mono (by simp))⟩
set_option maxRecDepth 100000 in
set_option maxHeartbeats 2000000 in
theorem wst_1 {ro : Nat → Nat} {r rm : Nat} {w : World} {X : Nat} {C : Cfg} {tag : Int} {code : List Ins} {args : List Nat} {s : Wr} {q : Wp} {MB : Nat} {v : Value} {words : List Nat} {op : Bool} {cnt : Int} (h : WIs ro r w X C tag code args s q) (hm : MemIs ro rm w MB v words op cnt) (hrm : rm + 1 < r ∨ r + 31 < rm) (hl : (words.length : Int) = 3 + C.threads + 3 * C.cells) (hC : C.ok) (s0 : 0 ≤ s.steps) (s1 : s.steps ≤ 1000000) (hp : s.part = 1) (s' : Wr) (words' : List Nat) (op' : Bool) (cnt' : Int) (b : Bool) (hb : (s'.part == 9) = b)
    (FW : ∀ W, WIs ro r W X C tag code args s.more q → MemIs ro rm W MB v words true cnt → Calls Tryz.prog 148 #[ptr X, ptr MB] W (WrP ro r rm W X C tag code args s' MB v words' op' cnt' (.tuple #[]))) :
    Calls Tryz.prog 36 #[ptr X, ptr MB] w (WrP ro r rm w X C tag code args s' MB v words' op' cnt' (.tuple #[.bool b, .int .i64 0])) := by
  have hc := h.blk.cell
  have hlt := h.blk.lt
  obtain ⟨C1, C2, C3, C4, _⟩ := id hC
  have LW := fun W (mv : Mv ro [] w ro W) => mlen_walk (hm.keep mv (by simp) (by simp))
  have OW := fun W (mv : Mv ro [] w ro W) => open_walk (hm.keep mv (by simp) (by simp))
  have hle : ¬ (words.length : Int) < 3 + C.threads + 3 * C.cells := by omega
  unfold WrP at FW
  unfold wcells at hc
  rw [hp] at hc
  have hw : wnext 1 = .func (.func 148) #[] #[] := rfl
  rw [hw] at hc
  simp only [ptr] at hc LW OW FW ⊢
  have H := Lib.hid h
  have HP := Lib.hid hp
  have HW := Lib.hid hw
  have HRM := Lib.hid hrm
  have HBB := Lib.hid hb
  clear h hm hl hp hw hb
  go_enter Tryz.func36, Tryz.ntmps36
  go_wp2
  go_quiet ((go_at_call 61; exact Calls.quiet_of_same ((LW _ ((Mv.refl _ _ _).drewN _)).mono fun e w' h => ⟨h.1, h.2⟩)))
  go_wp2_with (first
    | (go_at_call 62; refine (OW _ ((Mv.refl _ _ _).drewN _)).mono ?_; rintro e w2 ⟨rfl, q2, m2⟩; have m2' : Mv ro [rm] w ro w2 := (((Mv.refl ro [] w).drewN _).mono (by simp)).trans (m2.mono (by simp)); obtain ⟨H3, Q3, M3⟩ := wopened H.out q2 m2' HRM.out; have x2 := H.out.blk.keep m2' (by simp; have := HRM.out; omega); have hc2 := x2.cell; have hf2 := x2.free; have hlt2 := x2.lt; unfold wcells at hc2; rw [HP.out, HW.out] at hc2; simp only [ptr] at hc2; have K3 := Lib.hid H3; have J3 := Lib.hid Q3; clear H3 Q3)
    | (go_at_call 148; refine (FW _ K3.out J3.out).mono ?_; rintro e w4 ⟨rfl, ro4, q4, h4, n4, m4⟩; have hc4 := h4.blk.cell; unfold wcells at hc4; simp only [ptr] at hc4))
  go_ret2
  exact ⟨by rw [← HBB.out]; rfl, ro4, q4, h4, n4, (M3.mono (by simp [wR])).trans m4⟩
set_option maxRecDepth 100000 in
set_option maxHeartbeats 2000000 in
theorem wst_2 {ro : Nat → Nat} {r rm : Nat} {w : World} {X : Nat} {C : Cfg} {tag : Int} {code : List Ins} {args : List Nat} {s : Wr} {q : Wp} {MB : Nat} {v : Value} {words : List Nat} {op : Bool} {cnt : Int} (h : WIs ro r w X C tag code args s q) (hm : MemIs ro rm w MB v words op cnt) (hrm : rm + 1 < r ∨ r + 31 < rm) (hl : (words.length : Int) = 3 + C.threads + 3 * C.cells) (hC : C.ok) (s0 : 0 ≤ s.steps) (s1 : s.steps ≤ 1000000) (hp : s.part = 2) (s' : Wr) (words' : List Nat) (op' : Bool) (cnt' : Int) (b : Bool) (hb : (s'.part == 9) = b)
    (FW : ∀ W, WIs ro r W X C tag code args s.more q → MemIs ro rm W MB v words true cnt → Calls Tryz.prog 149 #[ptr X, ptr MB] W (WrP ro r rm W X C tag code args s' MB v words' op' cnt' (.tuple #[]))) :
    Calls Tryz.prog 36 #[ptr X, ptr MB] w (WrP ro r rm w X C tag code args s' MB v words' op' cnt' (.tuple #[.bool b, .int .i64 0])) := by
  have hc := h.blk.cell
  have hlt := h.blk.lt
  obtain ⟨C1, C2, C3, C4, _⟩ := id hC
  have LW := fun W (mv : Mv ro [] w ro W) => mlen_walk (hm.keep mv (by simp) (by simp))
  have OW := fun W (mv : Mv ro [] w ro W) => open_walk (hm.keep mv (by simp) (by simp))
  have hle : ¬ (words.length : Int) < 3 + C.threads + 3 * C.cells := by omega
  unfold WrP at FW
  unfold wcells at hc
  rw [hp] at hc
  have hw : wnext 2 = .func (.func 149) #[] #[] := rfl
  rw [hw] at hc
  simp only [ptr] at hc LW OW FW ⊢
  have H := Lib.hid h
  have HP := Lib.hid hp
  have HW := Lib.hid hw
  have HRM := Lib.hid hrm
  have HBB := Lib.hid hb
  clear h hm hl hp hw hb
  go_enter Tryz.func36, Tryz.ntmps36
  go_wp2
  go_quiet ((go_at_call 61; exact Calls.quiet_of_same ((LW _ ((Mv.refl _ _ _).drewN _)).mono fun e w' h => ⟨h.1, h.2⟩)))
  go_wp2_with (first
    | (go_at_call 62; refine (OW _ ((Mv.refl _ _ _).drewN _)).mono ?_; rintro e w2 ⟨rfl, q2, m2⟩; have m2' : Mv ro [rm] w ro w2 := (((Mv.refl ro [] w).drewN _).mono (by simp)).trans (m2.mono (by simp)); obtain ⟨H3, Q3, M3⟩ := wopened H.out q2 m2' HRM.out; have x2 := H.out.blk.keep m2' (by simp; have := HRM.out; omega); have hc2 := x2.cell; have hf2 := x2.free; have hlt2 := x2.lt; unfold wcells at hc2; rw [HP.out, HW.out] at hc2; simp only [ptr] at hc2; have K3 := Lib.hid H3; have J3 := Lib.hid Q3; clear H3 Q3)
    | (go_at_call 149; refine (FW _ K3.out J3.out).mono ?_; rintro e w4 ⟨rfl, ro4, q4, h4, n4, m4⟩; have hc4 := h4.blk.cell; unfold wcells at hc4; simp only [ptr] at hc4))
  go_ret2
  exact ⟨by rw [← HBB.out]; rfl, ro4, q4, h4, n4, (M3.mono (by simp [wR])).trans m4⟩
set_option maxRecDepth 100000 in
set_option maxHeartbeats 2000000 in
theorem wst_3 {ro : Nat → Nat} {r rm : Nat} {w : World} {X : Nat} {C : Cfg} {tag : Int} {code : List Ins} {args : List Nat} {s : Wr} {q : Wp} {MB : Nat} {v : Value} {words : List Nat} {op : Bool} {cnt : Int} (h : WIs ro r w X C tag code args s q) (hm : MemIs ro rm w MB v words op cnt) (hrm : rm + 1 < r ∨ r + 31 < rm) (hl : (words.length : Int) = 3 + C.threads + 3 * C.cells) (hC : C.ok) (s0 : 0 ≤ s.steps) (s1 : s.steps ≤ 1000000) (hp : s.part = 3) (s' : Wr) (words' : List Nat) (op' : Bool) (cnt' : Int) (b : Bool) (hb : (s'.part == 9) = b)
    (FW : ∀ W, WIs ro r W X C tag code args s.more q → MemIs ro rm W MB v words true cnt → Calls Tryz.prog 150 #[ptr X, ptr MB] W (WrP ro r rm W X C tag code args s' MB v words' op' cnt' (.tuple #[]))) :
    Calls Tryz.prog 36 #[ptr X, ptr MB] w (WrP ro r rm w X C tag code args s' MB v words' op' cnt' (.tuple #[.bool b, .int .i64 0])) := by
  have hc := h.blk.cell
  have hlt := h.blk.lt
  obtain ⟨C1, C2, C3, C4, _⟩ := id hC
  have LW := fun W (mv : Mv ro [] w ro W) => mlen_walk (hm.keep mv (by simp) (by simp))
  have OW := fun W (mv : Mv ro [] w ro W) => open_walk (hm.keep mv (by simp) (by simp))
  have hle : ¬ (words.length : Int) < 3 + C.threads + 3 * C.cells := by omega
  unfold WrP at FW
  unfold wcells at hc
  rw [hp] at hc
  have hw : wnext 3 = .func (.func 150) #[] #[] := rfl
  rw [hw] at hc
  simp only [ptr] at hc LW OW FW ⊢
  have H := Lib.hid h
  have HP := Lib.hid hp
  have HW := Lib.hid hw
  have HRM := Lib.hid hrm
  have HBB := Lib.hid hb
  clear h hm hl hp hw hb
  go_enter Tryz.func36, Tryz.ntmps36
  go_wp2
  go_quiet ((go_at_call 61; exact Calls.quiet_of_same ((LW _ ((Mv.refl _ _ _).drewN _)).mono fun e w' h => ⟨h.1, h.2⟩)))
  go_wp2_with (first
    | (go_at_call 62; refine (OW _ ((Mv.refl _ _ _).drewN _)).mono ?_; rintro e w2 ⟨rfl, q2, m2⟩; have m2' : Mv ro [rm] w ro w2 := (((Mv.refl ro [] w).drewN _).mono (by simp)).trans (m2.mono (by simp)); obtain ⟨H3, Q3, M3⟩ := wopened H.out q2 m2' HRM.out; have x2 := H.out.blk.keep m2' (by simp; have := HRM.out; omega); have hc2 := x2.cell; have hf2 := x2.free; have hlt2 := x2.lt; unfold wcells at hc2; rw [HP.out, HW.out] at hc2; simp only [ptr] at hc2; have K3 := Lib.hid H3; have J3 := Lib.hid Q3; clear H3 Q3)
    | (go_at_call 150; refine (FW _ K3.out J3.out).mono ?_; rintro e w4 ⟨rfl, ro4, q4, h4, n4, m4⟩; have hc4 := h4.blk.cell; unfold wcells at hc4; simp only [ptr] at hc4))
  go_ret2
  exact ⟨by rw [← HBB.out]; rfl, ro4, q4, h4, n4, (M3.mono (by simp [wR])).trans m4⟩
set_option maxRecDepth 100000 in
set_option maxHeartbeats 2000000 in
theorem wst_4 {ro : Nat → Nat} {r rm : Nat} {w : World} {X : Nat} {C : Cfg} {tag : Int} {code : List Ins} {args : List Nat} {s : Wr} {q : Wp} {MB : Nat} {v : Value} {words : List Nat} {op : Bool} {cnt : Int} (h : WIs ro r w X C tag code args s q) (hm : MemIs ro rm w MB v words op cnt) (hrm : rm + 1 < r ∨ r + 31 < rm) (hl : (words.length : Int) = 3 + C.threads + 3 * C.cells) (hC : C.ok) (s0 : 0 ≤ s.steps) (s1 : s.steps ≤ 1000000) (hp : s.part = 4) (s' : Wr) (words' : List Nat) (op' : Bool) (cnt' : Int) (b : Bool) (hb : (s'.part == 9) = b)
    (FW : ∀ W, WIs ro r W X C tag code args s.more q → MemIs ro rm W MB v words true cnt → Calls Tryz.prog 151 #[ptr X, ptr MB] W (WrP ro r rm W X C tag code args s' MB v words' op' cnt' (.tuple #[]))) :
    Calls Tryz.prog 36 #[ptr X, ptr MB] w (WrP ro r rm w X C tag code args s' MB v words' op' cnt' (.tuple #[.bool b, .int .i64 0])) := by
  have hc := h.blk.cell
  have hlt := h.blk.lt
  obtain ⟨C1, C2, C3, C4, _⟩ := id hC
  have LW := fun W (mv : Mv ro [] w ro W) => mlen_walk (hm.keep mv (by simp) (by simp))
  have OW := fun W (mv : Mv ro [] w ro W) => open_walk (hm.keep mv (by simp) (by simp))
  have hle : ¬ (words.length : Int) < 3 + C.threads + 3 * C.cells := by omega
  unfold WrP at FW
  unfold wcells at hc
  rw [hp] at hc
  have hw : wnext 4 = .func (.func 151) #[] #[] := rfl
  rw [hw] at hc
  simp only [ptr] at hc LW OW FW ⊢
  have H := Lib.hid h
  have HP := Lib.hid hp
  have HW := Lib.hid hw
  have HRM := Lib.hid hrm
  have HBB := Lib.hid hb
  clear h hm hl hp hw hb
  go_enter Tryz.func36, Tryz.ntmps36
  go_wp2
  go_quiet ((go_at_call 61; exact Calls.quiet_of_same ((LW _ ((Mv.refl _ _ _).drewN _)).mono fun e w' h => ⟨h.1, h.2⟩)))
  go_wp2_with (first
    | (go_at_call 62; refine (OW _ ((Mv.refl _ _ _).drewN _)).mono ?_; rintro e w2 ⟨rfl, q2, m2⟩; have m2' : Mv ro [rm] w ro w2 := (((Mv.refl ro [] w).drewN _).mono (by simp)).trans (m2.mono (by simp)); obtain ⟨H3, Q3, M3⟩ := wopened H.out q2 m2' HRM.out; have x2 := H.out.blk.keep m2' (by simp; have := HRM.out; omega); have hc2 := x2.cell; have hf2 := x2.free; have hlt2 := x2.lt; unfold wcells at hc2; rw [HP.out, HW.out] at hc2; simp only [ptr] at hc2; have K3 := Lib.hid H3; have J3 := Lib.hid Q3; clear H3 Q3)
    | (go_at_call 151; refine (FW _ K3.out J3.out).mono ?_; rintro e w4 ⟨rfl, ro4, q4, h4, n4, m4⟩; have hc4 := h4.blk.cell; unfold wcells at hc4; simp only [ptr] at hc4))
  go_ret2
  exact ⟨by rw [← HBB.out]; rfl, ro4, q4, h4, n4, (M3.mono (by simp [wR])).trans m4⟩
set_option maxRecDepth 100000 in
set_option maxHeartbeats 2000000 in
theorem wst_5 {ro : Nat → Nat} {r rm : Nat} {w : World} {X : Nat} {C : Cfg} {tag : Int} {code : List Ins} {args : List Nat} {s : Wr} {q : Wp} {MB : Nat} {v : Value} {words : List Nat} {op : Bool} {cnt : Int} (h : WIs ro r w X C tag code args s q) (hm : MemIs ro rm w MB v words op cnt) (hrm : rm + 1 < r ∨ r + 31 < rm) (hl : (words.length : Int) = 3 + C.threads + 3 * C.cells) (hC : C.ok) (s0 : 0 ≤ s.steps) (s1 : s.steps ≤ 1000000) (hp : s.part = 5) (s' : Wr) (words' : List Nat) (op' : Bool) (cnt' : Int) (b : Bool) (hb : (s'.part == 9) = b)
    (FW : ∀ W, WIs ro r W X C tag code args s.more q → MemIs ro rm W MB v words true cnt → Calls Tryz.prog 152 #[ptr X, ptr MB] W (WrP ro r rm W X C tag code args s' MB v words' op' cnt' (.tuple #[]))) :
    Calls Tryz.prog 36 #[ptr X, ptr MB] w (WrP ro r rm w X C tag code args s' MB v words' op' cnt' (.tuple #[.bool b, .int .i64 0])) := by
  have hc := h.blk.cell
  have hlt := h.blk.lt
  obtain ⟨C1, C2, C3, C4, _⟩ := id hC
  have LW := fun W (mv : Mv ro [] w ro W) => mlen_walk (hm.keep mv (by simp) (by simp))
  have OW := fun W (mv : Mv ro [] w ro W) => open_walk (hm.keep mv (by simp) (by simp))
  have hle : ¬ (words.length : Int) < 3 + C.threads + 3 * C.cells := by omega
  unfold WrP at FW
  unfold wcells at hc
  rw [hp] at hc
  have hw : wnext 5 = .func (.func 152) #[] #[] := rfl
  rw [hw] at hc
  simp only [ptr] at hc LW OW FW ⊢
  have H := Lib.hid h
  have HP := Lib.hid hp
  have HW := Lib.hid hw
  have HRM := Lib.hid hrm
  have HBB := Lib.hid hb
  clear h hm hl hp hw hb
  go_enter Tryz.func36, Tryz.ntmps36
  go_wp2
  go_quiet ((go_at_call 61; exact Calls.quiet_of_same ((LW _ ((Mv.refl _ _ _).drewN _)).mono fun e w' h => ⟨h.1, h.2⟩)))
  go_wp2_with (first
    | (go_at_call 62; refine (OW _ ((Mv.refl _ _ _).drewN _)).mono ?_; rintro e w2 ⟨rfl, q2, m2⟩; have m2' : Mv ro [rm] w ro w2 := (((Mv.refl ro [] w).drewN _).mono (by simp)).trans (m2.mono (by simp)); obtain ⟨H3, Q3, M3⟩ := wopened H.out q2 m2' HRM.out; have x2 := H.out.blk.keep m2' (by simp; have := HRM.out; omega); have hc2 := x2.cell; have hf2 := x2.free; have hlt2 := x2.lt; unfold wcells at hc2; rw [HP.out, HW.out] at hc2; simp only [ptr] at hc2; have K3 := Lib.hid H3; have J3 := Lib.hid Q3; clear H3 Q3)
    | (go_at_call 152; refine (FW _ K3.out J3.out).mono ?_; rintro e w4 ⟨rfl, ro4, q4, h4, n4, m4⟩; have hc4 := h4.blk.cell; unfold wcells at hc4; simp only [ptr] at hc4))
  go_ret2
  exact ⟨by rw [← HBB.out]; rfl, ro4, q4, h4, n4, (M3.mono (by simp [wR])).trans m4⟩
set_option maxRecDepth 100000 in
set_option maxHeartbeats 2000000 in
theorem wst_6 {ro : Nat → Nat} {r rm : Nat} {w : World} {X : Nat} {C : Cfg} {tag : Int} {code : List Ins} {args : List Nat} {s : Wr} {q : Wp} {MB : Nat} {v : Value} {words : List Nat} {op : Bool} {cnt : Int} (h : WIs ro r w X C tag code args s q) (hm : MemIs ro rm w MB v words op cnt) (hrm : rm + 1 < r ∨ r + 31 < rm) (hl : (words.length : Int) = 3 + C.threads + 3 * C.cells) (hC : C.ok) (s0 : 0 ≤ s.steps) (s1 : s.steps ≤ 1000000) (hp : s.part = 6) (s' : Wr) (words' : List Nat) (op' : Bool) (cnt' : Int) (b : Bool) (hb : (s'.part == 9) = b)
    (FW : ∀ W, WIs ro r W X C tag code args s.more q → MemIs ro rm W MB v words true cnt → Calls Tryz.prog 153 #[ptr X, ptr MB] W (WrP ro r rm W X C tag code args s' MB v words' op' cnt' (.tuple #[]))) :
    Calls Tryz.prog 36 #[ptr X, ptr MB] w (WrP ro r rm w X C tag code args s' MB v words' op' cnt' (.tuple #[.bool b, .int .i64 0])) := by
  have hc := h.blk.cell
  have hlt := h.blk.lt
  obtain ⟨C1, C2, C3, C4, _⟩ := id hC
  have LW := fun W (mv : Mv ro [] w ro W) => mlen_walk (hm.keep mv (by simp) (by simp))
  have OW := fun W (mv : Mv ro [] w ro W) => open_walk (hm.keep mv (by simp) (by simp))
  have hle : ¬ (words.length : Int) < 3 + C.threads + 3 * C.cells := by omega
  unfold WrP at FW
  unfold wcells at hc
  rw [hp] at hc
  have hw : wnext 6 = .func (.func 153) #[] #[] := rfl
  rw [hw] at hc
  simp only [ptr] at hc LW OW FW ⊢
  have H := Lib.hid h
  have HP := Lib.hid hp
  have HW := Lib.hid hw
  have HRM := Lib.hid hrm
  have HBB := Lib.hid hb
  clear h hm hl hp hw hb
  go_enter Tryz.func36, Tryz.ntmps36
  go_wp2
  go_quiet ((go_at_call 61; exact Calls.quiet_of_same ((LW _ ((Mv.refl _ _ _).drewN _)).mono fun e w' h => ⟨h.1, h.2⟩)))
  go_wp2_with (first
    | (go_at_call 62; refine (OW _ ((Mv.refl _ _ _).drewN _)).mono ?_; rintro e w2 ⟨rfl, q2, m2⟩; have m2' : Mv ro [rm] w ro w2 := (((Mv.refl ro [] w).drewN _).mono (by simp)).trans (m2.mono (by simp)); obtain ⟨H3, Q3, M3⟩ := wopened H.out q2 m2' HRM.out; have x2 := H.out.blk.keep m2' (by simp; have := HRM.out; omega); have hc2 := x2.cell; have hf2 := x2.free; have hlt2 := x2.lt; unfold wcells at hc2; rw [HP.out, HW.out] at hc2; simp only [ptr] at hc2; have K3 := Lib.hid H3; have J3 := Lib.hid Q3; clear H3 Q3)
    | (go_at_call 153; refine (FW _ K3.out J3.out).mono ?_; rintro e w4 ⟨rfl, ro4, q4, h4, n4, m4⟩; have hc4 := h4.blk.cell; unfold wcells at hc4; simp only [ptr] at hc4))
  go_ret2
  exact ⟨by rw [← HBB.out]; rfl, ro4, q4, h4, n4, (M3.mono (by simp [wR])).trans m4⟩
set_option maxRecDepth 100000 in
set_option maxHeartbeats 2000000 in
theorem wst_7 {ro : Nat → Nat} {r rm : Nat} {w : World} {X : Nat} {C : Cfg} {tag : Int} {code : List Ins} {args : List Nat} {s : Wr} {q : Wp} {MB : Nat} {v : Value} {words : List Nat} {op : Bool} {cnt : Int} (h : WIs ro r w X C tag code args s q) (hm : MemIs ro rm w MB v words op cnt) (hrm : rm + 1 < r ∨ r + 31 < rm) (hl : (words.length : Int) = 3 + C.threads + 3 * C.cells) (hC : C.ok) (s0 : 0 ≤ s.steps) (s1 : s.steps ≤ 1000000) (hp : s.part = 7) (s' : Wr) (words' : List Nat) (op' : Bool) (cnt' : Int) (b : Bool) (hb : (s'.part == 9) = b)
    (FW : ∀ W, WIs ro r W X C tag code args s.more q → MemIs ro rm W MB v words true cnt → Calls Tryz.prog 154 #[ptr X, ptr MB] W (WrP ro r rm W X C tag code args s' MB v words' op' cnt' (.tuple #[]))) :
    Calls Tryz.prog 36 #[ptr X, ptr MB] w (WrP ro r rm w X C tag code args s' MB v words' op' cnt' (.tuple #[.bool b, .int .i64 0])) := by
  have hc := h.blk.cell
  have hlt := h.blk.lt
  obtain ⟨C1, C2, C3, C4, _⟩ := id hC
  have LW := fun W (mv : Mv ro [] w ro W) => mlen_walk (hm.keep mv (by simp) (by simp))
  have OW := fun W (mv : Mv ro [] w ro W) => open_walk (hm.keep mv (by simp) (by simp))
  have hle : ¬ (words.length : Int) < 3 + C.threads + 3 * C.cells := by omega
  unfold WrP at FW
  unfold wcells at hc
  rw [hp] at hc
  have hw : wnext 7 = .func (.func 154) #[] #[] := rfl
  rw [hw] at hc
  simp only [ptr] at hc LW OW FW ⊢
  have H := Lib.hid h
  have HP := Lib.hid hp
  have HW := Lib.hid hw
  have HRM := Lib.hid hrm
  have HBB := Lib.hid hb
  clear h hm hl hp hw hb
  go_enter Tryz.func36, Tryz.ntmps36
  go_wp2
  go_quiet ((go_at_call 61; exact Calls.quiet_of_same ((LW _ ((Mv.refl _ _ _).drewN _)).mono fun e w' h => ⟨h.1, h.2⟩)))
  go_wp2_with (first
    | (go_at_call 62; refine (OW _ ((Mv.refl _ _ _).drewN _)).mono ?_; rintro e w2 ⟨rfl, q2, m2⟩; have m2' : Mv ro [rm] w ro w2 := (((Mv.refl ro [] w).drewN _).mono (by simp)).trans (m2.mono (by simp)); obtain ⟨H3, Q3, M3⟩ := wopened H.out q2 m2' HRM.out; have x2 := H.out.blk.keep m2' (by simp; have := HRM.out; omega); have hc2 := x2.cell; have hf2 := x2.free; have hlt2 := x2.lt; unfold wcells at hc2; rw [HP.out, HW.out] at hc2; simp only [ptr] at hc2; have K3 := Lib.hid H3; have J3 := Lib.hid Q3; clear H3 Q3)
    | (go_at_call 154; refine (FW _ K3.out J3.out).mono ?_; rintro e w4 ⟨rfl, ro4, q4, h4, n4, m4⟩; have hc4 := h4.blk.cell; unfold wcells at hc4; simp only [ptr] at hc4))
  go_ret2
  exact ⟨by rw [← HBB.out]; rfl, ro4, q4, h4, n4, (M3.mono (by simp [wR])).trans m4⟩
set_option maxRecDepth 100000 in
set_option maxHeartbeats 2000000 in
theorem wst_8 {ro : Nat → Nat} {r rm : Nat} {w : World} {X : Nat} {C : Cfg} {tag : Int} {code : List Ins} {args : List Nat} {s : Wr} {q : Wp} {MB : Nat} {v : Value} {words : List Nat} {op : Bool} {cnt : Int} (h : WIs ro r w X C tag code args s q) (hm : MemIs ro rm w MB v words op cnt) (hrm : rm + 1 < r ∨ r + 31 < rm) (hl : (words.length : Int) = 3 + C.threads + 3 * C.cells) (hC : C.ok) (s0 : 0 ≤ s.steps) (s1 : s.steps ≤ 1000000) (hp : s.part = 8) (s' : Wr) (words' : List Nat) (op' : Bool) (cnt' : Int) (b : Bool) (hb : (s'.part == 9) = b)
    (FW : ∀ W, WIs ro r W X C tag code args s.more q → MemIs ro rm W MB v words true cnt → Calls Tryz.prog 155 #[ptr X, ptr MB] W (WrP ro r rm W X C tag code args s' MB v words' op' cnt' (.tuple #[]))) :
    Calls Tryz.prog 36 #[ptr X, ptr MB] w (WrP ro r rm w X C tag code args s' MB v words' op' cnt' (.tuple #[.bool b, .int .i64 0])) := by
  have hc := h.blk.cell
  have hlt := h.blk.lt
  obtain ⟨C1, C2, C3, C4, _⟩ := id hC
  have LW := fun W (mv : Mv ro [] w ro W) => mlen_walk (hm.keep mv (by simp) (by simp))
  have OW := fun W (mv : Mv ro [] w ro W) => open_walk (hm.keep mv (by simp) (by simp))
  have hle : ¬ (words.length : Int) < 3 + C.threads + 3 * C.cells := by omega
  unfold WrP at FW
  unfold wcells at hc
  rw [hp] at hc
  have hw : wnext 8 = .func (.func 155) #[] #[] := rfl
  rw [hw] at hc
  simp only [ptr] at hc LW OW FW ⊢
  have H := Lib.hid h
  have HP := Lib.hid hp
  have HW := Lib.hid hw
  have HRM := Lib.hid hrm
  have HBB := Lib.hid hb
  clear h hm hl hp hw hb
  go_enter Tryz.func36, Tryz.ntmps36
  go_wp2
  go_quiet ((go_at_call 61; exact Calls.quiet_of_same ((LW _ ((Mv.refl _ _ _).drewN _)).mono fun e w' h => ⟨h.1, h.2⟩)))
  go_wp2_with (first
    | (go_at_call 62; refine (OW _ ((Mv.refl _ _ _).drewN _)).mono ?_; rintro e w2 ⟨rfl, q2, m2⟩; have m2' : Mv ro [rm] w ro w2 := (((Mv.refl ro [] w).drewN _).mono (by simp)).trans (m2.mono (by simp)); obtain ⟨H3, Q3, M3⟩ := wopened H.out q2 m2' HRM.out; have x2 := H.out.blk.keep m2' (by simp; have := HRM.out; omega); have hc2 := x2.cell; have hf2 := x2.free; have hlt2 := x2.lt; unfold wcells at hc2; rw [HP.out, HW.out] at hc2; simp only [ptr] at hc2; have K3 := Lib.hid H3; have J3 := Lib.hid Q3; clear H3 Q3)
    | (go_at_call 155; refine (FW _ K3.out J3.out).mono ?_; rintro e w4 ⟨rfl, ro4, q4, h4, n4, m4⟩; have hc4 := h4.blk.cell; unfold wcells at hc4; simp only [ptr] at hc4))
  go_ret2
  exact ⟨by rw [← HBB.out]; rfl, ro4, q4, h4, n4, (M3.mono (by simp [wR])).trans m4⟩
set_option maxRecDepth 100000 in
set_option maxHeartbeats 1000000 in
/-- A memory that has too few words. -/
theorem wst_small {ro : Nat → Nat} {r rm : Nat} {w : World} {X : Nat} {C : Cfg} {tag : Int} {code : List Ins} {args : List Nat} {s : Wr} {q : Wp} {MB : Nat} {v : Value} {words : List Nat} {op : Bool} {cnt : Int} (h : WIs ro r w X C tag code args s q) (hm : MemIs ro rm w MB v words op cnt) (hl : (words.length : Int) < 3 + C.threads + 3 * C.cells) :
    Calls Tryz.prog 36 #[ptr X, ptr MB] w fun e w' => e = .returned (.tuple #[.bool false, .int .i64 30]) ∧ ∃ n, w' = w.drewN n := by
  have hc := h.blk.cell
  have hlt := h.blk.lt
  have LW := fun W (mv : Mv ro [] w ro W) => mlen_walk (hm.keep mv (by simp) (by simp))
  unfold wcells at hc
  simp only [ptr] at hc LW ⊢
  clear h hm
  go_enter Tryz.func36, Tryz.ntmps36
  go_wp2
  go_quiet ((go_at_call 61; exact Calls.quiet_of_same ((LW _ ((Mv.refl _ _ _).drewN _)).mono fun e w' h => ⟨h.1, h.2⟩)))
  go_wp2
  go_ret2
  exact ⟨rfl, _, rfl⟩
end Go.Proofs.YtphaeodcomgffaaGreat
