import Derived.Test.YtphaeodcomgffaaGreatVC
import Derived.Test.YtphaeodcomgffaaGreatQF
import Derived.Test.YtphaeodcomgffaaGreatVJ
set_option linter.unusedVariables false
set_option linter.unusedSimpArgs false
namespace Go.Proofs.YtphaeodcomgffaaGreat
open Go.RowKit

/-! The writer: what holds of it all along. -/
/-- What a machine's step does to what it wrote. -/
def WrTo (C : Cfg) (m : Ms) (q : Ms × Ask) : Prop :=
  (q.2.kind = 3 ∧ 0 ≤ q.2.cell ∧ q.2.cell < C.cells ∧ q.1.writes.length = m.writes.length + (if q.2.first = true then 1 else 0)) ∨ (q.2.kind ≠ 3 ∧ q.1.writes = m.writes)
theorem reck_writes (m : Ms) (x : Ins) : (m.reck x).writes = m.writes := by
  unfold Ms.reck
  by_cases e : x.op = 1
  · rw [if_pos e]; rfl
  rw [if_neg e]; clear e
  by_cases e : x.op = 2
  · rw [if_pos e]; rfl
  rw [if_neg e]; clear e
  by_cases e : x.op = 3
  · rw [if_pos e]; rfl
  rw [if_neg e]; clear e
  by_cases e : x.op = 4
  · rw [if_pos e]; rfl
  rw [if_neg e]; clear e
  by_cases e : x.op = 5
  · rw [if_pos e]; rfl
  rw [if_neg e]; clear e
  by_cases e : x.op = 6
  · rw [if_pos e]; rfl
  rw [if_neg e]; clear e
  by_cases e : x.op = 7
  · rw [if_pos e]; rfl
  rw [if_neg e]; clear e
  by_cases e : x.op = 8
  · rw [if_pos e]; rfl
  rw [if_neg e]; clear e
  by_cases e : x.op = 9
  · rw [if_pos e]; rfl
  rw [if_neg e]; clear e
  by_cases e : x.op = 10
  · rw [if_pos e]; rfl
  rw [if_neg e]; clear e
  by_cases e : x.op = 18
  · rw [if_pos e]; rfl
  rw [if_neg e]
theorem put_len {most : Int} {l : List (Int × Nat)} {c : Int} {x : Nat} {p : List (Int × Nat) × Bool} (h : putS most l c x = some p) : p.1.length = l.length + (if p.2 = true then 1 else 0) := by
  unfold putS at h
  split at h
  · split at h
    · cases h
    · cases h; simp
  · cases h; simp [rewrite_len]
theorem do_writes {C : Cfg} {m : Ms} {x : Ins} {q : Ms × Ask} {tag : Int} (e : m.doS C tag x = .ok q) : WrTo C m q := by
  unfold Ms.doS at e
  split at e
  · unfold Ms.readS at e
    split at e
    · cases e
    · split at e
      · cases e; exact .inr ⟨by show (1 : Int) ≠ 3; decide, rfl⟩
      · cases e; exact .inr ⟨by show (2 : Int) ≠ 3; decide, rfl⟩
  split at e
  · unfold Ms.writeS at e
    split at e
    · cases e
    split at e
    · cases e
    · rename_i c hc
      split at e
      · cases e
      · rename_i p hp
        cases e
        exact .inl ⟨rfl, index_ge hc, index_lt hc, put_len hp⟩
  have no3 : askNone.kind ≠ 3 := by decide
  have no4 : askEnd.kind ≠ 3 := by decide
  split at e
  · cases e; exact .inr ⟨no4, rfl⟩
  split at e
  · cases e; exact .inr ⟨no4, rfl⟩
  split at e
  · cases e; exact .inr ⟨no3, rfl⟩
  split at e
  · cases e; exact .inr ⟨no3, rfl⟩
  split at e
  · cases e; exact .inr ⟨no3, rfl⟩
  split at e
  · split at e
    · cases e; exact .inr ⟨no4, rfl⟩
    · cases e; exact .inr ⟨no3, rfl⟩
  · cases e; exact .inr ⟨no3, reck_writes m x⟩
theorem step_writes {C : Cfg} {code : List Ins} {m : Ms} {tag : Int} : WrTo C m (m.step C tag code) := by
  have no4 : askEnd.kind ≠ 3 := by decide
  unfold Ms.step
  split
  · exact .inr ⟨by show (1 : Int) ≠ 3; decide, rfl⟩
  split
  · exact .inr ⟨no4, rfl⟩
  split
  · exact .inr ⟨no4, rfl⟩
  split
  · exact .inr ⟨no4, rfl⟩
  split
  · exact .inr ⟨no4, rfl⟩
  split
  · exact .inr ⟨no4, rfl⟩
  split
  · split
    · exact .inr ⟨no4, rfl⟩
    · rename_i r hr
      have k : WrTo C m.begin r := do_writes hr
      exact k
  · exact .inr ⟨no4, rfl⟩
theorem give_writes (m : Ms) (x : Nat) : (m.give x).1.writes = m.writes ∧ (m.give x).1.how = m.how ∧ (m.give x).1.bad = m.bad := by
  unfold Ms.give
  split <;> exact ⟨rfl, rfl, rfl⟩
/-- What holds of a writer all along. -/
structure Wwf (C : Cfg) (code : List Ins) (s : Wr) : Prop where
  wf : Wf C code s.m
  fit : FitA code s.m
  fix : FixA s.m
  len : s.m.bad = false → code.length ≤ 1024
  part1 : 1 ≤ s.part
  part9 : s.part ≤ 9
  idle : s.m.wait = none
  how : s.part ≤ 4 → s.m.how = 0
  howW : 5 ≤ s.part → s.part ≤ 7 → s.m.how = 1
  wasL : s.was.length = s.m.writes.length
  wasF : ∀ y ∈ s.was, fx y = y ∧ y < 18446744073709551616
  scan0 : s.part ≤ 4 → s.scan = none
  scan5 : s.part = 5 → ∃ g, s.scan = some g ∧ 0 ≤ g.1 ∧ g.1 < C.threads ∧ 0 ≤ g.2 ∧ g.2 ≤ s.steps
  steps : 0 ≤ s.steps
  written0 : 0 ≤ s.written
  w6 : s.part = 6 → s.written < s.was.length
  backP : ∀ b, s.back = some b → s.part = 6 ∧ 1 ≤ b.n ∧ b.n ≤ 2 ∧ 0 ≤ b.cell ∧ b.cell < C.cells
  written5 : s.part ≤ 5 → s.written = 0
theorem Wr.start_cell {C : Cfg} {code : List Ins} {s : Wr} (h : Wwf C code s) (h6 : s.part = 6) : ∃ k : Nat, s.written = k ∧ k < s.was.length ∧ k < s.m.writes.length ∧ ∃ cell x y, s.m.writes[k]? = some (cell, x) ∧ s.was[k]? = some y ∧ 0 ≤ cell ∧ cell < C.cells ∧ fx y = y ∧ fx x = x ∧ s.start = ⟨cell, y, inc64 s.stamp, x, 0⟩ := by
  have w0 := h.written0
  have w6 := h.w6 h6
  have wl := h.wasL
  obtain ⟨k, hk⟩ : ∃ k : Nat, s.written = k := ⟨s.written.toNat, by omega⟩
  have k1 : k < s.was.length := by omega
  have k2 : k < s.m.writes.length := by omega
  refine ⟨k, hk, k1, k2, (s.m.writes[k]).1, (s.m.writes[k]).2, s.was[k], List.getElem?_eq_getElem k2, List.getElem?_eq_getElem k1, (h.wf.writes _ (List.getElem_mem k2)).1, (h.wf.writes _ (List.getElem_mem k2)).2, (h.wasF _ (List.getElem_mem k1)).1, h.fix.writes _ (List.getElem_mem k2), ?_⟩
  unfold Wr.start
  rw [hk, Int.toNat_natCast, List.getD_eq_getElem?_getD, List.getD_eq_getElem?_getD, List.getElem?_eq_getElem k2, List.getElem?_eq_getElem k1]
  rfl
theorem give_idle (m : Ms) (x : Nat) : (m.give x).1.wait = none := by
  unfold Ms.give
  split
  · assumption
  · rfl
theorem getD_lt {words : List Nat} (hw : ∀ x ∈ words, x < 18446744073709551616) (i : Nat) : words.getD i 0 < 18446744073709551616 := by
  rw [List.getD_eq_getElem?_getD]
  rcases he : words[i]? with _ | y
  · decide
  · exact hw y (List.mem_of_getElem? he)
theorem runs_wwf {C : Cfg} {tag : Int} {code : List Ins} {words : List Nat} {s : Wr} (hC : C.ok) (h : Wwf C code s) (h4 : s.part = 4) (hw : ∀ x ∈ words, x < 18446744073709551616) : Wwf C code (s.more.runs C tag code words).1 := by
  have hT := hC.2.2.1
  have ST := step_to (C := C) (code := code) (tag := tag) h.idle
  have SW := step_writes (C := C) (code := code) (m := s.m) (tag := tag)
  have W1 := step_wf (C := C) (code := code) (tag := tag) h.wf
  have F1 := step_fix (C := C) (code := code) (tag := tag) h.fix
  have hb := mstep_bad (C := C) (code := code) (m := s.m) (tag := tag)
  have A1 := step_fit (C := C) (code := code) (tag := tag) h.fit
  have hh := h.how (by omega)
  have hs := h.scan0 (by omega)
  have nb : ∀ b, s.back = some b → False := fun b hb => by have := (h.backP b hb).1; omega
  have st := h.steps
  have wl := h.wasL
  unfold Wr.runs
  show Wwf C code (let q := s.m.step C tag code; _ : Wr × Bool).1
  obtain ⟨m1, a, hq⟩ : ∃ m1 a, s.m.step C tag code = (m1, a) := ⟨_, _, rfl⟩
  have hq' : s.more.m.step C tag code = (m1, a) := hq
  rw [hq] at ST SW W1 F1 hb A1
  simp only [hq']
  have hlen : m1.bad = false → code.length ≤ 1024 := fun e => h.len (hb ▸ e)
  have yfit : fx (words.getD (C.cellAt a.cell 1) 0) < 18446744073709551616 := fx_lt (getD_lt hw _)
  by_cases k1 : a.kind = 1
  · rw [if_pos k1]
    rcases ST with ⟨k, _⟩ | ⟨_, k2, k3, k4⟩ | ⟨_, k, _⟩
    · exact absurd (k1.symm.trans k) (by decide)
    · have wr : m1.writes = s.m.writes := by rcases SW with ⟨k, _⟩ | ⟨_, k⟩; exact absurd (k1.symm.trans k) (by decide); exact k
      obtain ⟨g1, g2, g3⟩ := give_writes m1 (fx (words.getD (C.cellAt a.cell 1) 0))
      refine ⟨give_wf W1 _, ?_, give_fix F1, fun e => hlen (g3 ▸ e), by show 1 ≤ s.part; omega, by show s.part ≤ 9; omega, give_idle _ _, fun _ => ?_, fun e => absurd e (by show ¬ 5 ≤ s.part; omega), ?_, h.wasF, fun _ => hs, fun e => absurd e (by show ¬ s.part = 5; omega), by show 0 ≤ s.steps + 1; omega, h.written0, fun e => absurd e (by show ¬ s.part = 6; omega), fun b hb => (nb b hb).elim, fun _ => h.written5 (by omega)⟩
      · exact give_fit A1 yfit
      · show (m1.give _).1.how = 0; rw [g2]; exact k4.trans hh
      · show s.was.length = (m1.give _).1.writes.length; rw [g1, wr]; exact wl
    · exact absurd k1 k
  rw [if_neg k1]
  by_cases k3 : a.kind = 3 ∧ a.first = true
  · rw [if_pos k3]
    have wr : m1.writes.length = s.m.writes.length + 1 := by
      rcases SW with ⟨_, _, _, k⟩ | ⟨k, _⟩
      · simp only at k; rw [k3.2] at k; exact k
      · exact absurd k3.1 k
    rcases ST with ⟨k, _⟩ | ⟨k, _⟩ | ⟨_, _, k5, _, k4⟩
    · exact absurd (k3.1.symm.trans k) (by decide)
    · exact absurd (k3.1.symm.trans k) (by decide)
    · refine ⟨W1, A1, F1, hlen, by show 1 ≤ s.part; omega, by show s.part ≤ 9; omega, k5, fun _ => k4.trans hh, fun e => absurd e (by show ¬ 5 ≤ s.part; omega), ?_, ?_, fun _ => hs, fun e => absurd e (by show ¬ s.part = 5; omega), by show 0 ≤ s.steps + 1; omega, h.written0, fun e => absurd e (by show ¬ s.part = 6; omega), fun b hb => (nb b hb).elim, fun _ => h.written5 (by omega)⟩
      · show (s.was ++ [_]).length = m1.writes.length
        rw [List.length_append, wr, wl]; rfl
      · intro y hy
        rcases List.mem_append.1 hy with h1 | h1
        · exact h.wasF y h1
        · simp only [List.mem_singleton] at h1
          rw [h1]
          exact ⟨fx_fx _, yfit⟩
  rw [if_neg k3]
  have wr : m1.writes.length = s.m.writes.length := by
    rcases SW with ⟨k, _, _, k5⟩ | ⟨_, k⟩
    · have hf : ¬ a.first = true := fun hf => k3 ⟨k, hf⟩
      simp only at k5; rw [if_neg hf] at k5; exact k5
    · exact congrArg List.length k
  by_cases k4 : a.kind = 4
  · rw [if_pos k4]
    rcases ST with ⟨_, k5, k6⟩ | ⟨k, _⟩ | ⟨k, _⟩
    · by_cases hw1 : m1.how = 1
      · rw [if_pos hw1]
        exact ⟨W1, A1, F1, hlen, by show (1 : Int) ≤ 5; decide, by show (5 : Int) ≤ 9; decide, k5, fun e => absurd e (by show ¬ (5 : Int) ≤ 4; decide), fun _ _ => hw1, wl.trans wr.symm, h.wasF, fun e => absurd e (by show ¬ (5 : Int) ≤ 4; decide), fun _ => ⟨(0, 0), rfl, Int.le_refl _, by show (0 : Int) < C.threads; omega, Int.le_refl _, by show (0 : Int) ≤ s.steps + 1; omega⟩, by show 0 ≤ s.steps + 1; omega, h.written0, fun e => absurd e (by show ¬ (5 : Int) = 6; decide), fun b hb => (nb b hb).elim, fun _ => h.written5 (by omega)⟩
      · rw [if_neg hw1]
        exact ⟨W1, A1, F1, hlen, by show (1 : Int) ≤ 8; decide, by show (8 : Int) ≤ 9; decide, k5, fun e => absurd e (by show ¬ (8 : Int) ≤ 4; decide), fun _ e => absurd e (by show ¬ (8 : Int) ≤ 7; decide), wl.trans wr.symm, h.wasF, fun e => absurd e (by show ¬ (8 : Int) ≤ 4; decide), fun e => absurd e (by show ¬ (8 : Int) = 5; decide), by show 0 ≤ s.steps + 1; omega, h.written0, fun e => absurd e (by show ¬ (8 : Int) = 6; decide), fun b hb => (nb b hb).elim, fun _ => h.written5 (by omega)⟩
    · exact absurd (k4.symm.trans k) (by decide)
    · exact absurd k4 k
  · rw [if_neg k4]
    rcases ST with ⟨k, _⟩ | ⟨k, _⟩ | ⟨_, _, k5, _, k6⟩
    · exact absurd k k4
    · exact absurd k k1
    · exact ⟨W1, A1, F1, hlen, by show 1 ≤ s.part; omega, by show s.part ≤ 9; omega, k5, fun _ => k6.trans hh, fun e => absurd e (by show ¬ 5 ≤ s.part; omega), wl.trans wr.symm, h.wasF, fun _ => hs, fun e => absurd e (by show ¬ s.part = 5; omega), by show 0 ≤ s.steps + 1; omega, h.written0, fun e => absurd e (by show ¬ s.part = 6; omega), fun b hb => (nb b hb).elim, fun _ => h.written5 (by omega)⟩
theorem step_wwf {C : Cfg} {tag : Int} {code : List Ins} {words : List Nat} {s : Wr} (hC : C.ok) (h : Wwf C code s) (hp : s.part ≤ 8) (hw : ∀ x ∈ words, x < 18446744073709551616) : Wwf C code (s.step C tag code words).1 := by
  have p1 := h.part1
  have st := h.steps
  have st1 : 0 ≤ s.steps + 1 := by omega
  unfold Wr.step
  by_cases e : s.part = 1
  · rw [if_pos e]
    exact ⟨h.wf, h.fit, h.fix, h.len, by show (1 : Int) ≤ 2; decide, by show (2 : Int) ≤ 9; decide, h.idle, fun _ => h.how (by omega), fun k => absurd k (by show ¬ 5 ≤ (2 : Int); decide), h.wasL, h.wasF, fun _ => h.scan0 (by omega), fun k => absurd k (by show ¬ (2 : Int) = 5; decide), st1, h.written0, fun k => absurd k (by show ¬ (2 : Int) = 6; decide), fun b hb => by have := (h.backP b hb).1; omega, fun _ => h.written5 (by omega)⟩
  rw [if_neg e]
  by_cases e2 : s.part = 2
  · rw [if_pos e2]
    have hx : (if words.getD 1 0 = s.ticket then (3 : Int) else 2) = 3 ∨ (if words.getD 1 0 = s.ticket then (3 : Int) else 2) = 2 := by split <;> simp
    refine ⟨h.wf, h.fit, h.fix, h.len, ?_, ?_, h.idle, fun _ => h.how (by omega), fun k => absurd k ?_, h.wasL, h.wasF, fun _ => h.scan0 (by omega), fun k => absurd k ?_, st1, h.written0, fun k => absurd k ?_, fun b hb => by have := (h.backP b hb).1; omega, fun _ => h.written5 (by omega)⟩
    · show 1 ≤ (if words.getD 1 0 = s.ticket then (3 : Int) else 2); omega
    · show (if words.getD 1 0 = s.ticket then (3 : Int) else 2) ≤ 9; omega
    · show ¬ 5 ≤ (if words.getD 1 0 = s.ticket then (3 : Int) else 2); omega
    · show ¬ (if words.getD 1 0 = s.ticket then (3 : Int) else 2) = 5; omega
    · show ¬ (if words.getD 1 0 = s.ticket then (3 : Int) else 2) = 6; omega
  rw [if_neg e2]
  by_cases e3 : s.part = 3
  · rw [if_pos e3]
    exact ⟨h.wf, h.fit, h.fix, h.len, by show (1 : Int) ≤ 4; decide, by show (4 : Int) ≤ 9; decide, h.idle, fun _ => h.how (by omega), fun k => absurd k (by show ¬ 5 ≤ (4 : Int); decide), h.wasL, h.wasF, fun _ => h.scan0 (by omega), fun k => absurd k (by show ¬ (4 : Int) = 5; decide), st1, h.written0, fun k => absurd k (by show ¬ (4 : Int) = 6; decide), fun b hb => by have := (h.backP b hb).1; omega, fun _ => h.written5 (by omega)⟩
  rw [if_neg e3]
  by_cases e4 : s.part = 4
  · rw [if_pos e4]
    exact runs_wwf hC h e4 hw
  rw [if_neg e4]
  have nb : s.part ≠ 6 → ∀ b, s.back = some b → False := fun n b hb => n (h.backP b hb).1
  by_cases e5 : s.part = 5
  · rw [if_pos e5]
    obtain ⟨g, hg, g0, g1, g2, g3⟩ := h.scan5 e5
    rw [hg]
    simp only [Option.getD_some]
    unfold Wr.scans
    simp only
    by_cases hx : words.getD (3 + g.1).toNat 0 ≠ 0 ∧ words.getD (3 + g.1).toNat 0 ≤ s.more.stamp
    · rw [if_pos hx]
      exact ⟨h.wf, h.fit, h.fix, h.len, p1, h.part9, h.idle, fun k => absurd k (by show ¬ s.part ≤ 4; omega), h.howW, h.wasL, h.wasF, fun k => absurd k (by show ¬ s.part ≤ 4; omega), fun _ => ⟨_, rfl, g0, g1, by show 0 ≤ g.2 + 1; omega, by show g.2 + 1 ≤ s.steps + 1; omega⟩, st1, h.written0, fun k => absurd k (by show ¬ s.part = 6; omega), fun b hb => (nb (by omega) b hb).elim, fun _ => h.written5 (by omega)⟩
    · rw [if_neg hx]
      have hpt : ∀ (P : Int → Prop), ((g.1 + 1 = C.threads ∧ 0 < s.was.length) → P 6) → ((g.1 + 1 = C.threads ∧ ¬ 0 < s.was.length) → P 7) → (g.1 + 1 ≠ C.threads → P 5) → P (if g.1 + 1 = C.threads then (if 0 < s.more.was.length then 6 else 7) else 5) := fun P a b c => by
        by_cases k : g.1 + 1 = C.threads
        · rw [if_pos k]
          by_cases k2 : 0 < s.was.length
          · rw [if_pos (show 0 < s.more.was.length from k2)]; exact a ⟨k, k2⟩
          · rw [if_neg (show ¬ 0 < s.more.was.length from k2)]; exact b ⟨k, k2⟩
        · rw [if_neg k]; exact c k
      have h1 := h.howW (by omega) (by omega)
      have w0 := h.written5 (by omega)
      refine ⟨h.wf, h.fit, h.fix, h.len, hpt (fun p => 1 ≤ p) (fun _ => by decide) (fun _ => by decide) (fun _ => by decide), hpt (fun p => p ≤ 9) (fun _ => by decide) (fun _ => by decide) (fun _ => by decide), h.idle, fun k => absurd k (hpt (fun p => ¬ p ≤ 4) (fun _ => by decide) (fun _ => by decide) (fun _ => by decide)), fun _ _ => h1, h.wasL, h.wasF, fun k => absurd k (hpt (fun p => ¬ p ≤ 4) (fun _ => by decide) (fun _ => by decide) (fun _ => by decide)), hpt (fun p => p = 5 → _) (fun _ k => absurd k (by decide)) (fun _ k => absurd k (by decide)) (fun n _ => ⟨_, rfl, by show 0 ≤ g.1 + 1; omega, by show g.1 + 1 < C.threads; omega, g2, by show g.2 ≤ s.steps + 1; omega⟩), st1, h.written0, hpt (fun p => p = 6 → s.written < s.was.length) (fun n _ => by rw [w0]; have := n.2; omega) (fun _ k => absurd k (by decide)) (fun _ k => absurd k (by decide)), fun b hb => (nb (by omega) b hb).elim, fun _ => w0⟩
  rw [if_neg e5]
  by_cases e6 : s.part = 6
  · rw [if_pos e6]
    have w6 := h.w6 e6
    have w0 := h.written0
    have h1 := h.howW (by omega) (by omega)
    have hbk : ∃ b, s.back.getD s.start = b ∧ 0 ≤ b.n ∧ b.n ≤ 2 ∧ 0 ≤ b.cell ∧ b.cell < C.cells := by
      rcases hb : s.back with _ | b
      · obtain ⟨k, _, _, _, cell, x, y, _, _, c0, c1, _, _, hst⟩ := Wr.start_cell h e6
        rw [Option.getD_none, hst]
        exact ⟨_, rfl, Int.le_refl _, by show (0 : Int) ≤ 2; decide, c0, c1⟩
      · obtain ⟨_, b1, b2, b3, b4⟩ := h.backP b hb
        exact ⟨b, rfl, by omega, b2, b3, b4⟩
    obtain ⟨b, hb, b0, b2, b3, b4⟩ := hbk
    simp only
    rw [hb]
    unfold Wr.puts
    by_cases n2 : b.n = 2
    · rw [if_pos n2]
      have hpt : ∀ (P : Int → Prop), (s.written + 1 = s.was.length → P 7) → (s.written + 1 ≠ s.was.length → P 6) → P (if s.more.written + 1 = s.more.was.length then 7 else 6) := fun P a b => by
        by_cases k : s.written + 1 = s.was.length
        · rw [if_pos (show s.more.written + 1 = s.more.was.length from k)]; exact a k
        · rw [if_neg (show ¬ s.more.written + 1 = s.more.was.length from k)]; exact b k
      exact ⟨h.wf, h.fit, h.fix, h.len, hpt (fun p => 1 ≤ p) (fun _ => by decide) (fun _ => by decide), hpt (fun p => p ≤ 9) (fun _ => by decide) (fun _ => by decide), h.idle, fun k => absurd k (hpt (fun p => ¬ p ≤ 4) (fun _ => by decide) (fun _ => by decide)), fun _ _ => h1, h.wasL, h.wasF, fun k => absurd k (hpt (fun p => ¬ p ≤ 4) (fun _ => by decide) (fun _ => by decide)), fun k => absurd k (hpt (fun p => ¬ p = 5) (fun _ => by decide) (fun _ => by decide)), st1, by show 0 ≤ s.written + 1; omega, hpt (fun p => p = 6 → s.written + 1 < s.was.length) (fun _ k => absurd k (by decide)) (fun n _ => by omega), fun b hb => (by cases hb), fun k => absurd k (hpt (fun p => ¬ p ≤ 5) (fun _ => by decide) (fun _ => by decide))⟩
    · rw [if_neg n2, if_neg (show ¬ s.more.written = s.more.was.length by show ¬ s.written = (s.was.length : Int); omega)]
      refine ⟨h.wf, h.fit, h.fix, h.len, by show (1 : Int) ≤ 6; decide, by show (6 : Int) ≤ 9; decide, h.idle, fun k => absurd k (by show ¬ (6 : Int) ≤ 4; decide), fun _ _ => h1, h.wasL, h.wasF, fun k => absurd k (by show ¬ (6 : Int) ≤ 4; decide), fun k => absurd k (by show ¬ (6 : Int) = 5; decide), st1, w0, fun _ => w6, fun b' hb' => ?_, fun k => absurd k (by show ¬ (6 : Int) ≤ 5; decide)⟩
      have hb2 : some ({ b with n := b.n + 1 } : Wb) = some b' := hb'
      cases hb2
      exact ⟨rfl, by show 1 ≤ b.n + 1; omega, by show b.n + 1 ≤ 2; omega, b3, b4⟩
  rw [if_neg e6]
  by_cases e7 : s.part = 7
  · rw [if_pos e7]
    exact ⟨h.wf, h.fit, h.fix, h.len, by show (1 : Int) ≤ 8; decide, by show (8 : Int) ≤ 9; decide, h.idle, fun k => absurd k (by show ¬ (8 : Int) ≤ 4; decide), fun _ k => absurd k (by show ¬ (8 : Int) ≤ 7; decide), h.wasL, h.wasF, fun k => absurd k (by show ¬ (8 : Int) ≤ 4; decide), fun k => absurd k (by show ¬ (8 : Int) = 5; decide), st1, h.written0, fun k => absurd k (by show ¬ (8 : Int) = 6; decide), fun b hb => (nb (by omega) b hb).elim, fun k => absurd k (by show ¬ (8 : Int) ≤ 5; decide)⟩
  rw [if_neg e7]
  exact ⟨h.wf, h.fit, h.fix, h.len, by show (1 : Int) ≤ 9; decide, by show (9 : Int) ≤ 9; decide, h.idle, fun k => absurd k (by show ¬ (9 : Int) ≤ 4; decide), fun _ k => absurd k (by show ¬ (9 : Int) ≤ 7; decide), h.wasL, h.wasF, fun k => absurd k (by show ¬ (9 : Int) ≤ 4; decide), fun k => absurd k (by show ¬ (9 : Int) = 5; decide), st1, h.written0, fun k => absurd k (by show ¬ (9 : Int) = 6; decide), fun b hb => (nb (by omega) b hb).elim, fun k => absurd k (by show ¬ (9 : Int) ≤ 5; decide)⟩
end Go.Proofs.YtphaeodcomgffaaGreat
set_option linter.unusedVariables false
set_option linter.unusedSimpArgs false
namespace Go.Proofs.YtphaeodcomgffaaGreat
open Go.RowKit

/-! The writer: a step, whole. -/
theorem wrP_val {f : Nat} {av : Array Value} {W : World} {ro : Nat → Nat} {r rm : Nat} {w : World} {X : Nat} {C : Cfg} {tag : Int} {code : List Ins} {args : List Nat} {s s' : Wr} {MB : Nat} {v : Value} {words words' : List Nat} {op op' : Bool} {cnt cnt' : Int} {val : Value}
    (h : Calls Tryz.prog f av W (WrP ro r rm w X C tag code args s MB v words op cnt val)) (e1 : s = s') (e2 : words = words') (e3 : op = op') (e4 : cnt = cnt') : Calls Tryz.prog f av W (WrP ro r rm w X C tag code args s' MB v words' op' cnt' val) := by subst e1; subst e2; subst e3; subst e4; exact h
theorem runs_walk {ro : Nat → Nat} {r rm : Nat} {w : World} {X : Nat} {C : Cfg} {tag : Int} {code : List Ins} {args : List Nat} {s0 s : Wr} {q : Wp} {MB : Nat} {v : Value} {words : List Nat} {cnt : Int} (hC : C.ok) (h : WIs ro r w X C tag code args s q) (hm : MemIs ro rm w MB v words true cnt) (hrm : rm + 1 < r ∨ r + 31 < rm) (hl : (words.length : Int) = 3 + C.threads + 3 * C.cells) (c0 : 0 ≤ cnt) (c1 : cnt ≤ 1000000000) (W : Wwf C code s0) (e : s = s0.more) (h4 : s0.part = 4) :
    Calls Tryz.prog 151 #[ptr X, ptr MB] w (WrP ro r rm w X C tag code args (s.runs C tag code words).1 MB v words (!(s.runs C tag code words).2) (if (s.runs C tag code words).2 then cnt + 1 else cnt) (.tuple #[])) := by
  obtain ⟨C1, C2, C3, C4, C5, C6, C7, C8⟩ := id hC
  have em : s.m = s0.m := by rw [e]; rfl
  have ew : s.was = s0.was := by rw [e]; rfl
  have hidle : s.m.wait = none := by rw [em]; exact W.idle
  have ST := step_to (C := C) (code := code) (tag := tag) hidle
  have SWR := step_writes (C := C) (code := code) (m := s.m) (tag := tag)
  have W1 := step_wf (C := C) (code := code) (tag := tag) (show Wf C code s.m by rw [em]; exact W.wf)
  have MW := mstep_walk h.mach hC (show Wf C code s.m by rw [em]; exact W.wf) ⟨by rw [em]; exact W.fit.stack⟩ (by rw [em]; exact W.len)
  have hwl : s.was.length ≤ 64 := by have := W.wf.writesL; have := W.wasL; rw [ew]; omega
  unfold Wr.runs
  obtain ⟨m1, a, hq⟩ : ∃ m1 a, s.m.step C tag code = (m1, a) := ⟨_, _, rfl⟩
  rw [hq] at ST SWR W1 MW
  replace W1 : Wf C code m1 := W1
  simp only [hq]
  by_cases k1 : a.kind = 1
  · rw [if_pos k1]
    rcases ST with ⟨k, _⟩ | ⟨_, k2, _, _⟩ | ⟨_, k, _⟩
    · exact absurd (k1.symm.trans k) (by decide)
    · obtain ⟨z1, z2, z3, z4⟩ := W1.wait _ k2
      have := W1.used1
      exact runs_read hC h hm hrm k1 z1 z2 k2 (by omega) (by omega) hl c0 c1 MW
    · exact absurd k1 k
  rw [if_neg k1]
  by_cases k3 : a.kind = 3 ∧ a.first = true
  · rw [if_pos k3]
    rcases SWR with ⟨_, z1, z2, _⟩ | ⟨k, _⟩
    · exact runs_write hC h hm hrm k3.1 k3.2 z1 z2 hwl hl c0 c1 MW
    · exact absurd k3.1 k
  rw [if_neg k3]
  by_cases k4 : a.kind = 4
  · rw [if_pos k4]
    by_cases hh : m1.how = 1
    · simp only [if_pos hh]
      exact runs_commit hC h hm hrm k4 hh MW
    · simp only [if_neg hh]
      exact runs_fail hC h hm hrm k4 hh MW
  · rw [if_neg k4]
    exact runs_none hC h hm hrm k1 k4 k3 MW
theorem writes_any {ro : Nat → Nat} {r rm : Nat} {w : World} {X : Nat} {C : Cfg} {tag : Int} {code : List Ins} {args : List Nat} {s0 : Wr} {q : Wp} {MB : Nat} {v : Value} {words : List Nat} {cnt : Int} (hC : C.ok) (h : WIs ro r w X C tag code args s0.more q) (hm : MemIs ro rm w MB v words true cnt) (hrm : rm + 1 < r ∨ r + 31 < rm) (hl : (words.length : Int) = 3 + C.threads + 3 * C.cells) (c0 : 0 ≤ cnt) (c1 : cnt ≤ 1000000000) (W : Wwf C code s0) (h6 : s0.part = 6) :
    Calls Tryz.prog 153 #[ptr X, ptr MB] w (WrP ro r rm w X C tag code args (s0.more.puts (s0.back.getD s0.start)) MB v (words.set (C.cellAt (s0.back.getD s0.start).cell (s0.back.getD s0.start).which) (s0.back.getD s0.start).word) false (cnt + 1) (.tuple #[])) := by
  obtain ⟨C1, C2, C3, C4, C5, C6, C7, C8⟩ := id hC
  have hwl : s0.was.length ≤ 64 := by have := W.wf.writesL; have := W.wasL; omega
  have hml : s0.m.writes.length ≤ 64 := by have := W.wf.writesL; omega
  have w6 := W.w6 h6
  have w0 := W.written0
  obtain ⟨m, part, steps, ticket, stamp, number, was, scan, back, written⟩ := s0
  simp only at h6
  subst h6
  rcases back with _ | b
  · obtain ⟨k, hk, k1, k2, cell, x, y, hx, hy, z0, z1, fy, fxx, hst⟩ := Wr.start_cell W rfl
    rw [Option.getD_none, hst]
    refine wrP_val (wb_begin hC h hm hrm hl c0 c1 k hk k1 hwl k2 hml rfl cell x y hx hy z0 z1) ?_ ?_ rfl rfl
    · have hne : ¬ written = (was.length : Int) := by simp only at w6; omega
      simp [Wr.puts, Wr.more, hne, fy, fxx]
    · rw [fy]; rfl
  · obtain ⟨_, b1, b2, b3, b4⟩ := W.backP b rfl
    rw [Option.getD_some]
    by_cases n2 : b.n = 2
    · by_cases he : written + 1 = (was.length : Int)
      · refine wrP_val (wb_last hC h hm hrm hl c0 c1 w0 w6 hwl b rfl b3 b4 (by omega) n2 he) ?_ rfl rfl rfl
        simp [Wr.puts, Wr.more, n2, he]
      · refine wrP_val (wb_next hC h hm hrm hl c0 c1 w0 w6 hwl b rfl b3 b4 (by omega) n2 he) ?_ rfl rfl rfl
        simp [Wr.puts, Wr.more, n2, he]
    · refine wrP_val (wb_goes hC h hm hrm hl c0 c1 w0 w6 hwl b rfl b3 b4 (by omega) (by omega)) ?_ rfl rfl rfl
      have hne : ¬ written = (was.length : Int) := by simp only at w6; omega
      simp [Wr.puts, Wr.more, n2, hne]
/-- A step of a writer. -/
theorem writerstep_walk {ro : Nat → Nat} {r rm : Nat} {w : World} {X : Nat} {C : Cfg} {tag : Int} {code : List Ins} {args : List Nat} {s : Wr} {q : Wp} {MB : Nat} {v : Value} {words : List Nat} {op : Bool} {cnt : Int} (hC : C.ok) (h : WIs ro r w X C tag code args s q) (hm : MemIs ro rm w MB v words op cnt) (hrm : rm + 1 < r ∨ r + 31 < rm) (hl : (words.length : Int) = 3 + C.threads + 3 * C.cells) (c0 : 0 ≤ cnt) (c1 : cnt ≤ 1000000000) (s1 : s.steps ≤ 1000000) (W : Wwf C code s) (hp : s.part ≤ 8) :
    Calls Tryz.prog 36 #[ptr X, ptr MB] w (WrP ro r rm w X C tag code args (s.step C tag code words).1 MB v (s.step C tag code words).2.1 (!(s.step C tag code words).2.2) (if (s.step C tag code words).2.2 then cnt + 1 else cnt) (.tuple #[.bool ((s.step C tag code words).1.part == 9), .int .i64 0])) := by
  obtain ⟨C1, C2, C3, C4, C5, C6, C7, C8⟩ := id hC
  have p1 := W.part1
  have s0 := W.steps
  have hwl : s.was.length ≤ 32 := by have := W.wf.writesL; have := W.wasL; omega
  have hl3 : 3 ≤ words.length := by omega
  have hl4 : words.length ≤ 4096 := by omega
  unfold Wr.step
  by_cases e : s.part = 1
  · rw [if_pos e]
    exact wst_1 h hm hrm hl hC s0 s1 e _ _ _ _ _ rfl fun W' h' m' => draws_walk h' m' hrm hl3 hl4 c0 c1
  rw [if_neg e]
  by_cases e2 : s.part = 2
  · rw [if_pos e2]
    exact wst_2 h hm hrm hl hC s0 s1 e2 _ _ _ _ _ rfl fun W' h' m' => waits_walk h' m' hrm hl3 hl4 c0 c1 e2
  rw [if_neg e2]
  by_cases e3 : s.part = 3
  · rw [if_pos e3]
    exact wst_3 h hm hrm hl hC s0 s1 e3 _ _ _ _ _ rfl fun W' h' m' => marks_walk h' m' hrm hl3 hl4 c0 c1 (W.scan0 (by omega))
  rw [if_neg e3]
  by_cases e4 : s.part = 4
  · rw [if_pos e4]
    exact wst_4 h hm hrm hl hC s0 s1 e4 _ _ _ _ _ rfl fun W' h' m' => runs_walk hC h' m' hrm hl c0 c1 W rfl e4
  rw [if_neg e4]
  by_cases e5 : s.part = 5
  · rw [if_pos e5]
    obtain ⟨g, hg, g0, g1, g2, g3⟩ := W.scan5 e5
    rw [hg]
    exact wst_5 h hm hrm hl hC s0 s1 e5 _ _ _ _ _ rfl fun W' h' m' => scans_walk hC h' m' hrm hl c0 c1 e5 g hg g0 g1 g2 (by omega) hwl
  rw [if_neg e5]
  by_cases e6 : s.part = 6
  · rw [if_pos e6]
    exact wst_6 h hm hrm hl hC s0 s1 e6 _ _ _ _ _ rfl fun W' h' m' => writes_any hC h' m' hrm hl c0 c1 W e6
  rw [if_neg e6]
  by_cases e7 : s.part = 7
  · rw [if_pos e7]
    exact wst_7 h hm hrm hl hC s0 s1 e7 _ _ _ _ _ rfl fun W' h' m' => publishes_walk h' m' hrm hl3 hl4 c0 c1
  rw [if_neg e7]
  exact wst_8 h hm hrm hl hC s0 s1 (by omega) _ _ _ _ _ rfl fun W' h' m' => passes_walk h' m' hrm hl3 hl4 c0 c1
end Go.Proofs.YtphaeodcomgffaaGreat
