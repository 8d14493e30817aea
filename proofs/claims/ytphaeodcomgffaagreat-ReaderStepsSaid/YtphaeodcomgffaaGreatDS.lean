import Derived.Test.YtphaeodcomgffaaGreatQF
import Derived.Test.YtphaeodcomgffaaGreatMO
import Derived.Deep.RegionLaw
set_option linter.unusedVariables false
set_option linter.unusedSimpArgs false
namespace Go.Proofs.YtphaeodcomgffaaGreat
open Go.RowKit

/-! The document's machine: its small methods. -/
def DUp (ro : Nat → Nat) (r : Nat) (w : World) (M : Nat) (C : Cfg) (tag : Int) (vc : Value) (d' : Dm) (v : Value) (e : Ending) (w' : World) : Prop :=
  e = .returned v ∧ ∃ ro' p', DM ro' r w' M C tag vc d' p' ∧ Mv ro [r, r + 4] w ro' w'
theorem DM.putS {ro ro' : Nat → Nat} {r : Nat} {w w' : World} {M C tag vc d p v} {l : List Nat} (h : DM ro r w M C tag vc d p) (m : Mv ro [] w ro' w') (o : RdL cF ro' (r + 2) w' 1 v l) :
    DM ro' r (w'.setCell ⟨M, 8, none⟩ v) M C tag vc { d with stack := l } { p with vs := v } ∧ Mv ro [r, r + 4] w ro' (w'.setCell ⟨M, 8, none⟩ v) := by
  have k := h.keep0 m
  have hM : ro' M = r := k.blk.role
  have ms : Mv ro' [r] w' ro' (w'.setCell ⟨M, 8, none⟩ v) := (Mv.refl _ _ _).setCell (p := ⟨M, 8, none⟩) (by show ro' M ∈ _; rw [hM]; simp) v
  exact ⟨⟨k.blk.put rfl, k.args.keep ms (by simp), o.keep ms (by simp), k.calls.keep ms (by simp), k.locals.keep ms (by simp), k.out.keep ms (by simp), k.reads.keep ms (by simp), k.writes.keep ms (by simp)⟩, (m.mono (by simp)).trans (ms.mono (by simp))⟩

theorem wrap_nat (j : Nat) (h : j ≤ 9223372036854775807) : IntKind.i64.wrap (j : Int) = j := IntWalk.i64_in j (by omega)
set_option maxRecDepth 100000 in
set_option maxHeartbeats 2000000 in
/-- n numbers taken, some laid. -/
theorem dtrade_walk {ro : Nat → Nat} {r : Nat} {w : World} {M C tag vc d p} (h : DM ro r w M C tag vc d p) (n j : Nat) (hj : d.stack.length = j + n) (hl : j + n ≤ 65) (u : Value) (k : List Nat) (hk : k.length ≤ 2) (hu : Rd w 1 u (k.map cF)) :
    Calls Tryz.prog 140 #[ptr M, .int .i64 n, u] w (DUp ro r w M C tag vc { d with stack := d.stack.take j ++ k } (.tuple #[])) := by
  have hc := h.blk.cell
  have hf := h.blk.free
  unfold dcells at hc
  simp only [ptr]
  obtain ⟨ua, uc, rfl⟩ := hu.slice
  rw [List.length_map] at hu ⊢
  have H := Lib.hid h
  have HU := Lib.hid hu
  have hst := h.stack
  rcases hst.form with ⟨e1, e2⟩ | ⟨b, off, c, e1, hc1, hb, hro⟩
  · have h0 : j + n = 0 := by rw [← hj, e2]; rfl
    obtain rfl : j = 0 := by omega
    obtain rfl : n = 0 := by omega
    rw [e1] at hc hst
    rw [e2] at hst
    have HS := Lib.hid hst
    have E2 := Lib.hid e2
    have w0 : IntKind.i64.wrap 0 = 0 := by decide
    clear h hu hst hj e1 e2
    go_enter Tryz.func140, Tryz.ntmps140
    refine wp_region_noPanic ?_
    go_region_law (first | (go_loud (refine step_app elF cF_len cF_one ro (r + 2) rfl (.tmp 25) (.tmp 26) rfl [] k none 0 0 _ rfl rfl rfl rfl (HS.out.keep (R := []) (by first | exact Mv.refl ro [] w | exact (Mv.refl ro [] w).drew) (by simp)) (HU.out.keep0 (by first | exact Chg.refl _ _ | exact (Chg.refl _ _).drew)) (by simp; omega) ?_); intro v6 w6 o6 m6; obtain ⟨va6, vn6, vc6, rfl⟩ := o6.form3; have m6 : Mv ro [] w (newRo ro w.heap.size (r + 2)) w6 := (by first | exact (Mv.refl ro [] w).drew.trans m6 | exact m6); have k6 := H.out.blk.keep m6 (by simp); have hc6 := k6.cell; have hf6 := k6.free; unfold dcells at hc6))
    all_goals
      refine NoPanic.normal ?_
      go_wp2
      go_end0
      obtain ⟨a1, a2⟩ := H.out.putS m6 o6
      exact ⟨rfl, _, _, a1, a2⟩
  · rw [e1] at hc hst
    rw [hj] at hc hst
    have hst2 := hst.front (n := j) (by omega)
    have HS := Lib.hid hst2
    have hlen : (d.stack.take j).length = j := by rw [List.length_take]; omega
    have HL := Lib.hid hlen
    have hjc : (j : Int) ≤ c := by omega
    have wj : IntKind.i64.wrap (j : Int) = j := wrap_nat j (by omega)
    have mj : max (j : Int) 0 = j := by omega
    clear h hu hst hj e1 hst2 hc1 hlen
    go_enter Tryz.func140, Tryz.ntmps140
    refine wp_region_noPanic ?_
    go_region_law (first | (go_loud (refine step_app elF cF_len cF_one ro (r + 2) rfl (.tmp 25) (.tmp 26) rfl (d.stack.take j) k (some ⟨b, off, none⟩) j j _ rfl rfl HL.out.symm HL.out.symm (HS.out.keep (R := []) (by first | exact Mv.refl ro [] w | exact (Mv.refl ro [] w).drew) (by simp)) (HU.out.keep0 (by first | exact Chg.refl _ _ | exact (Chg.refl _ _).drew)) (by rw [HL.out]; omega) ?_); intro v6 w6 o6 m6; obtain ⟨va6, vn6, vc6, rfl⟩ := o6.form3; have m6 : Mv ro [] w (newRo ro w.heap.size (r + 2)) w6 := (by first | exact (Mv.refl ro [] w).drew.trans m6 | exact m6); have k6 := H.out.blk.keep m6 (by simp); have hc6 := k6.cell; have hf6 := k6.free; unfold dcells at hc6))
    all_goals
      refine NoPanic.normal ?_
      go_wp2
      go_end0
      obtain ⟨a1, a2⟩ := H.out.putS m6 o6
      exact ⟨rfl, _, _, a1, a2⟩
theorem DUp.from {ro ro0 : Nat → Nat} {r : Nat} {w w0 : World} {M C tag vc d' v e w'} (m0 : Mv ro [] w ro0 w0) (h : DUp ro0 r w0 M C tag vc d' v e w') : DUp ro r w M C tag vc d' v e w' := by
  obtain ⟨he, ro', p', h1, m1⟩ := h
  exact ⟨he, ro', p', h1, (m0.mono (by simp)).trans m1⟩
theorem dtrade_ms {ro : Nat → Nat} {r : Nat} {w : World} {M C tag vc p} {m : Ms} (h : DM ro r w M C tag vc m.dm p) (n : Nat) (hn : n ≤ m.stack.length) (hl : m.stack.length ≤ 65) (u : Value) (k : List Nat) (hk : k.length ≤ 2) (hu : Rd w 1 u (k.map cF)) :
    Calls Tryz.prog 140 #[ptr M, .int .i64 n, u] w (DUp ro r w M C tag vc (m.trade n k).dm (.tuple #[])) :=
  dtrade_walk h n (m.stack.length - n) (by show m.stack.length = _; omega) (by omega) u k hk hu

set_option maxRecDepth 100000 in
set_option maxHeartbeats 1000000 in
/-- The i-th number from the top. -/
theorem dtop_walk {ro : Nat → Nat} {r : Nat} {w : World} {M C tag vc p} {m : Ms} (h : DM ro r w M C tag vc m.dm p) (i : Nat) (hi : i < m.stack.length) (hl : m.stack.length ≤ 65) :
    Calls Tryz.prog 142 #[ptr M, .int .i64 i] w fun e w' => e = .returned (.float .f64 (m.top i)) ∧ ∃ q, w' = w.drewN q := by
  have hc := h.blk.cell
  unfold dcells at hc
  simp only [ptr]
  have hst := h.stack
  rcases hst.form with ⟨e1, e2⟩ | ⟨b, off, c, e1, hc1, hb, hro⟩
  · have : m.stack = [] := e2
    rw [this] at hi; simp at hi
  · have hst' : RdL cF ro (r + 2) w 1 (.slice (some ⟨b, off, none⟩) m.stack.length c) m.stack := by rw [e1] at hst; exact hst
    have hx := hst'.at1 (i := m.stack.length - 1 - i) (by omega)
    unfold Ms.top
    obtain ⟨j, hj⟩ : ∃ j, m.stack.length = i + 1 + j := ⟨m.stack.length - 1 - i, by omega⟩
    have e3 : m.stack.length - 1 - i = j := by omega
    rw [show m.stack.getD (m.stack.length - 1 - i) 0 = m.stack[m.stack.length - 1 - i]'(by omega) by rw [List.getD_eq_getElem?_getD, List.getElem?_eq_getElem (by omega)]; rfl]
    obtain ⟨x, hx'⟩ : ∃ x, x = m.stack[m.stack.length - 1 - i]'(by omega) := ⟨_, rfl⟩
    rw [← hx'] at hx ⊢
    rw [e3] at hx
    simp only [cF, List.getElem?_cons_zero] at hx
    clear hx'
    rw [e1, show m.dm.stack = m.stack from rfl, hj] at hc
    have h3 : ¬ ((i + 1 + j : Nat) : Int) ≤ i := by omega
    have h4 : ((i + 1 + j : Nat) : Int) - 1 - i = (j : Int) := by omega
    have h5 : (j : Int) < ((i + 1 + j : Nat) : Int) := by omega
    have h6 : i + 1 + j ≤ 65 := by omega
    clear h hst hst' hi hl e3 hj e1 hc1 hb hro
    go_enter Tryz.func142, Tryz.ntmps142
    go_wp2
    go_quiet (fail)
    go_wp2
    go_ret
    exact ⟨rfl, _, rfl⟩

/-- A store into one of the machine's cells. -/
theorem DM.put {ro : Nat → Nat} {r : Nat} {w : World} {M C tag vc d d' p} (h : DM ro r w M C tag vc d p) (i : Nat) (v : Value) (e : (dcells C tag vc d p).setIfInBounds i v = dcells C tag vc d' p) (ea : d'.args = d.args) (es : d'.stack = d.stack) (ek : d'.calls = d.calls) (el : d'.locals = d.locals) (eo : d'.out = d.out) (er : d'.reads = d.reads) (ew : d'.writes = d.writes) :
    DM ro r (w.setCell ⟨M, i, none⟩ v) M C tag vc d' p ∧ Mv ro [r] w ro (w.setCell ⟨M, i, none⟩ v) := by
  have hM : ro M = r := h.blk.role
  have ms : Mv ro [r] w ro (w.setCell ⟨M, i, none⟩ v) := (Mv.refl _ _ _).setCell (p := ⟨M, i, none⟩) (by show ro M ∈ _; rw [hM]; simp) v
  exact ⟨⟨h.blk.put e, ea ▸ h.args.keep ms (by simp), es ▸ h.stack.keep ms (by simp), ek ▸ h.calls.keep ms (by simp), el ▸ h.locals.keep ms (by simp), eo ▸ h.out.keep ms (by simp), er ▸ h.reads.keep ms (by simp), ew ▸ h.writes.keep ms (by simp)⟩, ms⟩
theorem DM.inR {ro : Nat → Nat} {r : Nat} {w : World} {M C tag vc d p} (h : DM ro r w M C tag vc d p) : ro M ∈ [r, r + 4] := by rw [h.blk.role]; simp

set_option maxRecDepth 100000 in
set_option maxHeartbeats 1000000 in
theorem dfails_walk {ro : Nat → Nat} {r : Nat} {w : World} {M C tag vc p} {m : Ms} (h : DM ro r w M C tag vc m.dm p) (er : Int) :
    Calls Tryz.prog 114 #[ptr M, .int .i64 er] w (DUp ro r w M C tag vc (m.fails er).1.dm askEnd.v) := by
  have hc := h.blk.cell
  have hf := h.blk.free
  have hlt := h.blk.lt
  unfold dcells at hc
  simp only [ptr] at hc ⊢
  have H := Lib.hid h
  have sf := run_store_float
  clear h
  go_enter Tryz.func114, Tryz.ntmps114
  go_wp2
  refine bodyPost_ret (v := .agg #[.int .i64 4, .int .i64 0, .float .f64 0, .bool false]) (by simp [results, Tryz.results114, go_sem]) rfl ?_
  have k0 := H.out
  obtain ⟨k1, m1⟩ := k0.put (d' := { m.dm with how := 3 }) 14 (.int .i64 3) rfl rfl rfl rfl rfl rfl rfl rfl
  obtain ⟨k2, m2⟩ := k1.put (d' := { m.dm with how := 3, ecode := 0 }) 15 (.int .i64 0) rfl rfl rfl rfl rfl rfl rfl rfl
  obtain ⟨k3, m3⟩ := k2.put (d' := { m.dm with how := 3, ecode := 0, err := er }) 16 (.int .i64 er) rfl rfl rfl rfl rfl rfl rfl rfl
  have hM := H.out.inR

  exact ⟨rfl, ro, p, k3.keep0 ((Mv.refl _ _ _).alloc _), ((((Mv.refl _ _ _).setCell hM _).setCell hM _).setCell hM _).alloc _⟩

theorem wrote_at {l : List (Int × Nat)} {c : Int} {k : Nat} (hk : k < l.length) (h0 : ∀ i, i < k → ∀ t, l[i]? = some t → t.1 ≠ c) (h1 : l[k].1 = c) : wrote l c = some l[k].2 := by
  induction l generalizing k with
  | nil => simp at hk
  | cons t l ih =>
    unfold wrote
    rw [List.find?_cons]
    cases k with
    | zero =>
      have e : (t.1 == c) = true := by simpa using h1
      rw [e]; rfl
    | succ k =>
      have e : (t.1 == c) = false := by simpa using h0 0 (by omega) t rfl
      rw [e]
      exact ih (k := k) (by simpa using hk) (fun i hi t' ht => h0 (i + 1) (by omega) t' ht) h1
theorem wrote_no {l : List (Int × Nat)} {c : Int} (h0 : ∀ i, i < l.length → ∀ t, l[i]? = some t → t.1 ≠ c) : wrote l c = none := by
  unfold wrote
  rw [Option.map_eq_none_iff, List.find?_eq_none]
  intro t ht
  obtain ⟨i, hi, e⟩ := List.getElem_of_mem ht
  have := h0 i hi t (by rw [List.getElem?_eq_getElem hi, e])
  simpa using this
def WroteP (w : World) (o : Option Nat) (e : Ending) (w' : World) : Prop := e = .returned (.tuple #[.float .f64 (o.getD 0), .bool o.isSome]) ∧ Below w.heap.size w w'
set_option maxRecDepth 100000 in
set_option maxHeartbeats 2000000 in
theorem dwrote_walk {ro : Nat → Nat} {r : Nat} {w : World} {M C tag vc p} {m : Ms} (h : DM ro r w M C tag vc m.dm p) (hl : m.writes.length ≤ 32) (c : Int) :
    Calls Tryz.prog 188 #[ptr M, .int .i64 c] w (WroteP w (wrote m.writes c)) := by
  have hc := h.blk.cell
  unfold dcells at hc
  simp only [ptr]
  obtain ⟨b, n, cp, e1⟩ : ∃ a n c, p.vb = .slice a n c := by obtain ⟨a, c, e, _⟩ := h.writes.slice; exact ⟨_, _, _, e⟩
  have hrd : RdL cT ro (r + 7) w 2 p.vb m.writes := h.writes
  rw [e1] at hc hrd
  obtain rfl : n = m.writes.length := by obtain ⟨a, c, e, _⟩ := hrd.slice; cases e; rfl
  have sf := run_store_float
  have HR := Lib.hid hrd
  have H := Lib.hid h
  clear h hrd e1
  generalize hl' : m.writes = l at *
  go_enter Tryz.func188, Tryz.ntmps188
  go_wp2
  go_loopw [13] (fun i wr => ∃ k : Nat, i = .int .i64 k ∧ k ≤ l.length ∧ (∀ i, i < k → ∀ t, l[i]? = some t → t.1 ≠ c) ∧ Below w.heap.size w wr) (fun i _ => l.length - (intOf i).toNat)
  case atStart => exact ⟨0, rfl, Nat.zero_le _, by intro i hi; omega, Below.refl _ _⟩
  case round =>
    obtain ⟨k, rfl, hk, h0, hB⟩ := hrel
    have B := Lib.hid hB
    have H0 := Lib.hid h0
    by_cases hlt : k < l.length
    · have hlt' : (k : Int) < l.length := by omega
      rcases HR.out.form with ⟨e1, e2⟩ | ⟨b2, off, c2, e1, hc1, hb, hro⟩
      · rw [e2] at hlt; simp at hlt
      · simp only [Value.slice.injEq] at e1
        obtain ⟨rfl, -, rfl⟩ := e1
        have r1 := HR.out.keep (Mv.of_below (R := []) hB) (by simp)
        have c0 := r1.at (i := k) (j := 0) hlt (by decide)
        have c1 := r1.at (i := k) (j := 1) hlt (by decide)
        simp only [cT, List.getElem?_cons_zero, List.getElem?_cons_succ, Nat.add_zero] at c0 c1
        obtain ⟨t, ht⟩ : ∃ t, t = l[k] := ⟨_, rfl⟩
        have HT := Lib.hid ht
        rw [← ht] at c0 c1
        obtain ⟨t1, t2⟩ := t
        simp only at c0 c1
        clear ht hB h0 r1 hc1 hb hro
        by_cases he : t1 = c
        · subst he
          go_wp2
          go_ret2
          have e := wrote_at hlt H0.out (by rw [← HT.out])
          rw [e, ← HT.out]
          exact ⟨rfl, B.out.alloc B.out.size _⟩
        · go_wp2
          go_roundw
          case rel => exact ⟨k + 1, by go_num, by omega, (fun i hi t ht => by
            rcases Nat.lt_or_ge i k with h1 | h1
            · exact H0.out i h1 t ht
            · obtain rfl : i = k := by omega
              rw [List.getElem?_eq_getElem hlt, ← HT.out] at ht
              cases ht
              exact he), B.out.alloc B.out.size _⟩
          case measure => simp [intOf]; omega
    · obtain rfl : k = l.length := by omega
      clear hB h0
      go_wp2
      go_ret2
      rw [wrote_no H0.out]
      exact ⟨rfl, B.out⟩
theorem room_eq (m : Ms) (x : Ins) : m.room x = if x.op = 14 ∧ m.calls.length = 16 then false else decide ((if x.op = 5 then x.n + 1 else effT x.op) ≤ (m.stack.length : Int)) && decide ((m.stack.length : Int) - effT x.op + effL x.op ≤ 64) := by
  unfold Ms.room
  generalize (if x.op = 5 then x.n + 1 else effT x.op) = a
  generalize effT x.op = t
  generalize effL x.op = l
  by_cases h : x.op = 14 ∧ m.calls.length = 16
  · rw [if_pos h]
    have : (x.op == 14 && m.calls.length == 16) = true := by simpa using h
    rw [this]; simp
  · rw [if_neg h]
    have : (x.op == 14 && m.calls.length == 16) = false := by simpa using h
    rw [this]
    rw [Bool.eq_iff_iff]
    simp
set_option maxRecDepth 100000 in
set_option maxHeartbeats 4000000 in
theorem droom_walk {ro : Nat → Nat} {r : Nat} {w : World} {M C tag vc p} {m : Ms} (h : DM ro r w M C tag vc m.dm p) (x : Ins) (hl : m.stack.length ≤ 64) (hcl : m.calls.length ≤ 16) (hT : 0 ≤ effT x.op ∧ effT x.op ≤ 10) (hL : 0 ≤ effL x.op ∧ effL x.op ≤ 10) (hn : x.op = 5 → -1000 ≤ x.n ∧ x.n ≤ 1000) :
    Calls Tryz.prog 115 #[ptr M, insV x.op x.n x.x] w fun e w' => e = .returned (.bool (m.room x)) ∧ Below w.heap.size w w' := by
  rw [room_eq]
  have EW := reffect_walk x.op
  obtain ⟨sa, sc, e1, _⟩ := h.stack.slice
  obtain ⟨ka, kc, e2, _⟩ := h.calls.slice
  have hb := h.blk
  unfold dcells at hb
  rw [e1, e2] at hb
  have hlt := hb.lt
  have HB := Lib.hid hb
  have sf := run_store_float
  simp only [ptr, insV]
  rw [show m.dm.stack = m.stack from rfl, show m.dm.calls = m.calls from rfl] at HB
  generalize m.stack.length = sl at *
  generalize m.calls.length = kl at *
  generalize effT x.op = T at *
  generalize effL x.op = L at *
  generalize effE x.op = E at *
  obtain ⟨xo, xn, xx⟩ := x
  simp only at EW hn ⊢
  obtain ⟨hT0, hT1⟩ := hT
  obtain ⟨hL0, hL1⟩ := hL
  clear h e1 e2 hb
  by_cases h14 : xo = 14
  · subst h14
    by_cases hk : kl = 16
    · subst hk
      rw [if_pos ⟨rfl, rfl⟩]
      go_enter Tryz.func115, Tryz.ntmps115
      go_wp2_with ((go_at_call 141; refine (EW _).mono ?_; rintro e w1 ⟨rfl, b1⟩; have hc1 := fun o => (cell_of_row w1 _ o _ _ _ ((b1.block _ (by simp)).trans (heap_alloc_new w _))); have k1 := (HB.out.keep (((Mv.refl ro [] w).alloc _).then_below b1) (by simp)).cell; unfold dcells at k1; have B1 := Lib.hid b1; clear b1))
      go_ret
      exact ⟨rfl, below_of_chg (((Chg.refl [] w).alloc _).trans (Chg.of_below B1.out))⟩
    · have hk' : ¬ (kl : Int) = 16 := by omega
      rw [if_neg (by simp [hk]), if_neg (by decide)]
      by_cases ha : T ≤ (sl : Int)
      · rw [decide_eq_true ha, Bool.true_and]
        go_enter Tryz.func115, Tryz.ntmps115
        go_wp2_with ((go_at_call 141; refine (EW _).mono ?_; rintro e w1 ⟨rfl, b1⟩; have hc1 := fun o => (cell_of_row w1 _ o _ _ _ ((b1.block _ (by simp)).trans (heap_alloc_new w _))); have k1 := (HB.out.keep (((Mv.refl ro [] w).alloc _).then_below b1) (by simp)).cell; unfold dcells at k1; have B1 := Lib.hid b1; clear b1))
        go_ret
        exact ⟨rfl, below_of_chg (((Chg.refl [] w).alloc _).trans (Chg.of_below B1.out))⟩
      · rw [decide_eq_false ha, Bool.false_and]
        go_enter Tryz.func115, Tryz.ntmps115
        go_wp2_with ((go_at_call 141; refine (EW _).mono ?_; rintro e w1 ⟨rfl, b1⟩; have hc1 := fun o => (cell_of_row w1 _ o _ _ _ ((b1.block _ (by simp)).trans (heap_alloc_new w _))); have k1 := (HB.out.keep (((Mv.refl ro [] w).alloc _).then_below b1) (by simp)).cell; unfold dcells at k1; have B1 := Lib.hid b1; clear b1))
        go_ret
        exact ⟨rfl, below_of_chg (((Chg.refl [] w).alloc _).trans (Chg.of_below B1.out))⟩
  · rw [if_neg (by simp [h14])]
    by_cases h5 : xo = 5
    · subst h5
      obtain ⟨hn0, hn1⟩ := hn rfl
      rw [if_pos rfl]
      by_cases ha : xn + 1 ≤ (sl : Int)
      · rw [decide_eq_true ha, Bool.true_and]
        go_enter Tryz.func115, Tryz.ntmps115
        go_wp2_with ((go_at_call 141; refine (EW _).mono ?_; rintro e w1 ⟨rfl, b1⟩; have hc1 := fun o => (cell_of_row w1 _ o _ _ _ ((b1.block _ (by simp)).trans (heap_alloc_new w _))); have k1 := (HB.out.keep (((Mv.refl ro [] w).alloc _).then_below b1) (by simp)).cell; unfold dcells at k1; have B1 := Lib.hid b1; clear b1))
        go_ret
        exact ⟨rfl, below_of_chg (((Chg.refl [] w).alloc _).trans (Chg.of_below B1.out))⟩
      · rw [decide_eq_false ha, Bool.false_and]
        go_enter Tryz.func115, Tryz.ntmps115
        go_wp2_with ((go_at_call 141; refine (EW _).mono ?_; rintro e w1 ⟨rfl, b1⟩; have hc1 := fun o => (cell_of_row w1 _ o _ _ _ ((b1.block _ (by simp)).trans (heap_alloc_new w _))); have k1 := (HB.out.keep (((Mv.refl ro [] w).alloc _).then_below b1) (by simp)).cell; unfold dcells at k1; have B1 := Lib.hid b1; clear b1))
        go_ret
        exact ⟨rfl, below_of_chg (((Chg.refl [] w).alloc _).trans (Chg.of_below B1.out))⟩
    · rw [if_neg h5]
      by_cases ha : T ≤ (sl : Int)
      · rw [decide_eq_true ha, Bool.true_and]
        go_enter Tryz.func115, Tryz.ntmps115
        go_wp2_with ((go_at_call 141; refine (EW _).mono ?_; rintro e w1 ⟨rfl, b1⟩; have hc1 := fun o => (cell_of_row w1 _ o _ _ _ ((b1.block _ (by simp)).trans (heap_alloc_new w _))); have k1 := (HB.out.keep (((Mv.refl ro [] w).alloc _).then_below b1) (by simp)).cell; unfold dcells at k1; have B1 := Lib.hid b1; clear b1))
        go_ret
        exact ⟨rfl, below_of_chg (((Chg.refl [] w).alloc _).trans (Chg.of_below B1.out))⟩
      · rw [decide_eq_false ha, Bool.false_and]
        go_enter Tryz.func115, Tryz.ntmps115
        go_wp2_with ((go_at_call 141; refine (EW _).mono ?_; rintro e w1 ⟨rfl, b1⟩; have hc1 := fun o => (cell_of_row w1 _ o _ _ _ ((b1.block _ (by simp)).trans (heap_alloc_new w _))); have k1 := (HB.out.keep (((Mv.refl ro [] w).alloc _).then_below b1) (by simp)).cell; unfold dcells at k1; have B1 := Lib.hid b1; clear b1))
        go_ret
        exact ⟨rfl, below_of_chg (((Chg.refl [] w).alloc _).trans (Chg.of_below B1.out))⟩
end Go.Proofs.YtphaeodcomgffaaGreat
