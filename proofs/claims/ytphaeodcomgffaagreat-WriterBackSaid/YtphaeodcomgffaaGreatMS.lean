import Derived.Test.YtphaeodcomgffaaGreatBU
import Derived.Test.YtphaeodcomgffaaGreatN2
import Derived.Deep.RegionHeld3
set_option linter.unusedVariables false
set_option linter.unusedSimpArgs false
namespace Go.Proofs.YtphaeodcomgffaaGreat
open Go.RowKit

/-- Where a machine's things lie. -/
structure Mp where
  vc : Value
  N : Nat
  K : Nat
  B : Nat
  D : Nat
  vn : Value
  vk : Value
  vw : Value
  vo : Value
  vr : Value
  cv : Int
def mcells (C : Cfg) (tag : Int) (m : Ms) (p : Mp) : Array Value :=
  #[.int .i64 C.cells, .int .i64 C.threads, .int .i64 C.fuel, .int .i64 C.writes, .int .i64 tag, p.vc, .bool m.bad,
    .float .f64 (m.args 0), .float .f64 (m.args 1), .float .f64 (m.args 2), .float .f64 (m.args 3), .float .f64 (m.args 4), .float .f64 (m.args 5), .float .f64 (m.args 6), .float .f64 (m.args 7),
    .float .f64 (m.locals 0), .float .f64 (m.locals 1), .float .f64 (m.locals 2), .float .f64 (m.locals 3), .float .f64 (m.locals 4), .float .f64 (m.locals 5), .float .f64 (m.locals 6), .float .f64 (m.locals 7),
    ptr p.N, ptr p.K, .int .i64 m.place, .int .i64 m.used, .bool m.wait.isSome, .int .i64 p.cv, .int .i64 m.how, .int .i64 m.ecode, .int .i64 m.err, p.vo, p.vr, ptr p.B]
/-- Block M is a machine that stands at m. -/
structure MIs (ro : Nat → Nat) (r : Nat) (w : World) (M : Nat) (C : Cfg) (tag : Int) (code : List Ins) (m : Ms) (p : Mp) : Prop where
  blk : Blk ro r w M (mcells C tag m p) 191
  num : StF ro (r + 1) (r + 2) w p.N p.vn m.stack 64
  cal : StI ro (r + 3) (r + 4) w p.K p.vk m.calls 16
  buf : BufR ro (r + 5) w p.B p.D p.vw m.writes C.writes
  out : OwnL cF ro (r + 8) w 74 1 p.vo m.out
  rds : OwnL cT ro (r + 9) w 76 2 p.vr m.reads
  code : OwnL Ins.row ro (r + 10) w 117 3 p.vc code
  nd : (m.writes.map (·.1)).Nodup
  wait : ∀ c, m.wait = some c → p.cv = c
def mR (r : Nat) : List Nat := [r, r + 1, r + 2, r + 3, r + 4, r + 5, r + 6, r + 7, r + 8, r + 9, r + 10]
theorem MIs.keep {ro ro' : Nat → Nat} {r : Nat} {w w' : World} {M C tag code m p R} (h : MIs ro r w M C tag code m p) (mv : Mv ro R w ro' w') (hR : ∀ x ∈ R, x < r ∨ r + 10 < x) : MIs ro' r w' M C tag code m p := by
  have k : ∀ i, i ≤ 10 → r + i ∉ R := fun i hi hx => by have := hR _ hx; omega
  exact ⟨h.blk.keep mv (k 0 (by omega)), h.num.keep mv (k 1 (by omega)) (k 2 (by omega)), h.cal.keep mv (k 3 (by omega)) (k 4 (by omega)), h.buf.keep mv (k 5 (by omega)) (k 6 (by omega)) (k 7 (by omega)), h.out.keep mv (k 8 (by omega)), h.rds.keep mv (k 9 (by omega)), h.code.keep mv (k 10 (by omega)), h.nd, h.wait⟩
theorem MIs.keep0 {ro ro' : Nat → Nat} {r : Nat} {w w' : World} {M C tag code m p} (h : MIs ro r w M C tag code m p) (mv : Mv ro [] w ro' w') : MIs ro' r w' M C tag code m p := h.keep mv (by simp)
theorem MIs.setStack {ro ro' : Nat → Nat} {r : Nat} {w w' : World} {M C tag code m p l v'} (h : MIs ro r w M C tag code m p) (mv : Mv ro [r + 1, r + 2] w ro' w') (st : StF ro' (r + 1) (r + 2) w' p.N v' l 64) : MIs ro' r w' M C tag code { m with stack := l } { p with vn := v' } :=
  ⟨h.blk.keep mv (by simp), st, h.cal.keep mv (by simp) (by simp), h.buf.keep mv (by simp <;> omega) (by simp <;> omega) (by simp <;> omega), h.out.keep mv (by simp), h.rds.keep mv (by simp), h.code.keep mv (by simp), h.nd, h.wait⟩
theorem MIs.setCalls {ro ro' : Nat → Nat} {r : Nat} {w w' : World} {M C tag code m p l v'} (h : MIs ro r w M C tag code m p) (mv : Mv ro [r + 3, r + 4] w ro' w') (st : StI ro' (r + 3) (r + 4) w' p.K v' l 16) : MIs ro' r w' M C tag code { m with calls := l } { p with vk := v' } :=
  ⟨h.blk.keep mv (by simp), h.num.keep mv (by simp) (by simp), st, h.buf.keep mv (by simp <;> omega) (by simp <;> omega) (by simp <;> omega), h.out.keep mv (by simp), h.rds.keep mv (by simp), h.code.keep mv (by simp), h.nd, h.wait⟩
theorem MIs.setBuf {ro ro' : Nat → Nat} {r : Nat} {w w' : World} {M C tag code m p l v'} (h : MIs ro r w M C tag code m p) (mv : Mv ro [r + 5, r + 6, r + 7] w ro' w') (st : BufR ro' (r + 5) w' p.B p.D v' l C.writes) (nd : (l.map (·.1)).Nodup) : MIs ro' r w' M C tag code { m with writes := l } { p with vw := v' } :=
  ⟨h.blk.keep mv (by simp), h.num.keep mv (by simp) (by simp), h.cal.keep mv (by simp) (by simp), st, h.out.keep mv (by simp), h.rds.keep mv (by simp), h.code.keep mv (by simp), nd, h.wait⟩
/-- A store into the machine's own block. -/
theorem MIs.put {ro : Nat → Nat} {r : Nat} {w : World} {M C tag code m p i v} {m' : Ms} {p' : Mp} (h : MIs ro r w M C tag code m p) (e : (mcells C tag m p).setIfInBounds i v = mcells C tag m' p')
    (hp : p'.N = p.N ∧ p'.K = p.K ∧ p'.B = p.B ∧ p'.D = p.D ∧ p'.vn = p.vn ∧ p'.vk = p.vk ∧ p'.vw = p.vw ∧ p'.vo = p.vo ∧ p'.vr = p.vr ∧ p'.vc = p.vc) (hm : m'.stack = m.stack ∧ m'.calls = m.calls ∧ m'.writes = m.writes ∧ m'.out = m.out ∧ m'.reads = m.reads) (hw : ∀ c, m'.wait = some c → p'.cv = c) :
    MIs ro r (w.setCell ⟨M, i, none⟩ v) M C tag code m' p' := by
  obtain ⟨a1, a2, a3, a4, a5, a6, a7, a8, a9, a10⟩ := hp
  obtain ⟨b1, b2, b3, b4, b5⟩ := hm
  have mv : Mv ro [r] w ro (w.setCell ⟨M, i, none⟩ v) := (Mv.refl _ _ _).setCell (by rw [h.blk.role]; simp) v
  refine ⟨h.blk.put e, ?_, ?_, ?_, ?_, ?_, ?_, ?_, hw⟩
  · rw [a1, a5, b1]; exact h.num.keep mv (by simp) (by simp)
  · rw [a2, a6, b2]; exact h.cal.keep mv (by simp) (by simp)
  · rw [a3, a4, a7, b3]; exact h.buf.keep mv (by simp <;> omega) (by simp <;> omega) (by simp <;> omega)
  · rw [a8, b4]; exact h.out.keep mv (by simp)
  · rw [a9, b5]; exact h.rds.keep mv (by simp)
  · rw [a10]; exact h.code.keep mv (by simp)
  · rw [b3]; exact h.nd
theorem MIs.mvPut {ro : Nat → Nat} {r : Nat} {w : World} {M C tag code m p} (h : MIs ro r w M C tag code m p) (i : Nat) (v : Value) : Mv ro (mR r) w ro (w.setCell ⟨M, i, none⟩ v) :=
  (Mv.refl _ _ _).setCell (by rw [h.blk.role]; simp [mR]) v

theorem MIs.put1 {ro : Nat → Nat} {r : Nat} {w : World} {M C tag code m p} (h : MIs ro r w M C tag code m p) (i : Nat) (v : Value) (m' : Ms) (e : (mcells C tag m p).setIfInBounds i v = mcells C tag m' p)
    (hm : m'.stack = m.stack ∧ m'.calls = m.calls ∧ m'.writes = m.writes ∧ m'.out = m.out ∧ m'.reads = m.reads) (hw : m'.wait = m.wait) : MIs ro r (w.setCell ⟨M, i, none⟩ v) M C tag code m' p :=
  h.put e ⟨rfl, rfl, rfl, rfl, rfl, rfl, rfl, rfl, rfl, rfl⟩ hm (by rw [hw]; exact h.wait)
theorem MIs.inR {ro : Nat → Nat} {r : Nat} {w : World} {M C tag code m p} (h : MIs ro r w M C tag code m p) : ro M ∈ mR r := by rw [h.blk.role]; simp [mR]
/-- What a step inside the machine leaves. -/
def UpM (ro : Nat → Nat) (r : Nat) (w : World) (M : Nat) (C : Cfg) (tag : Int) (code : List Ins) (m' : Ms) (v : Value) (e : Ending) (w' : World) : Prop :=
  e = .returned v ∧ ∃ ro' p', MIs ro' r w' M C tag code m' p' ∧ Mv ro (mR r) w ro' w'
/-- .. where only the stack turned. -/
def UpS (ro : Nat → Nat) (r : Nat) (w : World) (M : Nat) (C : Cfg) (tag : Int) (code : List Ins) (m' : Ms) (p : Mp) (v : Value) (e : Ending) (w' : World) : Prop :=
  e = .returned v ∧ ∃ ro' v', MIs ro' r w' M C tag code m' { p with vn := v' } ∧ Mv ro [r + 1, r + 2] w ro' w'
theorem sR {r x : Nat} (h : x ∈ [r + 1, r + 2]) : x ∈ mR r := by simp [mR] at h ⊢; omega
def faultE (e : Int) : Ending := .panicked [{ v := .iface 208 (.int .i64 e), recovered := false }]

set_option maxRecDepth 100000 in
theorem push_walk {ro : Nat → Nat} {r : Nat} {w : World} {M C tag code m p} (h : MIs ro r w M C tag code m p) (hl : m.stack.length < 64) (x : Nat) :
    Calls Tryz.prog 133 #[ptr M, .float .f64 x] w (UpS ro r w M C tag code { m with stack := m.stack ++ [x] } p (.tuple #[])) := by
  have hc := h.blk.cell 23
  have PW := fpush_walk ro (r + 1) (r + 2) w p.N p.vn m.stack 64 x h.num (by omega) (by omega) (by omega)
  unfold mcells at hc
  simp only [ptr] at hc ⊢
  have H := Lib.hid h
  clear h
  go_enter Tryz.func133, Tryz.ntmps133
  go_wp2_with (go_at_call 171; refine PW.mono ?_; rintro e w1 ⟨rfl, ro1, v1, s1, m1⟩)
  go_end0
  exact ⟨rfl, ro1, _, H.out.setStack m1 s1, m1⟩
set_option maxRecDepth 100000 in
theorem pop_walk {ro : Nat → Nat} {r : Nat} {w : World} {M C tag code m p} (h : MIs ro r w M C tag code m p) (hl : 0 < m.stack.length) (hm : m.stack.length ≤ 64) :
    Calls Tryz.prog 167 #[ptr M] w (UpS ro r w M C tag code { m with stack := m.stack.take (m.stack.length - 1) } p (.float .f64 (m.top 0))) := by
  have hc := h.blk.cell 23
  have PW := fpop_walk ro (r + 1) (r + 2) w p.N p.vn m.stack 64 h.num hl (by omega) (by omega)
  unfold mcells at hc
  simp only [ptr] at hc ⊢
  have H := Lib.hid h
  clear h
  go_enter Tryz.func167, Tryz.ntmps167
  go_wp2_with (go_at_call 207; refine PW.mono ?_; rintro e w1 ⟨rfl, v1, s1, m1⟩)
  go_ret
  exact ⟨rfl, ro, _, H.out.setStack m1 s1, m1⟩
set_option maxRecDepth 100000 in
theorem must_bad (e : Int) (he : e ≠ 0) (w : World) : Calls Tryz.prog 129 #[.int .i64 e] w fun e' w' => e' = faultE e ∧ w' = w := by
  have h1 : (e != 0) = true := by simpa using he
  unfold faultE
  go_enter Tryz.func129, Tryz.ntmps129
  go_wp2
  exact ⟨rfl, rfl, rfl⟩
set_option maxRecDepth 100000 in
theorem must_ok (w : World) : Calls Tryz.prog 129 #[.int .i64 0] w fun e' w' => e' = .returned (.tuple #[]) ∧ w' = w := by
  go_enter Tryz.func129, Tryz.ntmps129
  go_wp2
  go_end0
  exact ⟨rfl, rfl⟩

/-- A call that gives up (error e) or comes to a value. -/
def Or2 (ro : Nat → Nat) (r : Nat) (w : World) (M : Nat) (C : Cfg) (tag : Int) (code : List Ins) (m : Ms) : Except Int (Ms × Value) → Ending → World → Prop
  | .error x, e, w' => e = faultE x ∧ ∃ ro' p', MIs ro' r w' M C tag code m p' ∧ Mv ro (mR r) w ro' w'
  | .ok x, e, w' => UpM ro r w M C tag code x.1 x.2 e w'

set_option maxRecDepth 100000 in
set_option maxHeartbeats 1000000 in
theorem ends_walk {ro : Nat → Nat} {r : Nat} {w : World} {M C tag code m p} (h : MIs ro r w M C tag code m p) (a b c : Int) :
    Calls Tryz.prog 128 #[ptr M, .agg #[.int .i64 a, .int .i64 b, .int .i64 c]] w (UpM ro r w M C tag code (m.ends a b c).1 askEnd.v) := by
  have hc := h.blk.cell
  have hf := h.blk.free
  have hlt := h.blk.lt
  unfold mcells at hc
  simp only [ptr] at hc ⊢
  have H := Lib.hid h
  have sf := run_store_float
  clear h
  go_enter Tryz.func128, Tryz.ntmps128
  go_wp2
  refine bodyPost_ret (v := .agg #[.int .i64 4, .int .i64 0, .float .f64 0, .bool false]) (by simp [results, Tryz.results128, go_sem]) rfl ?_
  have k1 := H.out.put1 29 (.int .i64 a) { m with how := a } rfl ⟨rfl, rfl, rfl, rfl, rfl⟩ rfl
  have k2 := k1.put1 30 (.int .i64 b) { m with how := a, ecode := b } rfl ⟨rfl, rfl, rfl, rfl, rfl⟩ rfl
  have k3 := k2.put1 31 (.int .i64 c) { m with how := a, ecode := b, err := c } rfl ⟨rfl, rfl, rfl, rfl, rfl⟩ rfl
  have hM := H.out.inR
  exact ⟨rfl, ro, p, k3.keep0 (((Mv.refl _ _ _).alloc _).alloc _), (((((Mv.refl _ _ _).setCell hM _).setCell hM _).setCell hM _).alloc _).alloc _⟩
set_option maxRecDepth 100000 in
set_option maxHeartbeats 1000000 in
theorem address_walk {ro : Nat → Nat} {r : Nat} {w : World} {M C tag code m p} (h : MIs ro r w M C tag code m p) (hl : 0 < m.stack.length) (hm : m.stack.length ≤ 64) :
    Calls Tryz.prog 203 #[ptr M] w fun e w' => (match indexF (m.top 0) C.cells with | none => e = faultE 50 | some c => e = .returned (.int .i64 c)) ∧ ∃ q, w' = w.drewN q := by
  have hc := h.blk.cell
  have PW := fpick_walk ro (r + 1) (r + 2) w p.N p.vn m.stack 64 0 h.num hl (by omega)
  rw [Nat.sub_zero] at PW
  have IW := index_walk (m.top 0) C.cells
  unfold Ms.top
  unfold Ms.top at IW
  rw [Nat.sub_zero] at IW ⊢
  generalize m.stack.getD (m.stack.length - 1) 0 = x at *
  have hm50 := must_bad 50 (by decide)
  unfold mcells at hc
  simp only [ptr] at hc ⊢
  cases hi : indexF x C.cells with
  | none =>
    rw [hi] at IW
    clear h
    go_enter Tryz.func203, Tryz.ntmps203
    go_wp2_with (first | (go_at_call 205; refine PW.mono ?_; rintro e w1 ⟨rfl, q, rfl⟩) | (go_at_call 223; refine (IW _).mono ?_; unfold idxV; rintro e w1 ⟨rfl, rfl⟩) | (go_at_call 129; refine (hm50 _).mono ?_; unfold faultE; rintro e w1 ⟨rfl, rfl⟩))
    exact ⟨rfl, rfl, q, rfl⟩
  | some c =>
    rw [hi] at IW
    clear h
    go_enter Tryz.func203, Tryz.ntmps203
    go_wp2_with (first | (go_at_call 205; refine PW.mono ?_; rintro e w1 ⟨rfl, q, rfl⟩) | (go_at_call 223; refine (IW _).mono ?_; unfold idxV; rintro e w1 ⟨rfl, rfl⟩))
    go_ret
    exact ⟨rfl, _, rfl⟩
end Go.Proofs.YtphaeodcomgffaaGreat
