import Derived.Test.YtphaeodcomgffaaGreatK11
import Derived.Test.YtphaeodcomgffaaGreatNP
set_option linter.unusedVariables false
set_option linter.unusedSimpArgs false
namespace Go.Proofs.YtphaeodcomgffaaGreat
open Go.RowKit

/-- A config. -/
structure Cfg where
  cells : Int
  threads : Int
  fuel : Int
  writes : Int
/-- A config that may be. -/
def Cfg.ok (c : Cfg) : Prop := 1 ≤ c.cells ∧ c.cells ≤ 256 ∧ 1 ≤ c.threads ∧ c.threads ≤ 8 ∧ 1 ≤ c.fuel ∧ c.fuel ≤ 1024 ∧ 1 ≤ c.writes ∧ c.writes ≤ 32
instance (c : Cfg) : Decidable c.ok := by unfold Cfg.ok; infer_instance

/-- What a transaction's machine holds. -/
structure Ms where
  bad : Bool
  args : Nat → Nat
  locals : Nat → Nat
  stack : List Nat
  calls : List Int
  place : Int
  used : Int
  wait : Option Int
  how : Int
  ecode : Int
  err : Int
  out : List Nat
  reads : List (Int × Nat)
  writes : List (Int × Nat)
/-- What a step asks. -/
structure Ask where
  kind : Int
  cell : Int
  x : Nat
  first : Bool
def Ask.v (a : Ask) : Value := .agg #[.int .i64 a.kind, .int .i64 a.cell, .float .f64 a.x, .bool a.first]
def askEnd : Ask := ⟨4, 0, 0, false⟩
def askNone : Ask := ⟨0, 0, 0, false⟩

def Ms.ends (m : Ms) (h c e : Int) : Ms × Ask := ({ m with how := h, ecode := c, err := e }, askEnd)
def Ms.fails (m : Ms) (e : Int) : Ms × Ask := m.ends 3 0 e
/-- The n-th number from the top. -/
def Ms.top (m : Ms) (n : Nat) : Nat := m.stack.getD (m.stack.length - 1 - n) 0
/-- n numbers taken, some laid. -/
def Ms.trade (m : Ms) (n : Nat) (l : List Nat) : Ms := { m with stack := m.stack.take (m.stack.length - n) ++ l }

/-- Do the stacks let an instruction be? -/
def Ms.room (m : Ms) (x : Ins) : Bool :=
  !(decide ((m.stack.length : Int) < (if x.op = 5 then x.n + 1 else effT x.op)) || decide (64 < (m.stack.length : Int) - effT x.op + effL x.op) || (x.op == 14 && m.calls.length == 16))

def F1 : Nat := 4607182418800017408
def yesF (b : Bool) : Nat := if b then F1 else 0
def ltF (a b : Nat) : Bool := FloatKind.f64.format.order a b == some .lt
def gtF (a b : Nat) : Bool := FloatKind.f64.format.order a b == some .gt
def eqF (a b : Nat) : Bool := FloatKind.f64.format.order a b == some .eq
def leF (a b : Nat) : Bool := FloatKind.f64.format.order a b == some .lt || FloatKind.f64.format.order a b == some .eq
def geF (a b : Nat) : Bool := FloatKind.f64.format.order a b == some .gt || FloatKind.f64.format.order a b == some .eq
/-- Does a number count as true? -/
def trueF (x : Nat) : Bool := !bad x && !eqF x 0
/-- Made whole, towards zero. -/
def truncF (x : Nat) : Nat := if bad x then x else FloatKind.f64.encode ((FloatKind.f64.decode x).integral .zero)
def floorF (x : Nat) : Nat := if bad x then x else FloatKind.f64.encode ((FloatKind.f64.decode x).integral .down)
def intF (x : Nat) : Int := ((FloatKind.f64.decode x).toInt .zero).getD 0
def P63 : Nat := 4890909195324358656
def P53 : Nat := 4845873199050653696
/-- Which index a number is. -/
def indexF (x : Nat) (n : Int) : Option Int := if (geF x 0 && ltF x P63) && eqF (truncF x) x && decide (intF x < n) then some (intF x) else none
def keyF (x : Nat) : Nat := if 9223372036854775808 ≤ fx x then 18446744073709551615 - fx x else fx x + 9223372036854775808
def cmpF (x y : Nat) : Int := if keyF x < keyF y then -1 else if keyF y < keyF x then 1 else 0
def hashF (x : Nat) : Nat := floatOfInt .f64 (((Nat.xor (fx x) (fx x / 4294967296) : Nat) : Int) % 4294967296 * 2654435769 % 4294967296 / 65536)
def orN (o : Option Nat) : Nat := (o.map fx).getD theNaN
def oneF (op : Int) (x : Nat) : Nat :=
  if op = 1 then fx (Op.negFloat .f64 x)
  else if op = 2 then fx (x % 9223372036854775808)
  else if op = 3 then fx (floorF x)
  else if op = 4 then orN (FloatKind.f64.format.sqrt x)
  else if op = 5 then yesF (!trueF x)
  else if op = 6 then yesF (bad x)
  else if op = 7 then (if gtF x 0 then F1 else if ltF x 0 then 13830554455654793216 else fx x)
  else fx (hashF x)
def modF (x y : Nat) : Nat := if (geF x 0 && ltF x P53) && (geF y F1 && ltF y P53) && eqF (truncF x) x && eqF (truncF y) y then floatOfInt .f64 (intF x % intF y) else theNaN
def twoF (op : Int) (x y : Nat) : Nat :=
  if op = 1 then orN (floatBits .add .f64 x y)
  else if op = 2 then orN (floatBits .sub .f64 x y)
  else if op = 3 then orN (floatBits .mul .f64 x y)
  else if op = 4 then orN (floatBits .quo .f64 x y)
  else if op = 5 then fx (modF x y)
  else if op = 6 then (if bad x || bad y then theNaN else if 0 < cmpF x y then fx y else fx x)
  else if op = 7 then (if bad x || bad y then theNaN else if cmpF x y < 0 then fx y else fx x)
  else if op = 8 then yesF (ltF x y)
  else if op = 9 then yesF (leF x y)
  else if op = 10 then yesF (eqF x y)
  else if op = 11 then yesF (fx x == fx y)
  else yesF (decide (cmpF x y < 0))

/-- What was written to a cell. -/
def wrote (l : List (Int × Nat)) (c : Int) : Option Nat := (l.find? fun t => t.1 == c).map (·.2)
def rewrite (l : List (Int × Nat)) (c : Int) (x : Nat) : List (Int × Nat) := l.map fun t => if t.1 = c then (c, x) else t

def Ms.readS (C : Cfg) (m : Ms) : Except Int (Ms × Ask) :=
  match indexF (m.top 0) C.cells with
  | none => .error 50
  | some c => match wrote m.writes c with
    | none => .ok ({ m.trade 1 [] with wait := some c }, ⟨1, c, 0, false⟩)
    | some x => .ok ({ m.trade 1 [x] with reads := m.reads ++ [(c, x)] }, ⟨2, c, x, false⟩)
/-- What a write does to the list of the writes: the list, and whether it is the cell's first; none: too many. -/
def putS (most : Int) (l : List (Int × Nat)) (c : Int) (x : Nat) : Option (List (Int × Nat) × Bool) :=
  match wrote l c with
  | none => if (l.length : Int) = most then none else some (l ++ [(c, x)], true)
  | some _ => some (rewrite l c x, false)
def Ms.writeS (C : Cfg) (tag : Int) (m : Ms) : Except Int (Ms × Ask) :=
  if tag ≠ 2 then .error 81 else
  match indexF (m.top 0) C.cells with
  | none => .error 50
  | some c => match putS C.writes m.writes c (fx (m.top 1)) with
    | none => .error 70
    | some p => .ok ({ m.trade 2 [] with writes := p.1 }, ⟨3, c, m.top 1, p.2⟩)

/-- An instruction that only reckons. -/
def Ms.reck (x : Ins) (m : Ms) : Ms :=
  if x.op = 1 then m.trade 0 [fx x.x]
  else if x.op = 2 then m.trade 1 []
  else if x.op = 3 then m.trade 0 [m.top 0]
  else if x.op = 4 then m.trade 2 [m.top 0, m.top 1]
  else if x.op = 5 then m.trade 0 [m.top x.n.toNat]
  else if x.op = 6 then m.trade 0 [m.args x.n.toNat]
  else if x.op = 7 then m.trade 0 [m.locals x.n.toNat]
  else if x.op = 8 then { m.trade 1 [] with locals := fun k => if k = x.n.toNat then m.top 0 else m.locals k }
  else if x.op = 9 then m.trade 1 [oneF x.n (fx (m.top 0))]
  else if x.op = 10 then m.trade 2 [twoF x.n (fx (m.top 1)) (fx (m.top 0))]
  else if x.op = 18 then { m.trade 1 [] with out := m.out ++ [m.top 0] }
  else m
/-- An instruction for which the stacks have what it needs. -/
def Ms.doS (C : Cfg) (tag : Int) (x : Ins) (m : Ms) : Except Int (Ms × Ask) :=
  if x.op = 16 then m.readS C
  else if x.op = 17 then m.writeS C tag
  else if x.op = 19 then .ok (m.ends 2 x.n 0)
  else if x.op = 20 then .ok (m.ends 1 0 0)
  else if x.op = 11 then .ok ({ m with place := x.n }, askNone)
  else if x.op = 12 ∨ x.op = 13 then .ok ({ m.trade 1 [] with place := if trueF (m.top 0) = (x.op == 12) then x.n else m.place }, askNone)
  else if x.op = 14 then .ok ({ m with calls := m.calls ++ [m.place], place := x.n }, askNone)
  else if x.op = 15 then (match m.calls.getLast? with | none => .ok (m.ends 1 0 0) | some p => .ok ({ m with calls := m.calls.dropLast, place := p }, askNone))
  else .ok (m.reck x, askNone)
/-- Begun: an instruction is taken. -/
def Ms.begin (m : Ms) : Ms := { m with used := m.used + 1, place := m.place + 1 }
/-- A step. -/
def Ms.step (C : Cfg) (tag : Int) (code : List Ins) (m : Ms) : Ms × Ask :=
  match m.wait with
  | some c => (m, ⟨1, c, 0, false⟩)
  | none =>
    if m.how ≠ 0 then (m, askEnd)
    else if m.bad then m.fails 50
    else if m.used = C.fuel then m.fails 80
    else if m.place = code.length then m.fails 50
    else
      match code[m.place.toNat]? with
      | none => m.fails 50
      | some x => if m.begin.room x then (match m.begin.doS C tag x with | .error e => m.begin.fails e | .ok r => r) else m.begin.fails 82
/-- An answer to a read. -/
def Ms.give (x : Nat) (m : Ms) : Ms × Int :=
  match m.wait with
  | none => (m, 3)
  | some c => ({ m.trade 0 [fx x] with reads := m.reads ++ [(c, fx x)], wait := none }, 0)
def Ms.new (bad : Bool) (args : List Nat) : Ms := ⟨bad, fun i => if i < args.length then fx (args.getD i 0) else 0, fun _ => 0, [], [], 0, 0, none, 0, 0, 0, [], [], []⟩
end Go.Proofs.YtphaeodcomgffaaGreat
set_option linter.unusedVariables false
set_option linter.unusedSimpArgs false
namespace Go.Proofs.YtphaeodcomgffaaGreat
open Go.RowKit Ieee

/-- What holds of a machine all along. -/
structure Wf (C : Cfg) (code : List Ins) (m : Ms) : Prop where
  good : m.bad = false → ∀ x ∈ code, mayS x code.length = true
  place0 : 0 ≤ m.place
  place1 : m.place ≤ code.length
  used0 : 0 ≤ m.used
  used1 : m.used ≤ C.fuel
  stack : m.stack.length ≤ 64
  callsL : m.calls.length ≤ 16
  calls : ∀ p ∈ m.calls, 0 ≤ p ∧ p ≤ code.length
  wait : ∀ c, m.wait = some c → 0 ≤ c ∧ c < C.cells ∧ m.stack.length ≤ 63 ∧ (m.reads.length : Int) + 1 ≤ m.used
  writesL : (m.writes.length : Int) ≤ C.writes
  writes : ∀ t ∈ m.writes, 0 ≤ t.1 ∧ t.1 < C.cells
  out : (m.out.length : Int) ≤ m.used
  reads : (m.reads.length : Int) ≤ m.used

theorem new_wf {C : Cfg} {code : List Ins} {b : Bool} {args : List Nat} (hC : C.ok) (h : b = false → ∀ x ∈ code, mayS x code.length = true) : Wf C code (Ms.new b args) := by
  obtain ⟨h1, h2, h3, h4, h5, h6, h7, h8⟩ := hC
  constructor <;> simp [Ms.new] <;> first | exact h | omega

theorem trade_len (m : Ms) (n : Nat) (l : List Nat) (hn : n ≤ m.stack.length) : (m.trade n l).stack.length = m.stack.length - n + l.length := by
  simp [Ms.trade]
theorem mem_rewrite {l : List (Int × Nat)} {c : Int} {x : Nat} {t : Int × Nat} (h : t ∈ rewrite l c x) : ∃ s ∈ l, s.1 = t.1 := by
  unfold rewrite at h
  obtain ⟨s, hs, rfl⟩ := List.mem_map.1 h
  refine ⟨s, hs, ?_⟩
  split
  · assumption
  · rfl
theorem rewrite_len (l : List (Int × Nat)) (c : Int) (x : Nat) : (rewrite l c x).length = l.length := by simp [rewrite]
theorem give_wf {C : Cfg} {code : List Ins} {m : Ms} (h : Wf C code m) (x : Nat) : Wf C code (m.give x).1 := by
  unfold Ms.give
  cases hw : m.wait with
  | none => exact h
  | some c =>
    obtain ⟨h1, h2, h3, h4⟩ := h.wait c hw
    have ht : (m.trade 0 [fx x]).stack.length = m.stack.length + 1 := by rw [trade_len _ _ _ (Nat.zero_le _)]; rfl
    refine ⟨h.good, h.place0, h.place1, h.used0, h.used1, by show (m.trade 0 [fx x]).stack.length ≤ 64; omega, h.callsL, h.calls, by simp, h.writesL, h.writes, h.out, ?_⟩
    show ((m.reads ++ [(c, fx x)]).length : Int) ≤ m.used
    simp; omega
/-- The index that a number is lies in its bounds. -/
theorem index_lt {x : Nat} {n c : Int} (h : indexF x n = some c) : c < n := by
  unfold indexF at h
  split at h
  · rename_i hh
    simp at hh
    cases h
    omega
  · cases h
theorem toInt_nonneg {x : Nat} (h : geF x 0 = true) : 0 ≤ intF x := by
  unfold intF
  show 0 ≤ ((double.read x).toInt .zero).getD 0
  have hz := read_zero
  have hg : double.order x 0 = some .gt ∨ double.order x 0 = some .eq := by
    unfold geF at h
    have h' := (Bool.or_eq_true _ _).mp h
    rcases h' with h' | h'
    · exact .inl (by show FloatKind.f64.format.order x 0 = _; simpa using h')
    · exact .inr (by show FloatKind.f64.format.order x 0 = _; simpa using h')
  unfold Ieee.Format.order at hg
  rw [hz] at hg
  rcases hd : double.read x with ⟨s, m, e⟩ | s | ⟨s, t⟩
  · rw [toInt_number]
    simp only [Option.getD_some]
    cases s
    · rw [signed_f]; omega
    · rw [signed_t]
      rw [hd] at hg
      simp only [Ieee.Datum.order, Option.some.injEq, signed_t, signed_f] at hg
      have hm : m * 2 ^ (e - min e (-1074)).toNat = 0 := by
        rcases hg with hg | hg
        · have := Int.compare_eq_gt.1 hg; omega
        · have := Int.compare_eq_eq.1 hg; omega
      have h0 : m = 0 := by
        rcases Nat.mul_eq_zero.1 hm with h1 | h1
        · exact h1
        · exact absurd h1 (by have := Nat.two_pow_pos (e - min e (-1074)).toNat; omega)
      subst h0
      simp
  · show (0 : Int) ≤ (none : Option Int).getD 0; simp
  · show (0 : Int) ≤ (none : Option Int).getD 0; simp
theorem index_ge {x : Nat} {n c : Int} (h : indexF x n = some c) : 0 ≤ c := by
  unfold indexF at h
  split at h
  · rename_i hh
    simp at hh
    cases h
    exact toInt_nonneg hh.1.1.1
  · cases h
theorem wrote_mem {l : List (Int × Nat)} {c : Int} {x : Nat} (h : wrote l c = some x) : ∃ t ∈ l, t.1 = c := by
  unfold wrote at h
  rcases hf : l.find? (fun t => t.1 == c) with _ | t
  · rw [hf] at h; cases h
  · exact ⟨t, List.mem_of_find?_eq_some hf, by simpa using List.find?_some hf⟩

/-- How a machine looks when an instruction has been taken and has room. -/
structure Took (C : Cfg) (code : List Ins) (x : Ins) (m : Ms) : Prop where
  wf : Wf C code m
  may : mayS x code.length = true
  used : 1 ≤ m.used
  outs : (m.out.length : Int) + 1 ≤ m.used
  reads : (m.reads.length : Int) + 1 ≤ m.used
  nowait : m.wait = none
  need : (if x.op = 5 then x.n + 1 else effT x.op) ≤ (m.stack.length : Int)
  most : (m.stack.length : Int) - effT x.op + effL x.op ≤ 64
  call : x.op = 14 → m.calls.length < 16

theorem op_cases {x : Ins} {n : Int} (h : mayS x n = true) : 1 ≤ x.op ∧ x.op ≤ 20 := by
  unfold mayS at h
  split at h
  · cases h
  · rename_i hh; omega
theorem jump_may {x : Ins} {n : Int} (h : mayS x n = true) (ho : x.op = 11 ∨ x.op = 12 ∨ x.op = 13 ∨ x.op = 14) : 0 ≤ x.n ∧ x.n < n := by
  unfold mayS at h
  split at h
  · cases h
  · have hm : most x.op = -1 := by rcases ho with h | h | h | h <;> rw [h] <;> decide +kernel
    rw [hm] at h
    simp at h
    omega
theorem small_may {x : Ins} {n : Int} (h : mayS x n = true) (ho : x.op = 6 ∨ x.op = 7 ∨ x.op = 8) : 0 ≤ x.n ∧ x.n ≤ 7 := by
  unfold mayS at h
  split at h
  · cases h
  · have hm : most x.op = 7 := by rcases ho with h | h | h <;> rw [h] <;> decide +kernel
    rw [hm] at h
    have : ¬ (x.op = 9 ∨ x.op = 10) := by omega
    simp [this] at h
    omega
theorem pick_may {x : Ins} {n : Int} (h : mayS x n = true) (ho : x.op = 5) : 0 ≤ x.n ∧ x.n ≤ 63 := by
  unfold mayS at h
  split at h
  · cases h
  · have hm : most x.op = 63 := by rw [ho]; decide +kernel
    rw [hm] at h
    have : ¬ (x.op = 9 ∨ x.op = 10) := by omega
    simp [this] at h
    omega
theorem one_may {x : Ins} {n : Int} (h : mayS x n = true) (ho : x.op = 9) : 1 ≤ x.n ∧ x.n ≤ 8 := by
  unfold mayS at h
  split at h
  · cases h
  · have hm : most x.op = 8 := by rw [ho]; decide +kernel
    rw [hm] at h
    simp [ho] at h
    omega
theorem two_may {x : Ins} {n : Int} (h : mayS x n = true) (ho : x.op = 10) : 1 ≤ x.n ∧ x.n ≤ 12 := by
  unfold mayS at h
  split at h
  · cases h
  · have hm : most x.op = 12 := by rw [ho]; decide +kernel
    rw [hm] at h
    simp [ho] at h
    omega

theorem begin_took {C : Cfg} {code : List Ins} {m : Ms} {x : Ins} (h : Wf C code m) (hw : m.wait = none) (hb : m.bad = false) (hu : m.used ≠ C.fuel) (hp : m.place ≠ code.length) (hx : code[m.place.toNat]? = some x) (hr : m.begin.room x = true) : Took C code x m.begin := by
  have hx' : x ∈ code := List.mem_of_getElem? hx
  have h1 := h.place0; have h2 := h.place1; have h3 := h.used0; have h4 := h.used1; have h5 := h.out; have h6 := h.reads
  have hW : Wf C code m.begin := by
    refine ⟨h.good, ?_, ?_, ?_, ?_, h.stack, h.callsL, h.calls, ?_, h.writesL, h.writes, ?_, ?_⟩
    · show 0 ≤ m.place + 1; omega
    · show m.place + 1 ≤ _; omega
    · show 0 ≤ m.used + 1; omega
    · show m.used + 1 ≤ _; omega
    · intro c hc; have hc' : m.wait = some c := hc; rw [hw] at hc'; cases hc'
    · show _ ≤ m.used + 1; exact Int.le_trans h5 (by omega)
    · show _ ≤ m.used + 1; exact Int.le_trans h6 (by omega)
  unfold Ms.room at hr
  simp only [Bool.not_eq_true', Bool.or_eq_false_iff, decide_eq_false_iff_not, Bool.and_eq_false_iff, Int.not_lt] at hr
  refine ⟨hW, h.good hb x hx', ?_, ?_, ?_, hw, hr.1.1, hr.1.2, fun ho => ?_⟩
  · show 1 ≤ m.used + 1; omega
  · show _ ≤ m.used + 1; have : (m.begin.out.length : Int) = m.out.length := rfl; omega
  · show _ ≤ m.used + 1; have : (m.begin.reads.length : Int) = m.reads.length := rfl; omega
  · have := hr.2
    have h16 := hW.callsL
    simp [ho] at this
    omega

theorem putS_mem {most : Int} {l : List (Int × Nat)} {c : Int} {x : Nat} {p : List (Int × Nat) × Bool} (h : putS most l c x = some p) (hl : (l.length : Int) ≤ most) : (p.1.length : Int) ≤ most ∧ ∀ t ∈ p.1, t.1 = c ∨ ∃ s ∈ l, s.1 = t.1 := by
  unfold putS at h
  split at h
  · split at h
    · cases h
    · cases h
      refine ⟨by simp; omega, fun t ht => ?_⟩
      rcases List.mem_append.1 ht with h1 | h1
      · exact .inr ⟨t, h1, rfl⟩
      · left; simp at h1; rw [h1]
  · cases h
    exact ⟨by rw [rewrite_len]; exact hl, fun t ht => .inr (mem_rewrite ht)⟩

theorem stack_wf {C : Cfg} {code : List Ins} {m : Ms} (h : Wf C code m) (l : List Nat) (hl : l.length ≤ 64) (hw : m.wait = none) : Wf C code { m with stack := l } :=
  ⟨h.good, h.place0, h.place1, h.used0, h.used1, hl, h.callsL, h.calls, fun c hc => (by have hc' : m.wait = some c := hc; rw [hw] at hc'; cases hc'), h.writesL, h.writes, h.out, h.reads⟩
theorem ends_wf {C : Cfg} {code : List Ins} {m : Ms} (h : Wf C code m) (a b c : Int) : Wf C code (m.ends a b c).1 :=
  ⟨h.good, h.place0, h.place1, h.used0, h.used1, h.stack, h.callsL, h.calls, h.wait, h.writesL, h.writes, h.out, h.reads⟩
theorem trade_wf {C : Cfg} {code : List Ins} {m : Ms} (h : Wf C code m) (n : Nat) (l : List Nat) (hn : n ≤ m.stack.length) (hl : m.stack.length - n + l.length ≤ 64) (hw : m.wait = none) : Wf C code (m.trade n l) :=
  stack_wf h _ (by have := trade_len m n l hn; unfold Ms.trade at this; simp only at this; omega) hw
theorem place_wf {C : Cfg} {code : List Ins} {m : Ms} (h : Wf C code m) (p : Int) (h0 : 0 ≤ p) (h1 : p ≤ code.length) : Wf C code { m with place := p } :=
  ⟨h.good, h0, h1, h.used0, h.used1, h.stack, h.callsL, h.calls, h.wait, h.writesL, h.writes, h.out, h.reads⟩
theorem effT_le (op : Int) : 0 ≤ effT op := by
  unfold effT
  split
  · rename_i h
    obtain ⟨h1, h2⟩ := h
    rcases (by omega : op = 1 ∨ op = 2 ∨ op = 3 ∨ op = 4 ∨ op = 5 ∨ op = 6 ∨ op = 7 ∨ op = 8 ∨ op = 9 ∨ op = 10 ∨ op = 11 ∨ op = 12 ∨ op = 13 ∨ op = 14 ∨ op = 15 ∨ op = 16 ∨ op = 17 ∨ op = 18 ∨ op = 19 ∨ op = 20) with rfl | rfl | rfl | rfl | rfl | rfl | rfl | rfl | rfl | rfl | rfl | rfl | rfl | rfl | rfl | rfl | rfl | rfl | rfl | rfl <;> decide
  · omega

theorem reck_wf {C : Cfg} {code : List Ins} {m : Ms} {x : Ins} (h : Took C code x m) : Wf C code (m.reck x) := by
  have hn := h.need
  have hm := h.most
  have hs := h.wf.stack
  unfold Ms.reck
  by_cases e : x.op = 1
  · rw [if_pos e]; rw [e] at hn hm; simp [show effT 1 = 0 by decide, show effL 1 = 1 by decide] at hn hm
    exact trade_wf h.wf _ _ (by omega) (by simp; omega) h.nowait
  rw [if_neg e]; clear e
  by_cases e : x.op = 2
  · rw [if_pos e]; rw [e] at hn hm; simp [show effT 2 = 1 by decide, show effL 2 = 0 by decide] at hn hm
    exact trade_wf h.wf _ _ (by omega) (by simp; omega) h.nowait
  rw [if_neg e]; clear e
  by_cases e : x.op = 3
  · rw [if_pos e]; rw [e] at hn hm; simp [show effT 3 = 1 by decide, show effL 3 = 2 by decide] at hn hm
    exact trade_wf h.wf _ _ (by omega) (by simp; omega) h.nowait
  rw [if_neg e]; clear e
  by_cases e : x.op = 4
  · rw [if_pos e]; rw [e] at hn hm; simp [show effT 4 = 2 by decide, show effL 4 = 2 by decide] at hn hm
    exact trade_wf h.wf _ _ (by omega) (by simp; omega) h.nowait
  rw [if_neg e]; clear e
  by_cases e : x.op = 5
  · rw [if_pos e]; rw [e] at hn hm; simp [show effT 5 = 0 by decide, show effL 5 = 1 by decide] at hn hm
    exact trade_wf h.wf _ _ (by omega) (by simp; omega) h.nowait
  rw [if_neg e]; clear e
  by_cases e : x.op = 6
  · rw [if_pos e]; rw [e] at hn hm; simp [show effT 6 = 0 by decide, show effL 6 = 1 by decide] at hn hm
    exact trade_wf h.wf _ _ (by omega) (by simp; omega) h.nowait
  rw [if_neg e]; clear e
  by_cases e : x.op = 7
  · rw [if_pos e]; rw [e] at hn hm; simp [show effT 7 = 0 by decide, show effL 7 = 1 by decide] at hn hm
    exact trade_wf h.wf _ _ (by omega) (by simp; omega) h.nowait
  rw [if_neg e]; clear e
  by_cases e : x.op = 8
  · rw [if_pos e]; rw [e] at hn hm; simp [show effT 8 = 1 by decide, show effL 8 = 0 by decide] at hn hm
    have := trade_wf h.wf 1 [] (by omega) (by simp; omega) h.nowait
    exact ⟨this.good, this.place0, this.place1, this.used0, this.used1, this.stack, this.callsL, this.calls, this.wait, this.writesL, this.writes, this.out, this.reads⟩
  rw [if_neg e]; clear e
  by_cases e : x.op = 9
  · rw [if_pos e]; rw [e] at hn hm; simp [show effT 9 = 1 by decide, show effL 9 = 1 by decide] at hn hm
    exact trade_wf h.wf _ _ (by omega) (by simp; omega) h.nowait
  rw [if_neg e]; clear e
  by_cases e : x.op = 10
  · rw [if_pos e]; rw [e] at hn hm; simp [show effT 10 = 2 by decide, show effL 10 = 1 by decide] at hn hm
    exact trade_wf h.wf _ _ (by omega) (by simp; omega) h.nowait
  rw [if_neg e]; clear e
  by_cases e : x.op = 18
  · rw [if_pos e]; rw [e] at hn hm; simp [show effT 18 = 1 by decide, show effL 18 = 0 by decide] at hn hm
    have := trade_wf h.wf 1 [] (by omega) (by simp; omega) h.nowait
    refine ⟨this.good, this.place0, this.place1, this.used0, this.used1, this.stack, this.callsL, this.calls, this.wait, this.writesL, this.writes, ?_, this.reads⟩
    show ((m.out ++ [m.top 0]).length : Int) ≤ m.used
    have := h.outs
    simp; omega
  rw [if_neg e]
  exact h.wf

theorem do_wf {C : Cfg} {code : List Ins} {m m' : Ms} {x : Ins} {a : Ask} {tag : Int} (h : Took C code x m) (e : m.doS C tag x = .ok (m', a)) : Wf C code m' := by
  have hn := h.need
  have hm := h.most
  have hs := h.wf.stack
  unfold Ms.doS at e
  split at e
  · rename_i eo; rw [eo] at hn hm; simp [show effT 16 = 1 by decide, show effL 16 = 1 by decide] at hn hm
    unfold Ms.readS at e
    split at e
    · cases e
    · rename_i c hc
      have c0 := index_ge hc
      have c1 := index_lt hc
      split at e
      · cases e
        have := trade_wf h.wf 1 [] (by omega) (by simp; omega) h.nowait
        refine ⟨this.good, this.place0, this.place1, this.used0, this.used1, this.stack, this.callsL, this.calls, fun d hd => ?_, this.writesL, this.writes, this.out, this.reads⟩
        cases hd
        refine ⟨c0, c1, ?_, h.reads⟩
        show (m.trade 1 []).stack.length ≤ 63
        rw [trade_len _ _ _ (by omega)]
        simp; omega
      · cases e
        rename_i y _
        have := trade_wf h.wf 1 [y] (by omega) (by simp; omega) h.nowait
        refine ⟨this.good, this.place0, this.place1, this.used0, this.used1, this.stack, this.callsL, this.calls, fun d hd => ?_, this.writesL, this.writes, this.out, ?_⟩
        · have hd' : m.wait = some d := hd
          rw [h.nowait] at hd'; cases hd'
        · show ((m.reads ++ [(c, y)]).length : Int) ≤ m.used
          have := h.reads
          simp; omega
  split at e
  · rename_i eo; rw [eo] at hn hm; simp [show effT 17 = 2 by decide, show effL 17 = 0 by decide] at hn hm
    unfold Ms.writeS at e
    split at e
    · cases e
    split at e
    · cases e
    · rename_i c hc
      have c0 := index_ge hc
      have c1 := index_lt hc
      split at e
      · cases e
      · cases e
        rename_i p hp
        obtain ⟨q1, q2⟩ := putS_mem hp h.wf.writesL
        have := trade_wf h.wf 2 [] (by omega) (by simp; omega) h.nowait
        refine ⟨this.good, this.place0, this.place1, this.used0, this.used1, this.stack, this.callsL, this.calls, this.wait, q1, fun t ht => ?_, this.out, this.reads⟩
        rcases q2 t ht with h1 | ⟨s, hs, h1⟩
        · omega
        · have := h.wf.writes s hs; omega
  split at e
  · cases e; exact ends_wf h.wf _ _ _
  split at e
  · cases e; exact ends_wf h.wf _ _ _
  split at e
  · rename_i eo
    have hj := jump_may h.may (.inl eo)
    cases e; exact place_wf h.wf _ hj.1 (by omega)
  split at e
  · rename_i eo
    have hj := jump_may h.may (by omega)
    have hn1 : 1 ≤ m.stack.length := by
      rcases eo with eo | eo <;> rw [eo] at hn <;> simp [show effT 12 = 1 by decide, show effT 13 = 1 by decide] at hn <;> omega
    have := trade_wf h.wf 1 [] hn1 (by simp; omega) h.nowait
    cases e
    refine place_wf this _ ?_ ?_
    · split
      · exact hj.1
      · exact h.wf.place0
    · split
      · omega
      · exact h.wf.place1
  split at e
  · rename_i eo
    have hj := jump_may h.may (by omega)
    have hc := h.call eo
    cases e
    refine ⟨h.wf.good, hj.1, by show x.n ≤ _; omega, h.wf.used0, h.wf.used1, h.wf.stack, by show (m.calls ++ [m.place]).length ≤ 16; simp; omega, fun p hp => ?_, h.wf.wait, h.wf.writesL, h.wf.writes, h.wf.out, h.wf.reads⟩
    rcases List.mem_append.1 hp with h1 | h1
    · exact h.wf.calls p h1
    · simp at h1; rw [h1]; exact ⟨h.wf.place0, h.wf.place1⟩
  split at e
  · split at e
    · cases e; exact ends_wf h.wf _ _ _
    · rename_i p hp
      cases e
      have hpm := h.wf.calls p (List.mem_of_getLast? hp)
      refine ⟨h.wf.good, hpm.1, hpm.2, h.wf.used0, h.wf.used1, h.wf.stack, by show m.calls.dropLast.length ≤ 16; have := h.wf.callsL; simp; omega, fun q hq => h.wf.calls q (List.dropLast_subset _ hq), h.wf.wait, h.wf.writesL, h.wf.writes, h.wf.out, h.wf.reads⟩
  · cases e; exact reck_wf h

theorem step_wf {C : Cfg} {code : List Ins} {m : Ms} {tag : Int} (h : Wf C code m) : Wf C code (m.step C tag code).1 := by
  unfold Ms.step
  split
  · exact h
  · rename_i hw
    split
    · exact h
    split
    · exact ends_wf h _ _ _
    rename_i hb
    split
    · exact ends_wf h _ _ _
    rename_i hu
    split
    · exact ends_wf h _ _ _
    rename_i hp
    split
    · exact ends_wf h _ _ _
    · rename_i x hx
      have hb' : m.bad = false := by simpa using hb
      have hB : Wf C code m.begin := by
        have h1 := h.place0; have h2 := h.place1; have h3 := h.used0; have h4 := h.used1; have h5 := h.out; have h6 := h.reads
        refine ⟨h.good, ?_, ?_, ?_, ?_, h.stack, h.callsL, h.calls, ?_, h.writesL, h.writes, ?_, ?_⟩
        · show 0 ≤ m.place + 1; omega
        · show m.place + 1 ≤ _; omega
        · show 0 ≤ m.used + 1; omega
        · show m.used + 1 ≤ _; omega
        · intro c hc; have hc' : m.wait = some c := hc; rw [hw] at hc'; cases hc'
        · show _ ≤ m.used + 1; exact Int.le_trans h5 (by omega)
        · show _ ≤ m.used + 1; exact Int.le_trans h6 (by omega)
      split
      · rename_i hr
        have T := begin_took h hw hb' hu hp hx hr
        split
        · exact ends_wf hB _ _ _
        · rename_i r hr
          exact do_wf (m' := r.1) (a := r.2) T hr
      · exact ends_wf hB _ _ _
end Go.Proofs.YtphaeodcomgffaaGreat
