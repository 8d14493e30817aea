import Derived.Test.YtphaeodcomgffaaGreatM1
import Derived.Test.YtphaeodcomgffaaGreatB2
import Derived.Laws.BitsAllLaws
set_option linter.unusedVariables false
set_option linter.unusedSimpArgs false
namespace Go.Proofs.YtphaeodcomgffaaGreat
open Go.RowKit Ieee

theorem bad_nan : bad theNaN = true := by decide +kernel
theorem fx_bad {x : Nat} (h : bad x = true) : fx x = theNaN := by simp [fx, h]
theorem fx_good {x : Nat} (h : bad x = false) : fx x = x := by simp [fx, h]
theorem fx_fx (x : Nat) : fx (fx x) = fx x := by
  cases h : bad x
  · rw [fx_good h, fx_good h]
  · rw [fx_bad h, fx_bad bad_nan]
theorem drawn_bad (t : Nat) : bad ((t % 2) * 2 ^ 63 + 0x7ff0000000000000 + 1 + (t / 2) % (2 ^ 52 - 1)) = true := by
  rw [bad_isN]
  unfold isN rung
  simp only [decide_eq_true_eq]
  have h1 : t % 2 < 2 := Nat.mod_lt _ (by omega)
  have h2 : (t / 2) % (2 ^ 52 - 1) < 2 ^ 52 - 1 := Nat.mod_lt _ (by decide)
  generalize (t / 2) % (2 ^ 52 - 1) = u at *
  generalize t % 2 = v at *
  omega
theorem run_arith (op : BinOp) (hop : op = .add ∨ op = .sub ∨ op = .mul ∨ op = .quo) (t : TypeId) (x y : Nat) (w : World) :
    ∃ z q, (binOp op t (.float .f64 x) (.float .f64 y)).run Tryz.prog w = .ok (.float .f64 z) (w.drewN q) ∧ fx z = orN (floatBits op .f64 x y) := by
  cases h : floatBits op .f64 x y with
  | some r => exact ⟨r, 0, by rw [run_float_arith w op t .f64 x y r h]; rfl, rfl⟩
  | none =>
    refine ⟨_, 1, ?_, fx_bad (drawn_bad (w.tape w.drawn (.nanBits .f64 x y)))⟩
    rcases hop with rfl | rfl | rfl | rfl <;> (simp only [floatBits] at h; simp [binOp, Op.floatArith, h, Question.forced, Question.cut, World.drewN])
theorem toInt_at (name : String) (way : Ieee.Toward) (x : Nat) (d : Ieee.Datum) (hd : FloatKind.f64.decode x = d) (hn : ∀ s t, d ≠ .nan s t) : Extern.MathFloor.toIntegral name way #[.float .f64 x] = pure (.float .f64 (FloatKind.f64.encode (d.integral way))) := by
  delta Extern.MathFloor.toIntegral
  change (match FloatKind.f64.decode x with | .nan s t => _ | d => _) = _
  rw [hd]
  cases d
  · rfl
  · rfl
  · exact absurd rfl (hn _ _)
theorem toInt_nan (name : String) (way : Ieee.Toward) (x : Nat) (s : Bool) (t : Nat) (hd : FloatKind.f64.decode x = .nan s t) (hq : FloatKind.f64.format.quiet t = t) : Extern.MathFloor.toIntegral name way #[.float .f64 x] = pure (.float .f64 x) := by
  delta Extern.MathFloor.toIntegral
  change (match FloatKind.f64.decode x with | .nan s t => _ | d => _) = _
  rw [hd]
  exact if_pos hq
theorem not_nan {x : Nat} (h : bad x = false) (s : Bool) (t : Nat) : FloatKind.f64.decode x ≠ .nan s t := fun e => by
  have : FloatKind.f64.format.order x x = none := by
    show (Ieee.Datum.order (FloatKind.f64.decode x) (FloatKind.f64.decode x)) = none
    rw [e]; rfl
  unfold bad at h
  rw [this] at h
  cases h
theorem run_trunc (x : Nat) (h : bad x = false) (w : World) : (callFunc 252 #[.float .f64 x]).run Tryz.prog w = .ok (.value (.float .f64 (truncF x))) w := by
  rw [run_callFunc_extern Tryz.func252 (by kernel_rfl) (by kernel_rfl) (by kernel_rfl) (e := Extern.MathFloor.toIntegral "math.archTrunc" .zero) (by kernel_rfl)]
  unfold truncF
  rw [h, toInt_at _ _ x _ rfl (fun s t => not_nan h s t)]
  rfl
theorem run_floor (x : Nat) (h : fx x = x) (w : World) : (callFunc 211 #[.float .f64 x]).run Tryz.prog w = .ok (.value (.float .f64 (floorF x))) w := by
  rw [run_callFunc_extern Tryz.func211 (by kernel_rfl) (by kernel_rfl) (by kernel_rfl) (e := Extern.MathFloor.toIntegral "math.archFloor" .down) (by kernel_rfl)]
  unfold floorF
  cases hb : bad x
  · rw [toInt_at _ _ x _ rfl (fun s t => not_nan hb s t)]
    rfl
  · rw [fx_bad hb] at h
    subst h
    rw [toInt_nan _ _ theNaN false 2251799813685248 (by decide +kernel) (by decide +kernel)]
    rfl
theorem run_sqrt (x : Nat) (w : World) : ∃ z q, (callFunc 213 #[.float .f64 x]).run Tryz.prog w = .ok (.value (.float .f64 z)) (w.drewN q) ∧ fx z = orN (FloatKind.f64.format.sqrt x) := by
  rw [run_callFunc_extern Tryz.func213 (by kernel_rfl) (by kernel_rfl) (by kernel_rfl) (e := Extern.MathSqrt.sqrt) (by kernel_rfl)]
  cases h : FloatKind.f64.format.sqrt x with
  | some r =>
    refine ⟨r, 0, ?_, rfl⟩
    have e : Extern.MathSqrt.sqrt #[.float .f64 x] = pure (.float .f64 r) := by
      delta Extern.MathSqrt.sqrt
      change (match FloatKind.f64.format.sqrt x with | some r => _ | none => _) = _
      rw [h]
    rw [e]; rfl
  | none =>
    refine ⟨_, 1, ?_, fx_bad (drawn_bad (w.tape w.drawn (.nanBits .f64 x x)))⟩
    have e : Extern.MathSqrt.sqrt #[.float .f64 x] = (do pure (.float .f64 (← choose (.nanBits .f64 x x)))) := by
      delta Extern.MathSqrt.sqrt
      change (match FloatKind.f64.format.sqrt x with | some r => _ | none => _) = _
      rw [h]
    rw [e]
    simp [Sem.run_bind, Question.forced, Question.cut, World.drewN, Result.andThen]
set_option maxRecDepth 100000 in
theorem trunc_walk (x : Nat) (h : bad x = false) (w : World) : Calls Tryz.prog 230 #[.float .f64 x] w fun e w' => e = .returned (.float .f64 (truncF x)) ∧ w' = w := by
  have ht := run_trunc x h
  go_enter Tryz.func230, Tryz.ntmps230
  go_wp2
  go_ret
  exact ⟨rfl, rfl⟩

theorem read_P63 : double.read P63 = .number false 4503599627370496 11 := by decide +kernel
theorem read_P53 : double.read P53 = .number false 4503599627370496 1 := by decide +kernel
theorem small_p {m : Nat} {e : Int} (p : Nat) (h : (Datum.number false m e).order (.number false 4503599627370496 p) = some .lt) : m * 2 ^ e.toNat / 2 ^ (-e).toNat < 4503599627370496 * 2 ^ p := by
  simp only [Datum.order, Option.some.injEq, Int.compare_eq_lt] at h
  rw [signed_f, signed_f] at h
  have key : m * 2 ^ (e - min e p).toNat < 4503599627370496 * 2 ^ ((p : Int) - min e p).toNat := by omega
  clear h
  rcases (by omega : e < 0 ∨ (0 ≤ e ∧ e < p) ∨ (p : Int) ≤ e) with h | h | h
  · rw [show min e (p : Int) = e by omega, show (e - e).toNat = 0 by omega, Nat.pow_zero, Nat.mul_one, show ((p : Int) - e).toNat = p + (-e).toNat by omega, Nat.pow_add, ← Nat.mul_assoc] at key
    rw [show e.toNat = 0 by omega, Nat.pow_zero, Nat.mul_one]
    refine Nat.div_lt_of_lt_mul ?_
    rw [Nat.mul_comm]
    exact key
  · rw [show min e (p : Int) = e by omega, show (e - e).toNat = 0 by omega, Nat.pow_zero, Nat.mul_one] at key
    rw [show (-e).toNat = 0 by omega, Nat.pow_zero, Nat.div_one]
    have h2 : 2 ^ p = 2 ^ ((p : Int) - e).toNat * 2 ^ e.toNat := by rw [← Nat.pow_add]; congr 1; omega
    rw [h2, ← Nat.mul_assoc]
    exact Nat.mul_lt_mul_of_pos_right key (Nat.two_pow_pos _)
  · rw [show min e (p : Int) = p by omega, show ((p : Int) - p).toNat = 0 by omega, Nat.pow_zero, Nat.mul_one] at key
    rw [show (-e).toNat = 0 by omega, Nat.pow_zero, Nat.div_one, show e.toNat = (e - p).toNat + p by omega, Nat.pow_add, ← Nat.mul_assoc]
    exact Nat.mul_lt_mul_of_pos_right key (Nat.two_pow_pos _)
/-- A number from 0 on and below 2^(52+p), made whole. -/
theorem whole_p {c P : Nat} (p : Nat) (hp : p ≤ 11) (hP : double.read P = .number false 4503599627370496 p) (h0 : geF c 0 = true) (h1 : ltF c P = true) : floatToIntVal .f64 c .i64 = some (intF c) ∧ 0 ≤ intF c ∧ intF c < 4503599627370496 * ((2 ^ p : Nat) : Int) := by
  have hg := toInt_nonneg h0
  have h1' : double.order c P = some .lt := by
    show FloatKind.f64.format.order c P = _
    unfold ltF at h1
    simpa using h1
  unfold Format.order at h1'
  rw [hP] at h1'
  have hpow : (2 : Nat) ^ p ≤ 2 ^ 11 := Nat.pow_le_pow_right (by decide) hp
  have key : ∀ n, (FloatKind.f64.decode c).toInt .zero = some n → 0 ≤ n → n < 4503599627370496 * ((2 ^ p : Nat) : Int) → floatToIntVal .f64 c .i64 = some (intF c) ∧ 0 ≤ intF c ∧ intF c < 4503599627370496 * ((2 ^ p : Nat) : Int) := fun n hn a b => by
    have e : intF c = n := by unfold intF; rw [hn]; rfl
    rw [e]
    refine ⟨?_, a, b⟩
    unfold floatToIntVal
    rw [hn]
    simp only
    rw [if_pos]
    have lo : IntKind.i64.min = -9223372036854775808 := rfl
    have hi : IntKind.i64.max = 9223372036854775807 := rfl
    omega
  cases hq : double.read c with
  | nan s t => rw [hq] at h1'; cases (show (none : Option Ordering) = some .lt from h1')
  | infinity s =>
    rw [hq] at h1'
    cases s
    · cases (show some Ordering.gt = some Ordering.lt from h1')
    · have : double.order c 0 = some .lt := by
        unfold Format.order
        rw [hq, read_zero]; rfl
      have h2 : FloatKind.f64.format.order c 0 = some .lt := this
      unfold geF at h0
      rw [h2] at h0
      cases h0
  | number s m e =>
    have e1 : (FloatKind.f64.decode c).toInt .zero = some (signed s (m * 2 ^ e.toNat / 2 ^ (-e).toNat) 0) := by
      show (double.read c).toInt .zero = _
      rw [hq, toInt_number]
    rw [hq] at h1'
    cases s
    · have hs := small_p p h1'
      refine key _ e1 (by rw [signed_f]; omega) ?_
      rw [signed_f, Nat.pow_zero, Nat.mul_one]
      generalize (2 : Nat) ^ p = q at hs ⊢
      generalize m * 2 ^ e.toNat / 2 ^ (-e).toNat = k at hs ⊢
      omega
    · have h3 : intF c = signed true (m * 2 ^ e.toNat / 2 ^ (-e).toNat) 0 := by unfold intF; rw [e1]; rfl
      rw [h3] at hg
      refine key _ e1 hg ?_
      rw [signed_t] at hg ⊢
      have := Nat.two_pow_pos p
      omega

set_option maxRecDepth 100000 in
theorem true_walk (x : Nat) (w : World) : Calls Tryz.prog 166 #[.float .f64 x] w fun e w' => e = .returned (.bool (trueF x)) ∧ w' = w := by
  go_enter Tryz.func166, Tryz.ntmps166
  go_wp2
  · have h : FloatKind.f64.format.order x x = some Ordering.eq := by assumption
    go_ret
    refine ⟨?_, rfl⟩
    unfold trueF bad eqF
    rw [h]
    rfl
  · have h : ¬FloatKind.f64.format.order x x = some Ordering.eq := by assumption
    go_ret
    refine ⟨?_, rfl⟩
    have hb : bad x = true := by unfold bad; simpa using h
    unfold trueF
    rw [hb]
    rfl

theorem geF_spell {x y : Nat} (h : geF x y = true) : FloatKind.f64.format.order x y = some Ordering.gt ∨ FloatKind.f64.format.order x y = some Ordering.eq := by
  unfold geF at h
  rcases (Bool.or_eq_true _ _).mp h with h' | h'
  · exact .inl (by simpa using h')
  · exact .inr (by simpa using h')
theorem geF_not {x y : Nat} (h : geF x y = false) : ¬ (FloatKind.f64.format.order x y = some Ordering.gt ∨ FloatKind.f64.format.order x y = some Ordering.eq) := by
  unfold geF at h
  simpa using h
theorem geF_good {x : Nat} (h : geF x 0 = true) : bad x = false := by
  cases hb : bad x
  · rfl
  · rw [bad_isN] at hb
    have h1 := geF_spell h
    have h2 : FloatKind.f64.format.order x 0 = none := order_nan_l x 0 hb
    rw [h2] at h1
    simp at h1
/-- Index's answer. -/
def idxV : Option Int → Value
  | none => .tuple #[.int .i64 0, .int .i64 10]
  | some c => .tuple #[.int .i64 c, .int .i64 0]
set_option maxRecDepth 100000 in
theorem index_walk (x : Nat) (n : Int) (w : World) : Calls Tryz.prog 223 #[.float .f64 x, .int .i64 n] w fun e w' => e = .returned (idxV (indexF x n)) ∧ w' = w := by
  cases hg : geF x 0
  · have e : indexF x n = none := by unfold indexF; rw [hg]; rfl
    rw [e]
    have h1 := geF_not hg
    clear hg e
    unfold idxV
    go_enter Tryz.func223, Tryz.ntmps223
    go_wp2
    go_ret2
    exact ⟨rfl, rfl⟩
  have h1 := geF_spell hg
  cases hl : ltF x P63
  · have e : indexF x n = none := by unfold indexF; rw [hg, hl]; rfl
    rw [e]
    have h2 : ¬ FloatKind.f64.format.order x 4890909195324358656 = some Ordering.lt := by unfold ltF P63 at hl; simpa using hl
    clear hg hl e
    unfold idxV
    go_enter Tryz.func223, Tryz.ntmps223
    go_wp2
    go_ret2
    exact ⟨rfl, rfl⟩
  have h2 : FloatKind.f64.format.order x 4890909195324358656 = some Ordering.lt := by unfold ltF P63 at hl; simpa using hl
  have hb := geF_good hg
  obtain ⟨k1, k2, k3⟩ := whole_p 11 (by decide) read_P63 hg hl
  have hcv := fun w => run_convert_float_int (P := Tryz.prog) w 74 3 .f64 .i64 x _ (by kernel_rfl) (by kernel_rfl) k1
  cases ht : eqF (truncF x) x
  · have e : indexF x n = none := by unfold indexF; rw [hg, hl, ht]; rfl
    rw [e]
    have h3 : ¬ FloatKind.f64.format.order (truncF x) x = some Ordering.eq := by unfold eqF at ht; simpa using ht
    clear hg hl ht e k1 k2 k3
    unfold idxV
    go_enter Tryz.func223, Tryz.ntmps223
    go_wp2_with (go_at_call 230; refine (trunc_walk x hb _).mono ?_; rintro e w1 ⟨rfl, rfl⟩)
    go_ret2
    exact ⟨rfl, rfl⟩
  have h3 : FloatKind.f64.format.order (truncF x) x = some Ordering.eq := by unfold eqF at ht; simpa using ht
  have hq : (FloatKind.f64.format.order x 0 == some Ordering.gt || FloatKind.f64.format.order x 0 == some Ordering.eq) = true := hg
  have hq2 : (!FloatKind.f64.format.order x 0 == some Ordering.gt && !FloatKind.f64.format.order x 0 == some Ordering.eq) = false := by rcases h1 with h | h <;> rw [h] <;> rfl
  by_cases hn : intF x < n
  · have e : indexF x n = some (intF x) := by unfold indexF; rw [hg, hl, ht]; simp [hn]
    rw [e]
    obtain ⟨m, hm⟩ : ∃ m, m = intF x := ⟨_, rfl⟩
    rw [← hm] at hn hcv ⊢
    have hn' : ¬ n ≤ m := by omega
    clear hg hl ht e k1 k2 k3 hm hn
    unfold idxV
    go_enter Tryz.func223, Tryz.ntmps223
    go_wp2_with (go_at_call 230; refine (trunc_walk x hb _).mono ?_; rintro e w1 ⟨rfl, rfl⟩)
    go_ret2
    exact ⟨rfl, rfl⟩
  · have e : indexF x n = none := by unfold indexF; rw [hg, hl, ht]; simp [hn]
    rw [e]
    obtain ⟨m, hm⟩ : ∃ m, m = intF x := ⟨_, rfl⟩
    rw [← hm] at hn hcv
    have hn' : n ≤ m := by omega
    clear hg hl ht e k1 k2 k3 hm hn
    unfold idxV
    go_enter Tryz.func223, Tryz.ntmps223
    go_wp2_with (go_at_call 230; refine (trunc_walk x hb _).mono ?_; rintro e w1 ⟨rfl, rfl⟩)
    go_ret2
    exact ⟨rfl, rfl⟩

/-- An operation's answer: some float with this fixed one. -/
def FRet (y : Nat) (w : World) (e : Ending) (w' : World) : Prop := ∃ z q, e = .returned (.float .f64 z) ∧ fx z = y ∧ w' = w.drewN q

set_option maxRecDepth 100000 in
theorem yes_walk (b : Bool) (w : World) : Calls Tryz.prog 234 #[.bool b] w fun e w' => e = .returned (.float .f64 (yesF b)) ∧ w' = w := by
  cases b
  all_goals
    go_enter Tryz.func234, Tryz.ntmps234
    go_wp2
    go_ret
    exact ⟨rfl, rfl⟩
theorem fx_yes (b : Bool) : fx (yesF b) = yesF b := by cases b <;> decide +kernel
set_option maxRecDepth 100000 in
theorem neg_walk (x : Nat) (w : World) : Calls Tryz.prog 231 #[.float .f64 x] w (FRet (oneF 1 x) w) := by
  have hn : ∀ w, (Op.unary UnOp.neg (.float .f64 x)).run Tryz.prog w = .ok (.float .f64 (Op.negFloat .f64 x)) w := fun w => by simp [Op.unary]
  have ho : oneF 1 x = fx (Op.negFloat .f64 x) := if_pos rfl
  rw [ho]
  generalize Op.negFloat .f64 x = z at hn ⊢
  clear ho
  go_enter Tryz.func231, Tryz.ntmps231
  go_wp2
  go_ret
  exact ⟨_, 0, rfl, rfl, rfl⟩
set_option maxRecDepth 100000 in
theorem abs_walk (x : Nat) (hx : x < 18446744073709551616) (w : World) : Calls Tryz.prog 232 #[.float .f64 x] w (FRet (oneF 2 x) w) := by
  have e1 := run_bits
  have e2 := run_frombits
  have e3 : bits .andNot .u64 (x : Int) 9223372036854775808 = ((x % 9223372036854775808 : Nat) : Int) := by
    have := u64_andNot_nat x 9223372036854775808 hx (by omega)
    rw [show (18446744073709551615 - 9223372036854775808 : Nat) = 2 ^ 63 - 1 by decide, Nat.and_two_pow_sub_one_eq_mod] at this
    exact this
  clear hx
  go_enter Tryz.func232, Tryz.ntmps232
  go_wp2
  go_ret
  exact ⟨_, 0, rfl, rfl, rfl⟩
set_option maxRecDepth 100000 in
theorem floor_walk (x : Nat) (hx : fx x = x) (w : World) : Calls Tryz.prog 179 #[.float .f64 x] w (FRet (oneF 3 x) w) := by
  have e1 := run_floor x hx
  clear hx
  go_enter Tryz.func179, Tryz.ntmps179
  go_wp2
  go_ret
  exact ⟨_, 0, rfl, rfl, rfl⟩
set_option maxRecDepth 100000 in
theorem sqrt_walk (x : Nat) (w : World) : Calls Tryz.prog 180 #[.float .f64 x] w (FRet (oneF 4 x) w) := by
  obtain ⟨z, q, e1, e2⟩ := run_sqrt x w
  have E2 := Lib.hid e2
  clear e2
  go_enter Tryz.func180, Tryz.ntmps180
  go_wp2
  go_ret
  exact ⟨_, q, rfl, E2.out, rfl⟩
set_option maxRecDepth 100000 in
theorem not_walk (x : Nat) (w : World) : Calls Tryz.prog 233 #[.float .f64 x] w (FRet (oneF 5 x) w) := by
  go_enter Tryz.func233, Tryz.ntmps233
  go_wp2_with (first | (go_at_call 166; refine (true_walk x _).mono ?_; rintro e w1 ⟨rfl, rfl⟩) | (go_at_call 234; refine (yes_walk _ _).mono ?_; rintro e w1 ⟨rfl, rfl⟩))
  go_ret
  exact ⟨_, 0, rfl, fx_yes _, rfl⟩
set_option maxRecDepth 100000 in
theorem isnan_walk (x : Nat) (w : World) : Calls Tryz.prog 235 #[.float .f64 x] w (FRet (oneF 6 x) w) := by
  go_enter Tryz.func235, Tryz.ntmps235
  go_wp2_with ((go_at_call 234; refine (yes_walk _ _).mono ?_; rintro e w1 ⟨rfl, rfl⟩))
  go_ret
  exact ⟨_, 0, rfl, fx_yes _, rfl⟩
set_option maxRecDepth 100000 in
theorem sign_walk (x : Nat) (w : World) : Calls Tryz.prog 236 #[.float .f64 x] w (FRet (oneF 7 x) w) := by
  cases hg : gtF x 0
  · have h1 : (FloatKind.f64.format.order x 0 == some Ordering.gt) = false := hg
    cases hl : ltF x 0
    · have h2 : (FloatKind.f64.format.order x 0 == some Ordering.lt) = false := hl
      have e : oneF 7 x = fx x := by show (if gtF x 0 then F1 else if ltF x 0 then _ else fx x) = _; rw [hg, hl]; rfl
      rw [e]
      clear hg hl e
      go_enter Tryz.func236, Tryz.ntmps236
      go_wp2
      go_ret
      exact ⟨_, 0, rfl, rfl, rfl⟩
    · have h2 : FloatKind.f64.format.order x 0 = some Ordering.lt := by unfold ltF at hl; simpa using hl
      have e : oneF 7 x = 13830554455654793216 := by show (if gtF x 0 then F1 else if ltF x 0 then _ else fx x) = _; rw [hg, hl]; rfl
      rw [e]
      clear hg hl e
      go_enter Tryz.func236, Tryz.ntmps236
      go_wp2
      go_ret
      exact ⟨_, 0, rfl, by decide +kernel, rfl⟩
  · have h2 : FloatKind.f64.format.order x 0 = some Ordering.gt := by unfold gtF at hg; simpa using hg
    have e : oneF 7 x = F1 := by show (if gtF x 0 then F1 else if ltF x 0 then _ else fx x) = _; rw [hg]; rfl
    rw [e]
    clear hg e
    go_enter Tryz.func236, Tryz.ntmps236
    go_wp2
    go_ret
    exact ⟨_, 0, rfl, by decide +kernel, rfl⟩
set_option maxRecDepth 100000 in
theorem hash_walk (x : Nat) (hx : fx x < 18446744073709551616) (w : World) : Calls Tryz.prog 237 #[.float .f64 x] w (FRet (oneF 8 x) w) := by
  have BW := bits_walk x
  have ho : oneF 8 x = fx (hashF x) := by
    unfold oneF
    rw [if_neg (by decide), if_neg (by decide), if_neg (by decide), if_neg (by decide), if_neg (by decide), if_neg (by decide), if_neg (by decide)]
  rw [ho]
  unfold hashF
  obtain ⟨b, hb⟩ : ∃ b, b = fx x := ⟨_, rfl⟩
  rw [← hb] at BW hx ⊢
  clear hb ho
  obtain ⟨c, hc⟩ : ∃ c, c = Nat.xor b (b / 4294967296) := ⟨_, rfl⟩
  have e3 : bits .xor .u64 (b : Int) ((b : Int) / 4294967296) = (c : Int) := by rw [hc]; exact u64_xor_nat b (b / 4294967296) hx (by omega)
  rw [← hc]
  clear hc
  go_enter Tryz.func237, Tryz.ntmps237
  go_wp2_with ((go_at_call 221; refine (BW _).mono ?_; rintro e w1 ⟨rfl, rfl⟩))
  go_ret
  exact ⟨_, 0, rfl, rfl, rfl⟩
set_option maxRecDepth 100000 in
theorem add_walk (x y : Nat) (w : World) : Calls Tryz.prog 238 #[.float .f64 x, .float .f64 y] w (FRet (twoF 1 x y) w) := by
  obtain ⟨z, q, e1, e2⟩ := run_arith .add (by simp) 74 x y w
  have E2 := Lib.hid e2
  clear e2
  go_enter Tryz.func238, Tryz.ntmps238
  go_wp2
  go_ret
  exact ⟨_, q, rfl, E2.out, rfl⟩
set_option maxRecDepth 100000 in
theorem sub_walk (x y : Nat) (w : World) : Calls Tryz.prog 239 #[.float .f64 x, .float .f64 y] w (FRet (twoF 2 x y) w) := by
  obtain ⟨z, q, e1, e2⟩ := run_arith .sub (by simp) 74 x y w
  have E2 := Lib.hid e2
  clear e2
  go_enter Tryz.func239, Tryz.ntmps239
  go_wp2
  go_ret
  exact ⟨_, q, rfl, E2.out, rfl⟩
set_option maxRecDepth 100000 in
theorem mul_walk (x y : Nat) (w : World) : Calls Tryz.prog 240 #[.float .f64 x, .float .f64 y] w (FRet (twoF 3 x y) w) := by
  obtain ⟨z, q, e1, e2⟩ := run_arith .mul (by simp) 74 x y w
  have E2 := Lib.hid e2
  clear e2
  go_enter Tryz.func240, Tryz.ntmps240
  go_wp2
  go_ret
  exact ⟨_, q, rfl, E2.out, rfl⟩
set_option maxRecDepth 100000 in
theorem div_walk (x y : Nat) (w : World) : Calls Tryz.prog 241 #[.float .f64 x, .float .f64 y] w (FRet (twoF 4 x y) w) := by
  obtain ⟨z, q, e1, e2⟩ := run_arith .quo (by simp) 74 x y w
  have E2 := Lib.hid e2
  clear e2
  go_enter Tryz.func241, Tryz.ntmps241
  go_wp2
  go_ret
  exact ⟨_, q, rfl, E2.out, rfl⟩
set_option maxRecDepth 100000 in
theorem less_walk (x y : Nat) (w : World) : Calls Tryz.prog 245 #[.float .f64 x, .float .f64 y] w (FRet (twoF 8 x y) w) := by
  go_enter Tryz.func245, Tryz.ntmps245
  go_wp2_with ((go_at_call 234; refine (yes_walk _ _).mono ?_; rintro e w1 ⟨rfl, rfl⟩))
  go_ret
  exact ⟨_, 0, rfl, fx_yes _, rfl⟩
set_option maxRecDepth 100000 in
theorem atmost_walk (x y : Nat) (w : World) : Calls Tryz.prog 246 #[.float .f64 x, .float .f64 y] w (FRet (twoF 9 x y) w) := by
  go_enter Tryz.func246, Tryz.ntmps246
  go_wp2_with ((go_at_call 234; refine (yes_walk _ _).mono ?_; rintro e w1 ⟨rfl, rfl⟩))
  go_ret
  exact ⟨_, 0, rfl, fx_yes _, rfl⟩
set_option maxRecDepth 100000 in
theorem equal_walk (x y : Nat) (w : World) : Calls Tryz.prog 247 #[.float .f64 x, .float .f64 y] w (FRet (twoF 10 x y) w) := by
  go_enter Tryz.func247, Tryz.ntmps247
  go_wp2_with ((go_at_call 234; refine (yes_walk _ _).mono ?_; rintro e w1 ⟨rfl, rfl⟩))
  go_ret
  exact ⟨_, 0, rfl, fx_yes _, rfl⟩
set_option maxRecDepth 100000 in
theorem tsame_walk (x y : Nat) (w : World) : Calls Tryz.prog 248 #[.float .f64 x, .float .f64 y] w (FRet (twoF 11 x y) w) := by
  go_enter Tryz.func248, Tryz.ntmps248
  go_wp2_with (first | (go_at_call 201; refine (same_walk _ _ _).mono ?_; rintro e w1 ⟨rfl, rfl⟩) | (go_at_call 234; refine (yes_walk _ _).mono ?_; rintro e w1 ⟨rfl, rfl⟩))
  go_ret
  exact ⟨_, 0, rfl, fx_yes _, rfl⟩
set_option maxRecDepth 100000 in
theorem nan_walk (w : World) : Calls Tryz.prog 254 #[] w fun e w' => e = .returned (.float .f64 9221120237041090561) ∧ w' = w := by
  have e1 := run_frombits
  go_enter Tryz.func254, Tryz.ntmps254
  go_wp2
  go_ret
  exact ⟨rfl, rfl⟩
theorem not_nat (b : Nat) (hb : b < 18446744073709551616) : 18446744073709551615 ^^^ b = 18446744073709551615 - b := by
  apply Nat.eq_of_testBit_eq
  intro i
  rw [show 18446744073709551615 - b = 2 ^ 64 - (b + 1) by omega, Nat.testBit_two_pow_sub_succ hb, Nat.testBit_xor, show 18446744073709551615 = 2 ^ 64 - 1 by decide, Nat.testBit_two_pow_sub_one]
  by_cases h : i < 64
  · simp [h]
  · have : b.testBit i = false := Nat.testBit_lt_two_pow (Nat.lt_of_lt_of_le hb (by rw [show (18446744073709551616 : Nat) = 2 ^ 64 by decide]; exact Nat.pow_le_pow_right (by decide) (by omega)))
    simp [h, this]
set_option maxRecDepth 100000 in
theorem key_walk (x : Nat) (hx : fx x < 18446744073709551616) (w : World) : Calls Tryz.prog 255 #[.float .f64 x] w fun e w' => e = .returned (.int .u64 (keyF x)) ∧ w' = w := by
  unfold keyF
  have BW := bits_walk x
  obtain ⟨b, hb⟩ : ∃ b, b = fx x := ⟨_, rfl⟩
  rw [← hb] at BW hx ⊢
  clear hb
  by_cases h : 9223372036854775808 ≤ b
  · rw [if_pos h]
    have hs : (b : Int) / 9223372036854775808 = 1 := by omega
    have hsg : IntKind.u64.signed = false := rfl
    have e4 : bits .xor .u64 IntKind.u64.max (b : Int) = ((18446744073709551615 - b : Nat) : Int) := by
      rw [← not_nat b hx]
      exact u64_xor_nat 18446744073709551615 b (by omega) hx
    go_enter Tryz.func255, Tryz.ntmps255
    go_wp2_with (go_at_call 221; refine (BW _).mono ?_; rintro e w1 ⟨rfl, rfl⟩)
    go_ret
    exact ⟨rfl, rfl⟩
  · rw [if_neg h]
    have hs : (b : Int) / 9223372036854775808 = 0 := by omega
    have e4 : bits .or .u64 (b : Int) 9223372036854775808 = ((b + 9223372036854775808 : Nat) : Int) := by
      have h2 := nat_join63 9223372036854775808 b (by omega) (by omega)
      rw [Nat.add_comm b, ← h2, Nat.or_comm]
      exact u64_or_nat b 9223372036854775808 hx (by omega)
    go_enter Tryz.func255, Tryz.ntmps255
    go_wp2_with (go_at_call 221; refine (BW _).mono ?_; rintro e w1 ⟨rfl, rfl⟩)
    go_ret
    exact ⟨rfl, rfl⟩
structure KeyIs (x k : Nat) : Prop where
  lt : fx x < 18446744073709551616
  eq : keyF x = k
theorem key_at {x k : Nat} (h : KeyIs x k) (w : World) : Calls Tryz.prog 255 #[.float .f64 x] w fun e w' => e = .returned (.int .u64 k) ∧ w' = w := by
  have := key_walk x h.lt w
  rwa [h.eq] at this
set_option maxRecDepth 100000 in
theorem compare_walk (x y : Nat) (hx : fx x < 18446744073709551616) (hy : fx y < 18446744073709551616) (w : World) : Calls Tryz.prog 250 #[.float .f64 x, .float .f64 y] w fun e w' => e = .returned (.int .i64 (cmpF x y)) ∧ w' = w := by
  unfold cmpF
  obtain ⟨a, ha⟩ : ∃ a, a = keyF x := ⟨_, rfl⟩
  obtain ⟨b, hb⟩ : ∃ b, b = keyF y := ⟨_, rfl⟩
  have KX : KeyIs x a := ⟨hx, ha.symm⟩
  have KY : KeyIs y b := ⟨hy, hb.symm⟩
  rw [← ha, ← hb]
  clear ha hb
  by_cases h1 : a < b
  · rw [if_pos h1]
    go_enter Tryz.func250, Tryz.ntmps250
    go_wp2_with (go_at_call 255; refine (key_at (by assumption) _).mono ?_; rintro e w1 ⟨rfl, rfl⟩)
    go_ret
    exact ⟨rfl, rfl⟩
  · rw [if_neg h1]
    by_cases h2 : b < a
    · rw [if_pos h2]
      go_enter Tryz.func250, Tryz.ntmps250
      go_wp2_with (go_at_call 255; refine (key_at (by assumption) _).mono ?_; rintro e w1 ⟨rfl, rfl⟩)
      go_ret
      exact ⟨rfl, rfl⟩
    · rw [if_neg h2]
      go_enter Tryz.func250, Tryz.ntmps250
      go_wp2_with (go_at_call 255; refine (key_at (by assumption) _).mono ?_; rintro e w1 ⟨rfl, rfl⟩)
      go_ret
      exact ⟨rfl, rfl⟩
set_option maxRecDepth 100000 in
theorem ahead_walk (x y : Nat) (hx : fx x < 18446744073709551616) (hy : fx y < 18446744073709551616) (w : World) : Calls Tryz.prog 249 #[.float .f64 x, .float .f64 y] w (FRet (twoF 12 x y) w) := by
  go_enter Tryz.func249, Tryz.ntmps249
  go_wp2_with (first | (go_at_call 250; refine (compare_walk _ _ hx hy _).mono ?_; rintro e w1 ⟨rfl, rfl⟩) | (go_at_call 234; refine (yes_walk _ _).mono ?_; rintro e w1 ⟨rfl, rfl⟩))
  go_ret
  exact ⟨_, 0, rfl, fx_yes _, rfl⟩
theorem fx_nan1 : fx 9221120237041090561 = theNaN := by decide +kernel
set_option maxRecDepth 100000 in
theorem least_walk (x y : Nat) (hx : fx x < 18446744073709551616) (hy : fx y < 18446744073709551616) (w : World) : Calls Tryz.prog 243 #[.float .f64 x, .float .f64 y] w (FRet (twoF 6 x y) w) := by
  have e0 : twoF 6 x y = if bad x || bad y then theNaN else if 0 < cmpF x y then fx y else fx x := rfl
  rw [e0]
  have CW := compare_walk x y hx hy
  cases h1 : bad x
  · cases h2 : bad y
    · have g1 : (FloatKind.f64.format.order x x != some Ordering.eq) = false := h1
      have g2 : (FloatKind.f64.format.order y y != some Ordering.eq) = false := h2
      obtain ⟨c, hc⟩ : ∃ c, c = cmpF x y := ⟨_, rfl⟩
      rw [← hc] at CW ⊢
      clear h1 h2 hc e0
      by_cases h3 : 0 < c
      · simp only [Bool.or_self, Bool.false_eq_true, if_false, if_pos h3]
        go_enter Tryz.func243, Tryz.ntmps243
        go_wp2_with ((go_at_call 250; refine (CW _).mono ?_; rintro e w1 ⟨rfl, rfl⟩))
        go_ret
        exact ⟨_, 0, rfl, rfl, rfl⟩
      · simp only [Bool.or_self, Bool.false_eq_true, if_false, if_neg h3]
        go_enter Tryz.func243, Tryz.ntmps243
        go_wp2_with ((go_at_call 250; refine (CW _).mono ?_; rintro e w1 ⟨rfl, rfl⟩))
        go_ret
        exact ⟨_, 0, rfl, rfl, rfl⟩
    · have g1 : (FloatKind.f64.format.order x x != some Ordering.eq) = false := h1
      have g2 : (FloatKind.f64.format.order y y != some Ordering.eq) = true := h2
      clear h1 h2 e0
      simp only [Bool.or_true, if_true]
      go_enter Tryz.func243, Tryz.ntmps243
      go_wp2_with ((go_at_call 254; refine (nan_walk _).mono ?_; rintro e w1 ⟨rfl, rfl⟩))
      go_ret
      exact ⟨_, 0, rfl, fx_nan1, rfl⟩
  · have g1 : (FloatKind.f64.format.order x x != some Ordering.eq) = true := h1
    clear h1 e0
    simp only [Bool.true_or, if_true]
    go_enter Tryz.func243, Tryz.ntmps243
    go_wp2_with ((go_at_call 254; refine (nan_walk _).mono ?_; rintro e w1 ⟨rfl, rfl⟩))
    go_ret
    exact ⟨_, 0, rfl, fx_nan1, rfl⟩
set_option maxRecDepth 100000 in
theorem greatest_walk (x y : Nat) (hx : fx x < 18446744073709551616) (hy : fx y < 18446744073709551616) (w : World) : Calls Tryz.prog 244 #[.float .f64 x, .float .f64 y] w (FRet (twoF 7 x y) w) := by
  have e0 : twoF 7 x y = if bad x || bad y then theNaN else if cmpF x y < 0 then fx y else fx x := rfl
  rw [e0]
  have CW := compare_walk x y hx hy
  cases h1 : bad x
  · cases h2 : bad y
    · have g1 : (FloatKind.f64.format.order x x != some Ordering.eq) = false := h1
      have g2 : (FloatKind.f64.format.order y y != some Ordering.eq) = false := h2
      obtain ⟨c, hc⟩ : ∃ c, c = cmpF x y := ⟨_, rfl⟩
      rw [← hc] at CW ⊢
      clear h1 h2 hc e0
      by_cases h3 : c < 0
      · simp only [Bool.or_self, Bool.false_eq_true, if_false, if_pos h3]
        go_enter Tryz.func244, Tryz.ntmps244
        go_wp2_with ((go_at_call 250; refine (CW _).mono ?_; rintro e w1 ⟨rfl, rfl⟩))
        go_ret
        exact ⟨_, 0, rfl, rfl, rfl⟩
      · simp only [Bool.or_self, Bool.false_eq_true, if_false, if_neg h3]
        go_enter Tryz.func244, Tryz.ntmps244
        go_wp2_with ((go_at_call 250; refine (CW _).mono ?_; rintro e w1 ⟨rfl, rfl⟩))
        go_ret
        exact ⟨_, 0, rfl, rfl, rfl⟩
    · have g1 : (FloatKind.f64.format.order x x != some Ordering.eq) = false := h1
      have g2 : (FloatKind.f64.format.order y y != some Ordering.eq) = true := h2
      clear h1 h2 e0
      simp only [Bool.or_true, if_true]
      go_enter Tryz.func244, Tryz.ntmps244
      go_wp2_with ((go_at_call 254; refine (nan_walk _).mono ?_; rintro e w1 ⟨rfl, rfl⟩))
      go_ret
      exact ⟨_, 0, rfl, fx_nan1, rfl⟩
  · have g1 : (FloatKind.f64.format.order x x != some Ordering.eq) = true := h1
    clear h1 e0
    simp only [Bool.true_or, if_true]
    go_enter Tryz.func244, Tryz.ntmps244
    go_wp2_with ((go_at_call 254; refine (nan_walk _).mono ?_; rintro e w1 ⟨rfl, rfl⟩))
    go_ret
    exact ⟨_, 0, rfl, fx_nan1, rfl⟩
end Go.Proofs.YtphaeodcomgffaaGreat
set_option linter.unusedVariables false
set_option linter.unusedSimpArgs false
namespace Go.Proofs.YtphaeodcomgffaaGreat
open Go.RowKit Ieee

theorem read_F1 : double.read F1 = .number false 4503599627370496 (-52) := by decide +kernel
theorem one_le {y : Nat} (h : geF y F1 = true) (hl : ltF y P53 = true) : geF y 0 = true ∧ 1 ≤ intF y := by
  have h1 := geF_spell h
  change double.order y F1 = some .gt ∨ double.order y F1 = some .eq at h1
  have h2 : double.order y P53 = some .lt := by
    show FloatKind.f64.format.order y P53 = _
    unfold ltF at hl
    simpa using hl
  unfold Format.order at h1 h2
  rw [read_F1] at h1
  rw [read_P53] at h2
  have g0 : ∀ o, double.order y 0 = some o → (o = .gt ∨ o = .eq) → geF y 0 = true := fun o ho hh => by
    unfold geF
    have : FloatKind.f64.format.order y 0 = some o := ho
    rw [this]
    rcases hh with rfl | rfl <;> rfl
  cases hq : double.read y with
  | nan s t => rw [hq] at h2; cases (show (none : Option Ordering) = some .lt from h2)
  | infinity s =>
    rw [hq] at h1 h2
    cases s
    · cases (show some Ordering.gt = some Ordering.lt from h2)
    · rcases h1 with h1 | h1
      · cases (show some Ordering.lt = some Ordering.gt from h1)
      · cases (show some Ordering.lt = some Ordering.eq from h1)
  | number s m e =>
    rw [hq] at h1
    have e1 : (FloatKind.f64.decode y).toInt .zero = some (signed s (m * 2 ^ e.toNat / 2 ^ (-e).toNat) 0) := by
      show (double.read y).toInt .zero = _
      rw [hq, toInt_number]
    have e2 : intF y = signed s (m * 2 ^ e.toNat / 2 ^ (-e).toNat) 0 := by unfold intF; rw [e1]; rfl
    simp only [Datum.order, Option.some.injEq, Int.compare_eq_gt, Int.compare_eq_eq] at h1
    have h3 : signed false 4503599627370496 (-52 - min e (-52)).toNat ≤ signed s m (e - min e (-52)).toNat := by omega
    clear h1
    have hp : 0 < 4503599627370496 * 2 ^ (-52 - min e (-52)).toNat := Nat.mul_pos (by decide) (Nat.two_pow_pos _)
    cases s
    · rw [signed_f, signed_f] at h3
      have key : 4503599627370496 * 2 ^ (-52 - min e (-52)).toNat ≤ m * 2 ^ (e - min e (-52)).toNat := by omega
      have hm : 0 < m := by
        rcases Nat.eq_zero_or_pos m with h0 | h0
        · rw [h0, Nat.zero_mul] at key; omega
        · exact h0
      constructor
      · refine g0 (compare (signed false m (e - min e (-1074)).toNat) (signed false 0 (-1074 - min e (-1074)).toNat)) (by unfold Format.order; rw [hq, read_zero]; rfl) ?_
        rw [signed_f, signed_f]
        left
        rw [Int.compare_eq_gt]
        have := Nat.mul_pos hm (Nat.two_pow_pos (e - min e (-1074)).toNat)
        simp only [Nat.zero_mul]
        omega
      · rw [e2, signed_f, Nat.pow_zero, Nat.mul_one]
        suffices hs : 1 ≤ m * 2 ^ e.toNat / 2 ^ (-e).toNat by omega
        rw [Nat.le_div_iff_mul_le (Nat.two_pow_pos _), Nat.one_mul]
        rcases (by omega : e < -52 ∨ (-52 ≤ e ∧ e < 0) ∨ 0 ≤ e) with h | h | h
        · rw [show min e (-52) = e by omega, show (e - e).toNat = 0 by omega, Nat.pow_zero, Nat.mul_one] at key
          rw [show e.toNat = 0 by omega, Nat.pow_zero, Nat.mul_one, show (-e).toNat = 52 + (-52 - e).toNat by omega, Nat.pow_add]
          exact key
        · rw [show min e (-52) = -52 by omega, show (-52 - -52 : Int).toNat = 0 by omega, Nat.pow_zero, Nat.mul_one] at key
          rw [show e.toNat = 0 by omega, Nat.pow_zero, Nat.mul_one]
          refine Nat.le_of_mul_le_mul_right (c := 2 ^ (e - -52).toNat) ?_ (Nat.two_pow_pos _)
          rw [← Nat.pow_add, show (-e).toNat + (e - -52).toNat = 52 by omega]
          exact key
        · rw [show (-e).toNat = 0 by omega, Nat.pow_zero]
          exact Nat.mul_pos hm (Nat.two_pow_pos _)
    · rw [signed_f, signed_t] at h3
      omega

theorem geB {x y : Nat} (h : geF x y = true) : (FloatKind.f64.format.order x y == some Ordering.gt || FloatKind.f64.format.order x y == some Ordering.eq) = true ∧ (!FloatKind.f64.format.order x y == some Ordering.gt && !FloatKind.f64.format.order x y == some Ordering.eq) = false ∧ (FloatKind.f64.format.order x y = some Ordering.gt ∨ FloatKind.f64.format.order x y = some Ordering.eq) := by
  have h1 := geF_spell h
  refine ⟨h, ?_, h1⟩
  rcases h1 with h | h <;> rw [h] <;> rfl
theorem geN {x y : Nat} (h : geF x y = false) : (FloatKind.f64.format.order x y == some Ordering.gt) = false ∧ (FloatKind.f64.format.order x y == some Ordering.eq) = false ∧ ¬ (FloatKind.f64.format.order x y = some Ordering.gt ∨ FloatKind.f64.format.order x y = some Ordering.eq) := by
  have h1 := geF_not h
  exact ⟨by simp; exact fun e => h1 (.inl e), by simp; exact fun e => h1 (.inr e), h1⟩
theorem ltB {x y : Nat} {b : Bool} (h : ltF x y = b) : (FloatKind.f64.format.order x y == some Ordering.lt) = b := h
theorem eqB {x y : Nat} {b : Bool} (h : eqF x y = b) : (FloatKind.f64.format.order x y == some Ordering.eq) = b := h
theorem eqP {x y : Nat} (h : eqF x y = true) : FloatKind.f64.format.order x y = some Ordering.eq := by unfold eqF at h; simpa using h
theorem ltP {x y : Nat} (h : ltF x y = true) : FloatKind.f64.format.order x y = some Ordering.lt := by unfold ltF at h; simpa using h
theorem ltNP {x y : Nat} (h : ltF x y = false) : ¬ FloatKind.f64.format.order x y = some Ordering.lt := by unfold ltF at h; simpa using h
theorem eqNP {x y : Nat} (h : eqF x y = false) : ¬ FloatKind.f64.format.order x y = some Ordering.eq := by unfold eqF at h; simpa using h

set_option maxRecDepth 100000 in
set_option maxHeartbeats 1000000 in
theorem mod_no (x y : Nat) (w : World) (h : ((geF x 0 && ltF x P53) && (geF y F1 && ltF y P53) && eqF (truncF x) x && eqF (truncF y) y) = false) : Calls Tryz.prog 242 #[.float .f64 x, .float .f64 y] w (FRet theNaN w) := by
  unfold P53 F1 at h
  cases h1 : geF x 0
  · obtain ⟨a1, a2, a3⟩ := geN h1
    clear h h1
    go_enter Tryz.func242, Tryz.ntmps242
    go_wp2_with ((go_at_call 254; refine (nan_walk _).mono ?_; rintro e w1 ⟨rfl, rfl⟩))
    go_ret
    exact ⟨_, 0, rfl, fx_nan1, rfl⟩
  have b1 := geF_good h1
  obtain ⟨a1, a2, a3⟩ := geB h1
  cases h2 : ltF x 4845873199050653696
  · have a4 := ltNP h2
    clear h h1 h2 b1
    go_enter Tryz.func242, Tryz.ntmps242
    go_wp2_with ((go_at_call 254; refine (nan_walk _).mono ?_; rintro e w1 ⟨rfl, rfl⟩))
    go_ret
    exact ⟨_, 0, rfl, fx_nan1, rfl⟩
  have a4 := ltP h2
  cases h3 : geF y 4607182418800017408
  · obtain ⟨a5, a6, a7⟩ := geN h3
    clear h h1 h2 h3 b1
    go_enter Tryz.func242, Tryz.ntmps242
    go_wp2_with ((go_at_call 254; refine (nan_walk _).mono ?_; rintro e w1 ⟨rfl, rfl⟩))
    go_ret
    exact ⟨_, 0, rfl, fx_nan1, rfl⟩
  obtain ⟨a5, a6, a7⟩ := geB h3
  cases h4 : ltF y 4845873199050653696
  · have a8 := ltNP h4
    clear h h1 h2 h3 h4 b1
    go_enter Tryz.func242, Tryz.ntmps242
    go_wp2_with ((go_at_call 254; refine (nan_walk _).mono ?_; rintro e w1 ⟨rfl, rfl⟩))
    go_ret
    exact ⟨_, 0, rfl, fx_nan1, rfl⟩
  have a8 := ltP h4
  have b2 := geF_good (one_le h3 h4).1
  have TX := trunc_walk x b1
  have TY := trunc_walk y b2
  cases h5 : eqF (truncF x) x
  · have a9 := eqNP h5
    clear h h1 h2 h3 h4 h5 b1 b2 TY
    go_enter Tryz.func242, Tryz.ntmps242
    go_wp2_with (first | (go_at_call 254; refine (nan_walk _).mono ?_; rintro e w1 ⟨rfl, rfl⟩) | (go_at_call 230; refine (TX _).mono ?_; rintro e w1 ⟨rfl, rfl⟩))
    go_ret
    exact ⟨_, 0, rfl, fx_nan1, rfl⟩
  have a9 := eqP h5
  have h6 : eqF (truncF y) y = false := by rw [h1, h2, h3, h4, h5] at h; simpa using h
  have a10 := eqNP h6
  have a11 : (FloatKind.f64.format.order (truncF y) y != some Ordering.eq) = true := by simpa using a10
  clear h h1 h2 h3 h4 h5 h6 TX TY
  go_enter Tryz.func242, Tryz.ntmps242
  go_wp2_with (first | (go_at_call 254; refine (nan_walk _).mono ?_; rintro e w1 ⟨rfl, rfl⟩) | (go_at_call 230; refine (trunc_walk _ (by assumption) _).mono ?_; rintro e w1 ⟨rfl, rfl⟩))
  go_ret
  exact ⟨_, 0, rfl, fx_nan1, rfl⟩

set_option maxRecDepth 100000 in
set_option maxHeartbeats 1000000 in
theorem mod_yes (x y : Nat) (w : World) (h1 : geF x 0 = true) (h2 : ltF x P53 = true) (h3 : geF y F1 = true) (h4 : ltF y P53 = true) (h5 : eqF (truncF x) x = true) (h6 : eqF (truncF y) y = true) : Calls Tryz.prog 242 #[.float .f64 x, .float .f64 y] w fun e w' => e = .returned (.float .f64 (floatOfInt .f64 (intF x % intF y))) ∧ w' = w := by
  have b1 := geF_good h1
  obtain ⟨y0, y1⟩ := one_le h3 h4
  have b2 := geF_good y0
  obtain ⟨k1, k2, k3⟩ := whole_p 1 (by decide) read_P53 h1 h2
  obtain ⟨l1, l2, l3⟩ := whole_p 1 (by decide) read_P53 y0 h4
  unfold P53 F1 at *
  obtain ⟨a1, a2, a3⟩ := geB h1
  have a4 := ltP h2
  obtain ⟨a5, a6, a7⟩ := geB h3
  have a8 := ltP h4
  have a9 := eqP h5
  have a10 := eqP h6
  have c1 := fun w => run_convert_float_int (P := Tryz.prog) w 74 3 .f64 .i64 x _ (by kernel_rfl) (by kernel_rfl) k1
  have c2 := fun w => run_convert_float_int (P := Tryz.prog) w 74 3 .f64 .i64 y _ (by kernel_rfl) (by kernel_rfl) l1
  have d1 : intF x < 9007199254740992 := by simpa using k3
  have d2 : intF y < 9007199254740992 := by simpa using l3
  generalize intF x = m at *
  generalize intF y = n at *
  have hz : (n == 0) = false := by simp; omega
  clear h1 h2 h3 h4 h5 h6 y0 k1 l1 k3 l3
  go_enter Tryz.func242, Tryz.ntmps242
  go_wp2_with (first | (go_at_call 230; refine (trunc_walk _ (by assumption) _).mono ?_; rintro e w1 ⟨rfl, rfl⟩))
  go_ret
  exact ⟨rfl, rfl⟩
theorem mod_walk (x y : Nat) (w : World) : Calls Tryz.prog 242 #[.float .f64 x, .float .f64 y] w (FRet (twoF 5 x y) w) := by
  have e0 : twoF 5 x y = fx (modF x y) := by
    unfold twoF
    rw [if_neg (by decide), if_neg (by decide), if_neg (by decide), if_neg (by decide), if_pos rfl]
  rw [e0]
  unfold modF
  cases h : ((geF x 0 && ltF x P53) && (geF y F1 && ltF y P53) && eqF (truncF x) x && eqF (truncF y) y)
  · simp only [Bool.false_eq_true, if_false]
    rw [fx_bad bad_nan]
    exact mod_no x y w h
  · simp only [if_true]
    simp only [Bool.and_eq_true] at h
    refine (mod_yes x y w h.1.1.1.1 h.1.1.1.2 h.1.1.2.1 h.1.1.2.2 h.1.2 h.2).mono ?_
    rintro e w' ⟨rfl, rfl⟩
    exact ⟨_, 0, rfl, rfl, rfl⟩
end Go.Proofs.YtphaeodcomgffaaGreat
