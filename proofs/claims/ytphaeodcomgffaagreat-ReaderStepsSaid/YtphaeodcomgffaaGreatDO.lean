import Derived.Test.YtphaeodcomgffaaGreatN3
import Derived.Test.YtphaeodcomgffaaGreatRR
set_option linter.unusedVariables false
set_option linter.unusedSimpArgs false
namespace Go.Proofs.YtphaeodcomgffaaGreat
open Go.RowKit Ieee

/-! The document's numbers. -/
theorem floorF_trunc {x : Nat} (h : geF x 0 = true) : floorF x = truncF x := by
  have hb := geF_good h
  have h1 := geF_spell h
  change double.order x 0 = some .gt ∨ double.order x 0 = some .eq at h1
  unfold floorF truncF
  rw [hb]
  simp only [Bool.false_eq_true, if_false]
  congr 1
  show (double.read x).integral .down = (double.read x).integral .zero
  unfold Format.order at h1
  rw [read_zero] at h1
  cases hd : double.read x with
  | nan s t => rfl
  | infinity s => rfl
  | number s m e =>
    cases s
    · rfl
    · rw [hd] at h1
      simp only [Datum.order, Option.some.injEq, signed_t, signed_f] at h1
      have hm : m * 2 ^ (e - min e (-1074)).toNat = 0 := by
        rcases h1 with h1 | h1
        · have := Int.compare_eq_gt.1 h1; omega
        · have := Int.compare_eq_eq.1 h1; omega
      have h0 : m = 0 := by
        rcases Nat.mul_eq_zero.1 hm with h1 | h1
        · exact h1
        · exact absurd h1 (by have := Nat.two_pow_pos (e - min e (-1074)).toNat; omega)
      subst h0
      simp [Datum.integral, Toward.cut]
theorem eqF_comm (x y : Nat) : eqF x y = eqF y x := by
  unfold eqF
  show (double.order x y == some Ordering.eq) = (double.order y x == some Ordering.eq)
  cases hx : isN x
  · cases hy : isN y
    · rw [order_stand x y hx hy, order_stand y x hy hx]
      rw [Bool.eq_iff_iff]
      simp only [beq_iff_eq, Option.some.injEq, Int.compare_eq_eq]
      exact ⟨fun h => h.symm, fun h => h.symm⟩
    · rw [order_nan_r x y hy, order_nan_l y x hy]
  · rw [order_nan_l x y hx, order_nan_r y x hx]
theorem true_eq (x : Nat) : (ltF x 0 || gtF x 0) = trueF x := by
  unfold ltF gtF trueF eqF
  rw [bad_isN]
  show ((double.order x 0 == some Ordering.lt) || (double.order x 0 == some Ordering.gt)) = (!isN x && !(double.order x 0 == some Ordering.eq))
  cases hx : isN x
  · rw [order_stand x 0 hx (by decide +kernel)]
    cases compare (stand x) (stand 0) <;> rfl
  · rw [order_nan_l x 0 hx]; rfl

set_option maxRecDepth 100000 in
theorem rof_walk (n : Nat) (w : World) : Calls Tryz.prog 178 #[.int .u64 n] w fun e w' => e = .returned (.float .f64 (fx n)) ∧ w' = w := by
  have e38 := run_frombits
  go_enter Tryz.func178, Tryz.ntmps178
  go_wp2_with (go_at_call 105; refine (rfix_walk _ _).mono ?_; rintro e w' ⟨rfl, rfl⟩)
  go_ret
  exact ⟨rfl, rfl⟩
set_option maxRecDepth 100000 in
theorem rsame_walk1 (a b : Nat) (w : World) : Calls Tryz.prog 185 #[.float .f64 a, .float .f64 b] w fun e w' => e = .returned (.bool (fx a == fx b)) ∧ w' = w := by
  go_enter Tryz.func185, Tryz.ntmps185
  go_wp2_with (go_at_call 135; refine (rbits_walk _ _).mono ?_; rintro e w' ⟨rfl, rfl⟩)
  go_ret
  exact ⟨by rw [cast_beq]; rfl, rfl⟩
set_option maxRecDepth 100000 in
theorem rtrue_walk (x : Nat) (w : World) : Calls Tryz.prog 145 #[.float .f64 x] w fun e w' => e = .returned (.bool (trueF x)) ∧ w' = w := by
  rw [← true_eq]
  cases h : ltF x 0
  · have h1 := ltB h
    have h1' := ltNP h
    clear h
    go_enter Tryz.func145, Tryz.ntmps145
    go_wp2
    go_ret
    exact ⟨rfl, rfl⟩
  · have h1 := ltP h
    clear h
    go_enter Tryz.func145, Tryz.ntmps145
    go_wp2
    go_ret
    exact ⟨rfl, rfl⟩
set_option maxRecDepth 100000 in
theorem floorx_walk (x : Nat) (hx : bad x = false) (w : World) : Calls Tryz.prog 179 #[.float .f64 x] w fun e w' => e = .returned (.float .f64 (floorF x)) ∧ w' = w := by
  have e1 := run_floor x (fx_good hx)
  clear hx
  go_enter Tryz.func179, Tryz.ntmps179
  go_wp2
  go_ret
  exact ⟨rfl, rfl⟩

set_option maxRecDepth 100000 in
theorem rindex_walk (x : Nat) (n : Int) (w : World) : Calls Tryz.prog 187 #[.float .f64 x, .int .i64 n] w fun e w' => e = .returned (idxV (indexF x n)) ∧ w' = w := by
  cases hg : geF x 0
  · have e : indexF x n = none := by unfold indexF; rw [hg]; rfl
    rw [e]
    obtain ⟨a1, a2, h1⟩ := geN hg
    clear hg e
    unfold idxV
    go_enter Tryz.func187, Tryz.ntmps187
    go_wp2
    go_ret2
    exact ⟨rfl, rfl⟩
  obtain ⟨a1, a2, h1⟩ := geB hg
  cases hl : ltF x P63
  · have e : indexF x n = none := by unfold indexF; rw [hg, hl]; rfl
    rw [e]
    have h2 : ¬ FloatKind.f64.format.order x 4890909195324358656 = some Ordering.lt := by unfold ltF P63 at hl; simpa using hl
    clear hg hl e
    unfold idxV
    go_enter Tryz.func187, Tryz.ntmps187
    go_wp2
    go_ret2
    exact ⟨rfl, rfl⟩
  have h2 : FloatKind.f64.format.order x 4890909195324358656 = some Ordering.lt := by unfold ltF P63 at hl; simpa using hl
  have hb := geF_good hg
  obtain ⟨k1, k2, k3⟩ := whole_p 11 (by decide) read_P63 hg hl
  have hcv := fun w => run_convert_float_int (P := Tryz.prog) w 74 3 .f64 .i64 x _ (by kernel_rfl) (by kernel_rfl) k1
  have FW := floorx_walk x hb
  have eF := floorF_trunc hg
  cases ht : eqF (truncF x) x
  · have e : indexF x n = none := by unfold indexF; rw [hg, hl, ht]; rfl
    rw [e]
    rw [eqF_comm] at ht
    rw [← eF] at ht
    have h3 := eqNP ht
    have h3' : (FloatKind.f64.format.order x (floorF x) != some Ordering.eq) = true := by simpa using h3
    clear hg hl ht e k1 k2 k3 eF
    unfold idxV
    go_enter Tryz.func187, Tryz.ntmps187
    go_wp2_with (go_at_call 179; refine (FW _).mono ?_; rintro e w1 ⟨rfl, rfl⟩)
    go_ret2
    exact ⟨rfl, rfl⟩
  have h3 : FloatKind.f64.format.order x (floorF x) = some Ordering.eq := by rw [eF]; rw [eqF_comm] at ht; exact eqP ht
  by_cases hn : intF x < n
  · have e : indexF x n = some (intF x) := by unfold indexF; rw [hg, hl, ht]; simp [hn]
    rw [e]
    obtain ⟨m, hm⟩ : ∃ m, m = intF x := ⟨_, rfl⟩
    rw [← hm] at hn hcv ⊢
    have hn' : ¬ n ≤ m := by omega
    clear hg hl ht e k1 k2 k3 hm hn eF
    unfold idxV
    go_enter Tryz.func187, Tryz.ntmps187
    go_wp2_with (go_at_call 179; refine (FW _).mono ?_; rintro e w1 ⟨rfl, rfl⟩)
    go_ret2
    exact ⟨rfl, rfl⟩
  · have e : indexF x n = none := by unfold indexF; rw [hg, hl, ht]; simp [hn]
    rw [e]
    obtain ⟨m, hm⟩ : ∃ m, m = intF x := ⟨_, rfl⟩
    rw [← hm] at hn hcv
    have hn' : n ≤ m := by omega
    clear hg hl ht e k1 k2 k3 hm hn eF
    unfold idxV
    go_enter Tryz.func187, Tryz.ntmps187
    go_wp2_with (go_at_call 179; refine (FW _).mono ?_; rintro e w1 ⟨rfl, rfl⟩)
    go_ret2
    exact ⟨rfl, rfl⟩

set_option maxRecDepth 100000 in
theorem ryes_walk (b : Bool) (w : World) : Calls Tryz.prog 181 #[.bool b] w fun e w' => e = .returned (.float .f64 (yesF b)) ∧ w' = w := by
  cases b
  all_goals
    go_enter Tryz.func181, Tryz.ntmps181
    go_wp2
    go_ret
    exact ⟨rfl, rfl⟩
/-- The document's hash. -/
def hashI (x : Nat) : Int := ((Nat.xor (fx x) (fx x / 4294967296) : Nat) : Int) % 4294967296 * 2654435769 % 4294967296 / 65536
theorem hashF_I (x : Nat) : hashF x = floatOfInt .f64 (hashI x) := rfl
set_option maxRecDepth 100000 in
theorem rhash_walk (x : Nat) (hx : fx x < 18446744073709551616) (w : World) : Calls Tryz.prog 182 #[.float .f64 x] w fun e w' => e = .returned (.int .i64 (hashI x)) ∧ w' = w := by
  have BW := rbits_walk x
  unfold hashI
  obtain ⟨b, hb⟩ : ∃ b, b = fx x := ⟨_, rfl⟩
  rw [← hb] at BW hx ⊢
  clear hb
  obtain ⟨c, hc⟩ : ∃ c, c = Nat.xor b (b / 4294967296) := ⟨_, rfl⟩
  have e3 : bits .xor .u64 (b : Int) ((b : Int) / 4294967296) = (c : Int) := by rw [hc]; exact u64_xor_nat b (b / 4294967296) hx (by omega)
  rw [← hc]
  clear hc
  go_enter Tryz.func182, Tryz.ntmps182
  go_wp2_with ((go_at_call 135; refine (BW _).mono ?_; rintro e w1 ⟨rfl, rfl⟩))
  go_ret
  exact ⟨rfl, rfl⟩

/-- A number's kind, in the document's order. -/
def classF (x : Nat) : Int := if bad x then 4 else if ltF x 0 then 0 else if gtF x 0 then 3 else if fx x = 0 then 2 else 1
set_option maxRecDepth 100000 in
theorem class_walk (x : Nat) (w : World) : Calls Tryz.prog 215 #[.float .f64 x] w fun e w' => e = .returned (.int .i64 (classF x)) ∧ w' = w := by
  unfold classF
  have BW := rbits_walk x
  cases h1 : bad x
  · have g1 : (FloatKind.f64.format.order x x != some Ordering.eq) = false := h1
    simp only [Bool.false_eq_true, if_false]
    clear h1
    cases h2 : ltF x 0
    · have g2 := ltB h2
      have g2' := ltNP h2
      simp only [Bool.false_eq_true, if_false]
      clear h2
      cases h3 : gtF x 0
      · have g3 : (FloatKind.f64.format.order x 0 == some Ordering.gt) = false := h3
        have g3' : ¬ FloatKind.f64.format.order x 0 = some Ordering.gt := by simpa [gtF] using h3
        simp only [Bool.false_eq_true, if_false]
        clear h3
        generalize fx x = b at *
        by_cases h4 : b = 0
        · rw [if_pos h4]
          go_enter Tryz.func215, Tryz.ntmps215
          go_wp2_with ((go_at_call 135; refine (BW _).mono ?_; rintro e w1 ⟨rfl, rfl⟩))
          go_ret
          exact ⟨rfl, rfl⟩
        · rw [if_neg h4]
          have h4' : ¬ (b : Int) = 0 := by omega
          go_enter Tryz.func215, Tryz.ntmps215
          go_wp2_with ((go_at_call 135; refine (BW _).mono ?_; rintro e w1 ⟨rfl, rfl⟩))
          go_ret
          exact ⟨rfl, rfl⟩
      · have g3 : FloatKind.f64.format.order x 0 = some Ordering.gt := by simpa [gtF] using h3
        simp only [if_true]
        clear h3
        go_enter Tryz.func215, Tryz.ntmps215
        go_wp2
        go_ret
        exact ⟨rfl, rfl⟩
    · have g2 := ltP h2
      simp only [if_true]
      clear h2
      go_enter Tryz.func215, Tryz.ntmps215
      go_wp2
      go_ret
      exact ⟨rfl, rfl⟩
  · have g1 : (FloatKind.f64.format.order x x != some Ordering.eq) = true := h1
    simp only [if_true]
    clear h1
    go_enter Tryz.func215, Tryz.ntmps215
    go_wp2
    go_ret
    exact ⟨rfl, rfl⟩
def cmpD (x y : Nat) : Int := if classF x < classF y ∨ (classF x = classF y ∧ ltF x y = true) then -1 else if classF y < classF x ∨ gtF x y = true then 1 else 0
theorem fx_key {x : Nat} (hx : x < 18446744073709551616) : isN x = false → (keyF x : Int) = if sgn x then 9223372036854775807 - (rung x : Int) else 9223372036854775808 + (rung x : Int) := by
  intro h
  have e : fx x = x := fx_good (by rw [bad_isN]; exact h)
  unfold keyF
  rw [e]
  unfold sgn rung
  by_cases h1 : 9223372036854775808 ≤ x
  · rw [if_pos h1]
    have : (x / 9223372036854775808 % 2 == 1) = true := by simp; omega
    rw [this, if_pos rfl]
    omega
  · rw [if_neg h1]
    have : (x / 9223372036854775808 % 2 == 1) = false := by simp; omega
    rw [this]
    simp only [Bool.false_eq_true, if_false]
    omega
theorem class_std {x : Nat} (hx : x < 18446744073709551616) (h : isN x = false) : classF x = if sgn x then (if rung x = 0 then 1 else 0) else if rung x = 0 then 2 else 3 := by
  have e : fx x = x := fx_good (by rw [bad_isN]; exact h)
  have h0 := order_stand x 0 h (by decide +kernel)
  have s0 : stand 0 = 0 := by decide +kernel
  rw [s0] at h0
  unfold classF ltF gtF
  rw [bad_isN, h, e]
  show (if false = true then _ else if (double.order x 0 == some Ordering.lt) = true then _ else if (double.order x 0 == some Ordering.gt) = true then _ else _) = _
  rw [h0]
  simp only [Bool.false_eq_true, if_false]
  unfold stand
  cases hs : sgn x
  · simp only [Bool.false_eq_true, if_false]
    by_cases hr : rung x = 0
    · have hx0 : x = 0 := by unfold rung at hr; unfold sgn at hs; simp at hs; omega
      rw [if_pos hr, hr, hx0]; rfl
    · rw [if_neg hr, Int.compare_eq_gt.2 (by omega)]; rfl
  · simp only [if_true]
    by_cases hr : rung x = 0
    · have hx0 : x ≠ 0 := by unfold sgn at hs; simp at hs; omega
      rw [if_pos hr, hr]
      rw [show compare (-((0 : Nat) : Int)) 0 = Ordering.eq from rfl]
      simp [hx0]
    · rw [if_neg hr, Int.compare_eq_lt.2 (by omega)]; rfl
theorem class_nan {x : Nat} (h : isN x = true) : classF x = 4 := by unfold classF; rw [bad_isN, h]; rfl
theorem key_nan {x : Nat} (h : isN x = true) : keyF x = 18444492273895866368 := by
  unfold keyF; rw [fx_bad (by rw [bad_isN]; exact h)]; decide
theorem cmpD_eq (x y : Nat) (hx : x < 18446744073709551616) (hy : y < 18446744073709551616) : cmpD x y = cmpF x y := by
  unfold cmpD cmpF ltF gtF
  show (if classF x < classF y ∨ (classF x = classF y ∧ (double.order x y == some Ordering.lt) = true) then (-1 : Int) else if classF y < classF x ∨ (double.order x y == some Ordering.gt) = true then 1 else 0) = _
  cases h1 : isN x
  · have kx := fx_key hx h1
    have cx := class_std hx h1
    have rx : rung x ≤ 9218868437227405312 := by simpa [isN] using h1
    cases h2 : isN y
    · have ky := fx_key hy h2
      have cy := class_std hy h2
      have ho := order_stand x y h1 h2
      rw [ho]
      have l1 : ((some (compare (stand x) (stand y)) == some Ordering.lt) = true) ↔ stand x < stand y := by rw [beq_iff_eq, Option.some.injEq, Int.compare_eq_lt]
      have l2 : ((some (compare (stand x) (stand y)) == some Ordering.gt) = true) ↔ stand y < stand x := by rw [beq_iff_eq, Option.some.injEq, Int.compare_eq_gt]
      simp only [l1, l2]
      clear l1 l2 ho
      unfold stand
      cases hs : sgn x <;> cases ht : sgn y <;> simp only [hs, ht, if_true, if_false, Bool.false_eq_true] at kx ky cx cy ⊢ <;> (rw [cx, cy]; by_cases a : rung x = 0 <;> by_cases b : rung y = 0 <;> simp only [a, b, if_true, if_false, true_and] <;> (split <;> split <;> (try split) <;> (try split) <;> omega))
    · have cy := class_nan h2
      have ky := key_nan h2
      rw [order_nan_r x y h2, cy, ky]
      have hc : classF x < 4 := by rw [cx]; split <;> split <;> omega
      have hk : keyF x < 18444492273895866368 := by split at kx <;> omega
      rw [if_pos (.inl hc), if_pos hk]
  · have cx := class_nan h1
    have kx := key_nan h1
    rw [order_nan_l x y h1, cx, kx]
    cases h2 : isN y
    · have ky := fx_key hy h2
      have cy := class_std hy h2
      have ry : rung y ≤ 9218868437227405312 := by simpa [isN] using h2
      have hc : classF y < 4 := by rw [cy]; split <;> split <;> omega
      have hk : keyF y < 18444492273895866368 := by split at ky <;> omega
      rw [if_neg (by rintro (h | ⟨h, _⟩) <;> omega), if_pos (.inl hc), if_neg (by omega), if_pos hk]
    · have cy := class_nan h2
      have ky := key_nan h2
      rw [cy, ky]
      rfl
structure ClassIs (x : Nat) (k : Int) : Prop where
  eq : classF x = k
theorem class_at {x : Nat} {k : Int} (h : ClassIs x k) (w : World) : Calls Tryz.prog 215 #[.float .f64 x] w fun e w' => e = .returned (.int .i64 k) ∧ w' = w := by
  have := class_walk x w
  rwa [h.eq] at this
set_option maxRecDepth 100000 in
set_option maxHeartbeats 1000000 in
theorem rcompare_walk (x y : Nat) (hx : x < 18446744073709551616) (hy : y < 18446744073709551616) (w : World) : Calls Tryz.prog 186 #[.float .f64 x, .float .f64 y] w fun e w' => e = .returned (.int .i64 (cmpF x y)) ∧ w' = w := by
  rw [← cmpD_eq x y hx hy]
  unfold cmpD
  have CX : ClassIs x (classF x) := ⟨rfl⟩
  have CY : ClassIs y (classF y) := ⟨rfl⟩
  generalize classF x = a at *
  generalize classF y = b at *
  clear hx hy
  by_cases h1 : a < b
  · rw [if_pos (.inl h1)]
    go_enter Tryz.func186, Tryz.ntmps186
    go_wp2_with (go_at_call 215; refine (class_at (by assumption) _).mono ?_; rintro e w1 ⟨rfl, rfl⟩)
    go_ret
    exact ⟨rfl, rfl⟩
  · by_cases h2 : a = b
    · subst h2
      cases hl : ltF x y
      · have g1 := ltNP hl
        have g1' := ltB hl
        cases hg : gtF x y
        · have g2 : ¬ FloatKind.f64.format.order x y = some Ordering.gt := by simpa [gtF] using hg
          have g2' : (FloatKind.f64.format.order x y == some Ordering.gt) = false := hg
          rw [if_neg (by simp), if_neg (by simp)]
          clear hl hg h1
          go_enter Tryz.func186, Tryz.ntmps186
          go_wp2_with (go_at_call 215; refine (class_at (by assumption) _).mono ?_; rintro e w1 ⟨rfl, rfl⟩)
          go_ret
          exact ⟨rfl, rfl⟩
        · have g2 : FloatKind.f64.format.order x y = some Ordering.gt := by simpa [gtF] using hg
          rw [if_neg (by simp), if_pos (by simp)]
          clear hl hg h1
          go_enter Tryz.func186, Tryz.ntmps186
          go_wp2_with (go_at_call 215; refine (class_at (by assumption) _).mono ?_; rintro e w1 ⟨rfl, rfl⟩)
          go_ret
          exact ⟨rfl, rfl⟩
      · have g1 := ltP hl
        rw [if_pos (by simp)]
        clear hl h1
        go_enter Tryz.func186, Tryz.ntmps186
        go_wp2_with (go_at_call 215; refine (class_at (by assumption) _).mono ?_; rintro e w1 ⟨rfl, rfl⟩)
        go_ret
        exact ⟨rfl, rfl⟩
    · have h3 : b < a := by omega
      rw [if_neg (by rintro (h | ⟨h, _⟩); exact h1 h; exact h2 h), if_pos (.inl h3)]
      go_enter Tryz.func186, Tryz.ntmps186
      go_wp2_with (go_at_call 215; refine (class_at (by assumption) _).mono ?_; rintro e w1 ⟨rfl, rfl⟩)
      go_ret
      exact ⟨rfl, rfl⟩
end Go.Proofs.YtphaeodcomgffaaGreat
set_option linter.unusedVariables false
set_option linter.unusedSimpArgs false
namespace Go.Proofs.YtphaeodcomgffaaGreat
open Go.RowKit Ieee

/-! The document's One and Two. -/
theorem geF_fine {x y : Nat} (h : geF x y = true) : bad x = false := by
  cases hb : bad x
  · rfl
  · rw [bad_isN] at hb
    have h1 := geF_spell h
    have h2 : FloatKind.f64.format.order x y = none := order_nan_l x y hb
    rw [h2] at h1
    simp at h1
def wholeF (x least : Nat) : Bool := geF x least && (ltF x P53 && eqF x (floorF x))
set_option maxRecDepth 100000 in
theorem rwhole_walk (x least : Nat) (w : World) : Calls Tryz.prog 214 #[.float .f64 x, .float .f64 least] w fun e w' => e = .returned (.bool (wholeF x least)) ∧ w' = w := by
  unfold wholeF P53
  cases h1 : geF x least
  · obtain ⟨a1, a2, a3⟩ := geN h1
    clear h1
    rw [Bool.false_and]
    go_enter Tryz.func214, Tryz.ntmps214
    go_wp2
    go_ret
    exact ⟨rfl, rfl⟩
  have hb := geF_fine h1
  obtain ⟨a1, a2, a3⟩ := geB h1
  have FW := floorx_walk x hb
  rw [Bool.true_and]
  cases h2 : ltF x 4845873199050653696
  · have a4 := ltNP h2
    have a5 := ltB h2
    clear h1 h2 hb FW
    rw [Bool.false_and]
    go_enter Tryz.func214, Tryz.ntmps214
    go_wp2
    go_ret
    exact ⟨rfl, rfl⟩
  have a4 := ltP h2
  rw [Bool.true_and]
  clear h1 h2 hb
  unfold eqF
  generalize floorF x = z at *
  go_enter Tryz.func214, Tryz.ntmps214
  go_wp2_with (go_at_call 179; refine (FW _).mono ?_; rintro e w1 ⟨rfl, rfl⟩)
  go_ret
  exact ⟨rfl, rfl⟩
theorem modF_whole (x y : Nat) : modF x y = if wholeF x 0 && wholeF y F1 then floatOfInt .f64 (intF x % intF y) else theNaN := by
  unfold modF wholeF
  congr 2
  rw [Bool.eq_iff_iff]
  simp only [Bool.and_eq_true]
  constructor
  · rintro ⟨⟨⟨⟨a, b⟩, c, d⟩, e⟩, f⟩
    refine ⟨⟨a, b, ?_⟩, c, d, ?_⟩
    · rw [floorF_trunc a, eqF_comm]; exact e
    · rw [floorF_trunc (one_le c d).1, eqF_comm]; exact f
  · rintro ⟨⟨a, b, e⟩, c, d, f⟩
    refine ⟨⟨⟨⟨a, b⟩, c, d⟩, ?_⟩, ?_⟩
    · rw [floorF_trunc a, eqF_comm] at e; exact e
    · rw [floorF_trunc (one_le c d).1, eqF_comm] at f; exact f
structure WholeIs (x l : Nat) (b : Bool) : Prop where
  eq : wholeF x l = b
theorem whole_at {x l : Nat} {b : Bool} (h : WholeIs x l b) (w : World) : Calls Tryz.prog 214 #[.float .f64 x, .float .f64 l] w fun e w' => e = .returned (.bool b) ∧ w' = w := by
  have := rwhole_walk x l w
  rwa [h.eq] at this
set_option maxRecDepth 100000 in
set_option maxHeartbeats 1000000 in
theorem rmod_walk (x y : Nat) (w : World) : Calls Tryz.prog 183 #[.float .f64 x, .float .f64 y] w fun e w' => e = .returned (.float .f64 (modF x y)) ∧ w' = w := by
  rw [modF_whole]
  have AW : WholeIs x 0 (wholeF x 0) := ⟨rfl⟩
  have BW : WholeIs y F1 (wholeF y F1) := ⟨rfl⟩
  have OW := rof_walk 9221120237041090560
  rw [show fx 9221120237041090560 = theNaN from by decide +kernel] at OW
  have eF : F1 = 4607182418800017408 := rfl
  cases h1 : wholeF x 0
  · rw [h1] at AW
    rw [Bool.false_and]
    simp only [Bool.false_eq_true, if_false]
    rw [eF] at BW
    generalize wholeF y _ = b at *
    clear h1 eF
    go_enter Tryz.func183, Tryz.ntmps183
    go_wp2_with (first | (go_at_call 214; refine (whole_at (by assumption) _).mono ?_; rintro e w1 ⟨rfl, rfl⟩) | (go_at_call 178; refine (OW _).mono ?_; rintro e w1 ⟨rfl, rfl⟩))
    go_ret
    exact ⟨rfl, rfl⟩
  rw [h1] at AW
  rw [Bool.true_and]
  cases h2 : wholeF y F1
  · rw [h2, eF] at BW
    simp only [Bool.false_eq_true, if_false]
    clear h1 h2 eF
    go_enter Tryz.func183, Tryz.ntmps183
    go_wp2_with (first | (go_at_call 214; refine (whole_at (by assumption) _).mono ?_; rintro e w1 ⟨rfl, rfl⟩) | (go_at_call 178; refine (OW _).mono ?_; rintro e w1 ⟨rfl, rfl⟩))
    go_ret
    exact ⟨rfl, rfl⟩
  rw [h2, eF] at BW
  simp only [if_true]
  unfold wholeF at h1 h2
  simp only [Bool.and_eq_true] at h1 h2
  obtain ⟨y0, y1⟩ := one_le h2.1 h2.2.1
  obtain ⟨k1, k2, k3⟩ := whole_p 1 (by decide) read_P53 h1.1 h1.2.1
  obtain ⟨l1, l2, l3⟩ := whole_p 1 (by decide) read_P53 y0 h2.2.1
  have c1 := fun w => run_convert_float_int (P := Tryz.prog) w 74 3 .f64 .i64 x _ (by kernel_rfl) (by kernel_rfl) k1
  have c2 := fun w => run_convert_float_int (P := Tryz.prog) w 74 3 .f64 .i64 y _ (by kernel_rfl) (by kernel_rfl) l1
  have d1 : intF x < 9007199254740992 := by simpa using k3
  have d2 : intF y < 9007199254740992 := by simpa using l3
  generalize intF x = m at *
  generalize intF y = n at *
  have hz : (n == 0) = false := by simp; omega
  clear h1 h2 y0 k1 l1 k3 l3 eF OW
  go_enter Tryz.func183, Tryz.ntmps183
  go_wp2_with (go_at_call 214; refine (whole_at (by assumption) _).mono ?_; rintro e w1 ⟨rfl, rfl⟩)
  go_ret
  exact ⟨rfl, rfl⟩
/-- The first (or the last) of two; NaN, if one is. -/
def firstF (x y : Nat) (s : Int) : Nat := if bad x || bad y then theNaN else if cmpF x y = s then y else x
set_option maxRecDepth 100000 in
theorem rfirst_walk (x y : Nat) (s : Int) (hx : x < 18446744073709551616) (hy : y < 18446744073709551616) (w : World) : Calls Tryz.prog 184 #[.float .f64 x, .float .f64 y, .int .i64 s] w fun e w' => e = .returned (.float .f64 (firstF x y s)) ∧ w' = w := by
  unfold firstF
  have CW := rcompare_walk x y hx hy
  have OW := rof_walk 9221120237041090560
  rw [show fx 9221120237041090560 = theNaN from by decide +kernel] at OW
  cases h1 : bad x
  · have g1 : (FloatKind.f64.format.order x x != some Ordering.eq) = false := h1
    cases h2 : bad y
    · have g2 : (FloatKind.f64.format.order y y != some Ordering.eq) = false := h2
      simp only [Bool.or_self, Bool.false_eq_true, if_false]
      generalize cmpF x y = c at *
      clear h1 h2 hx hy OW
      by_cases h3 : c = s
      · rw [if_pos h3]
        go_enter Tryz.func184, Tryz.ntmps184
        go_wp2_with ((go_at_call 186; refine (CW _).mono ?_; rintro e w1 ⟨rfl, rfl⟩))
        go_ret
        exact ⟨rfl, rfl⟩
      · rw [if_neg h3]
        go_enter Tryz.func184, Tryz.ntmps184
        go_wp2_with ((go_at_call 186; refine (CW _).mono ?_; rintro e w1 ⟨rfl, rfl⟩))
        go_ret
        exact ⟨rfl, rfl⟩
    · have g2 : (FloatKind.f64.format.order y y != some Ordering.eq) = true := h2
      simp only [Bool.or_true, if_true]
      clear h1 h2 hx hy CW
      go_enter Tryz.func184, Tryz.ntmps184
      go_wp2_with ((go_at_call 178; refine (OW _).mono ?_; rintro e w1 ⟨rfl, rfl⟩))
      go_ret
      exact ⟨rfl, rfl⟩
  · have g1 : (FloatKind.f64.format.order x x != some Ordering.eq) = true := h1
    simp only [Bool.true_or, if_true]
    clear h1 hx hy CW
    go_enter Tryz.func184, Tryz.ntmps184
    go_wp2_with ((go_at_call 178; refine (OW _).mono ?_; rintro e w1 ⟨rfl, rfl⟩))
    go_ret
    exact ⟨rfl, rfl⟩

/-- The answer of One or Two. -/
def ORet (y : Nat) (w : World) (e : Ending) (w' : World) : Prop := ∃ q, e = .returned (.tuple #[.float .f64 y, .int .i64 0]) ∧ w' = w.drewN q
def FixY (y z : Nat) : Prop := fx z = y
theorem fixy_at {y z : Nat} (h : FixY y z) (w : World) : Calls Tryz.prog 105 #[.float .f64 z] w fun e w' => e = .returned (.float .f64 y) ∧ w' = w := by
  have := rfix_walk z w
  rwa [show fx z = y from h] at this
set_option maxRecDepth 100000 in
set_option maxHeartbeats 1000000 in
theorem rone_1 (x : Nat) (hx : fx x = x) (hl : x < 18446744073709551616) (w : World) : Calls Tryz.prog 143 #[.int .i64 1, .float .f64 x] w (ORet (oneF 1 x) w) := by
  have BW := rbits_walk x
  rw [hx] at BW
  have ho : oneF 1 x = fx (Op.negFloat .f64 x) := if_pos rfl
  have e3 : bits .xor .u64 (x : Int) 9223372036854775808 = ((Op.negFloat .f64 x : Nat) : Int) := u64_xor_nat x 9223372036854775808 hl (by omega)
  rw [ho]
  generalize Op.negFloat .f64 x = z at *
  have F : FixY (fx z) (fx z) := fx_fx z
  have FW := rof_walk z
  clear ho hx hl
  generalize fx z = y at *
  go_enter Tryz.func143, Tryz.ntmps143
  go_wp2_with (first | (go_at_call 135; refine (BW _).mono ?_; rintro e w1 ⟨rfl, rfl⟩) | (go_at_call 178; refine (FW _).mono ?_; rintro e w1 ⟨rfl, rfl⟩) | (go_at_call 105; refine (fixy_at (by assumption) _).mono ?_; rintro e w1 ⟨rfl, rfl⟩))
  go_ret2
  exact ⟨0, rfl, rfl⟩
set_option maxRecDepth 100000 in
set_option maxHeartbeats 1000000 in
theorem rone_2 (x : Nat) (hx : fx x = x) (hl : x < 18446744073709551616) (w : World) : Calls Tryz.prog 143 #[.int .i64 2, .float .f64 x] w (ORet (oneF 2 x) w) := by
  have BW := rbits_walk x
  rw [hx] at BW
  have ho : oneF 2 x = fx (x % 9223372036854775808) := by unfold oneF; rw [if_neg (by decide), if_pos rfl]
  have e3 : bits .andNot .u64 (x : Int) 9223372036854775808 = ((x % 9223372036854775808 : Nat) : Int) := by
    have := u64_andNot_nat x 9223372036854775808 hl (by omega)
    rw [show (18446744073709551615 - 9223372036854775808 : Nat) = 2 ^ 63 - 1 by decide, Nat.and_two_pow_sub_one_eq_mod] at this
    exact this
  rw [ho]
  generalize x % 9223372036854775808 = z at *
  have F : FixY (fx z) (fx z) := fx_fx z
  have FW := rof_walk z
  clear ho hx hl
  generalize fx z = y at *
  go_enter Tryz.func143, Tryz.ntmps143
  go_wp2_with (first | (go_at_call 135; refine (BW _).mono ?_; rintro e w1 ⟨rfl, rfl⟩) | (go_at_call 178; refine (FW _).mono ?_; rintro e w1 ⟨rfl, rfl⟩) | (go_at_call 105; refine (fixy_at (by assumption) _).mono ?_; rintro e w1 ⟨rfl, rfl⟩))
  go_ret2
  exact ⟨0, rfl, rfl⟩
set_option maxRecDepth 100000 in
set_option maxHeartbeats 1000000 in
theorem rone_3 (x : Nat) (hx : fx x = x) (hl : x < 18446744073709551616) (w : World) : Calls Tryz.prog 143 #[.int .i64 3, .float .f64 x] w (ORet (oneF 3 x) w) := by
  have FL := floor_walk x hx
  generalize oneF 3 x = y at *
  clear hx hl
  go_enter Tryz.func143, Tryz.ntmps143
  go_wp2_with (first | (go_at_call 179; refine (FL _).mono ?_; rintro e w1 ⟨z, q, rfl, hz, rfl⟩; have F : FixY y z := hz; clear hz) | (go_at_call 105; refine (fixy_at (by assumption) _).mono ?_; rintro e w1 ⟨rfl, rfl⟩))
  go_ret2
  exact ⟨_, rfl, rfl⟩
set_option maxRecDepth 100000 in
set_option maxHeartbeats 1000000 in
theorem rone_4 (x : Nat) (hx : fx x = x) (hl : x < 18446744073709551616) (w : World) : Calls Tryz.prog 143 #[.int .i64 4, .float .f64 x] w (ORet (oneF 4 x) w) := by
  have FL := sqrt_walk x
  generalize oneF 4 x = y at *
  clear hx hl
  go_enter Tryz.func143, Tryz.ntmps143
  go_wp2_with (first | (go_at_call 180; refine (FL _).mono ?_; rintro e w1 ⟨z, q, rfl, hz, rfl⟩; have F : FixY y z := hz; clear hz) | (go_at_call 105; refine (fixy_at (by assumption) _).mono ?_; rintro e w1 ⟨rfl, rfl⟩))
  go_ret2
  exact ⟨_, rfl, rfl⟩
set_option maxRecDepth 100000 in
set_option maxHeartbeats 1000000 in
theorem rone_5 (x : Nat) (hx : fx x = x) (hl : x < 18446744073709551616) (w : World) : Calls Tryz.prog 143 #[.int .i64 5, .float .f64 x] w (ORet (oneF 5 x) w) := by
  have TW := rtrue_walk x
  have ho : oneF 5 x = yesF (!trueF x) := by unfold oneF; rw [if_neg (by decide), if_neg (by decide), if_neg (by decide), if_neg (by decide), if_pos rfl]
  rw [ho]
  generalize trueF x = b at *
  have F : FixY (yesF (!b)) (yesF (!b)) := fx_yes _
  have YW := ryes_walk (!b)
  generalize yesF (!b) = y at *
  clear ho hx hl
  go_enter Tryz.func143, Tryz.ntmps143
  go_wp2_with (first | (go_at_call 145; refine (TW _).mono ?_; rintro e w1 ⟨rfl, rfl⟩) | (go_at_call 181; refine (YW _).mono ?_; rintro e w1 ⟨rfl, rfl⟩) | (go_at_call 105; refine (fixy_at (by assumption) _).mono ?_; rintro e w1 ⟨rfl, rfl⟩))
  go_ret2
  exact ⟨0, rfl, rfl⟩
set_option maxRecDepth 100000 in
set_option maxHeartbeats 1000000 in
theorem rone_6 (x : Nat) (hx : fx x = x) (hl : x < 18446744073709551616) (w : World) : Calls Tryz.prog 143 #[.int .i64 6, .float .f64 x] w (ORet (oneF 6 x) w) := by
  have ho : oneF 6 x = yesF (FloatKind.f64.format.order x x != some Ordering.eq) := by unfold oneF; rw [if_neg (by decide), if_neg (by decide), if_neg (by decide), if_neg (by decide), if_neg (by decide), if_pos rfl]; rfl
  rw [ho]
  have F : FixY (yesF (FloatKind.f64.format.order x x != some Ordering.eq)) (yesF (FloatKind.f64.format.order x x != some Ordering.eq)) := fx_yes _
  have YW := ryes_walk (FloatKind.f64.format.order x x != some Ordering.eq)
  generalize yesF (FloatKind.f64.format.order x x != some Ordering.eq) = y at *
  clear ho hx hl
  go_enter Tryz.func143, Tryz.ntmps143
  go_wp2_with (first | (go_at_call 181; refine (YW _).mono ?_; rintro e w1 ⟨rfl, rfl⟩) | (go_at_call 105; refine (fixy_at (by assumption) _).mono ?_; rintro e w1 ⟨rfl, rfl⟩))
  go_ret2
  exact ⟨0, rfl, rfl⟩
set_option maxRecDepth 100000 in
set_option maxHeartbeats 1000000 in
theorem rone_7 (x : Nat) (hx : fx x = x) (hl : x < 18446744073709551616) (w : World) : Calls Tryz.prog 143 #[.int .i64 7, .float .f64 x] w (ORet (oneF 7 x) w) := by
  have ho : oneF 7 x = if gtF x 0 then F1 else if ltF x 0 then 13830554455654793216 else fx x := by unfold oneF; rw [if_neg (by decide), if_neg (by decide), if_neg (by decide), if_neg (by decide), if_neg (by decide), if_neg (by decide), if_pos rfl]
  rw [ho]
  clear ho
  cases hg : gtF x 0
  · have g1 : (FloatKind.f64.format.order x 0 == some Ordering.gt) = false := hg
    have g1' : ¬ FloatKind.f64.format.order x 0 = some Ordering.gt := by simpa [gtF] using hg
    cases hl2 : ltF x 0
    · have g2 := ltB hl2
      have g2' := ltNP hl2
      simp only [Bool.false_eq_true, if_false]
      clear hg hl2
      have F : FixY (fx x) (x) := rfl
      clear hx hl
      go_enter Tryz.func143, Tryz.ntmps143
      go_wp2_with ((go_at_call 105; refine (fixy_at (by assumption) _).mono ?_; rintro e w1 ⟨rfl, rfl⟩))
      go_ret2
      exact ⟨0, rfl, rfl⟩
    · have g2 := ltP hl2
      simp only [Bool.false_eq_true, if_false, if_true]
      clear hg hl2 g1 g1'
      have F : FixY (13830554455654793216) (13830554455654793216) := by show fx _ = _; decide +kernel
      clear hx hl
      go_enter Tryz.func143, Tryz.ntmps143
      go_wp2_with ((go_at_call 105; refine (fixy_at (by assumption) _).mono ?_; rintro e w1 ⟨rfl, rfl⟩))
      go_ret2
      exact ⟨0, rfl, rfl⟩
  · have g1 : FloatKind.f64.format.order x 0 = some Ordering.gt := by simpa [gtF] using hg
    simp only [if_true]
    clear hg
    have F : FixY (F1) (4607182418800017408) := by show fx _ = _; decide +kernel
    clear hx hl
    go_enter Tryz.func143, Tryz.ntmps143
    go_wp2_with ((go_at_call 105; refine (fixy_at (by assumption) _).mono ?_; rintro e w1 ⟨rfl, rfl⟩))
    go_ret2
    exact ⟨0, rfl, rfl⟩
set_option maxRecDepth 100000 in
set_option maxHeartbeats 1000000 in
theorem rone_8 (x : Nat) (hx : fx x = x) (hl : x < 18446744073709551616) (w : World) : Calls Tryz.prog 143 #[.int .i64 8, .float .f64 x] w (ORet (oneF 8 x) w) := by
  have HW := rhash_walk x (by rw [hx]; exact hl)
  have ho : oneF 8 x = fx (floatOfInt .f64 (hashI x)) := by
    rw [← hashF_I]
    unfold oneF
    rw [if_neg (by decide), if_neg (by decide), if_neg (by decide), if_neg (by decide), if_neg (by decide), if_neg (by decide), if_neg (by decide)]
  rw [ho]
  generalize hashI x = h at *
  have F : FixY (fx (floatOfInt .f64 h)) (floatOfInt .f64 h) := rfl
  generalize fx (floatOfInt .f64 h) = y at *
  clear ho hx hl
  go_enter Tryz.func143, Tryz.ntmps143
  go_wp2_with (first | (go_at_call 182; refine (HW _).mono ?_; rintro e w1 ⟨rfl, rfl⟩) | (go_at_call 105; refine (fixy_at (by assumption) _).mono ?_; rintro e w1 ⟨rfl, rfl⟩))
  go_ret2
  exact ⟨0, rfl, rfl⟩
theorem rone_walk (op : Int) (h1 : 1 ≤ op) (h8 : op ≤ 8) (x : Nat) (hx : fx x = x) (hl : x < 18446744073709551616) (w : World) : Calls Tryz.prog 143 #[.int .i64 op, .float .f64 x] w (ORet (oneF op x) w) := by
  rcases (by omega : op = 1 ∨ op = 2 ∨ op = 3 ∨ op = 4 ∨ op = 5 ∨ op = 6 ∨ op = 7 ∨ op = 8) with rfl | rfl | rfl | rfl | rfl | rfl | rfl | rfl
  · exact rone_1 x hx hl w
  · exact rone_2 x hx hl w
  · exact rone_3 x hx hl w
  · exact rone_4 x hx hl w
  · exact rone_5 x hx hl w
  · exact rone_6 x hx hl w
  · exact rone_7 x hx hl w
  · exact rone_8 x hx hl w
set_option maxRecDepth 100000 in
set_option maxHeartbeats 1000000 in
theorem rtwo_1 (x y : Nat) (hx : fx x = x) (hy : fx y = y) (hl : x < 18446744073709551616) (hm : y < 18446744073709551616) (w : World) : Calls Tryz.prog 144 #[.int .i64 1, .float .f64 x, .float .f64 y] w (ORet (twoF 1 x y) w) := by
  obtain ⟨z, q, e1, e2⟩ := run_arith .add (by simp) 74 x y w
  have ho : twoF 1 x y = orN (floatBits .add .f64 x y) := by unfold twoF; rw [if_pos rfl]
  rw [ho]
  have F : FixY (orN (floatBits .add .f64 x y)) z := e2
  generalize orN (floatBits .add .f64 x y) = v at *
  clear ho hx hy hl hm e2
  go_enter Tryz.func144, Tryz.ntmps144
  go_wp2_with (first | (go_at_call 105; refine (fixy_at (by assumption) _).mono ?_; rintro e w1 ⟨rfl, rfl⟩))
  go_ret2
  exact ⟨q, rfl, rfl⟩
set_option maxRecDepth 100000 in
set_option maxHeartbeats 1000000 in
theorem rtwo_2 (x y : Nat) (hx : fx x = x) (hy : fx y = y) (hl : x < 18446744073709551616) (hm : y < 18446744073709551616) (w : World) : Calls Tryz.prog 144 #[.int .i64 2, .float .f64 x, .float .f64 y] w (ORet (twoF 2 x y) w) := by
  obtain ⟨z, q, e1, e2⟩ := run_arith .sub (by simp) 74 x y w
  have ho : twoF 2 x y = orN (floatBits .sub .f64 x y) := by unfold twoF; rw [if_neg (by decide), if_pos rfl]
  rw [ho]
  have F : FixY (orN (floatBits .sub .f64 x y)) z := e2
  generalize orN (floatBits .sub .f64 x y) = v at *
  clear ho hx hy hl hm e2
  go_enter Tryz.func144, Tryz.ntmps144
  go_wp2_with (first | (go_at_call 105; refine (fixy_at (by assumption) _).mono ?_; rintro e w1 ⟨rfl, rfl⟩))
  go_ret2
  exact ⟨q, rfl, rfl⟩
set_option maxRecDepth 100000 in
set_option maxHeartbeats 1000000 in
theorem rtwo_3 (x y : Nat) (hx : fx x = x) (hy : fx y = y) (hl : x < 18446744073709551616) (hm : y < 18446744073709551616) (w : World) : Calls Tryz.prog 144 #[.int .i64 3, .float .f64 x, .float .f64 y] w (ORet (twoF 3 x y) w) := by
  obtain ⟨z, q, e1, e2⟩ := run_arith .mul (by simp) 74 x y w
  have ho : twoF 3 x y = orN (floatBits .mul .f64 x y) := by unfold twoF; rw [if_neg (by decide), if_neg (by decide), if_pos rfl]
  rw [ho]
  have F : FixY (orN (floatBits .mul .f64 x y)) z := e2
  generalize orN (floatBits .mul .f64 x y) = v at *
  clear ho hx hy hl hm e2
  go_enter Tryz.func144, Tryz.ntmps144
  go_wp2_with (first | (go_at_call 105; refine (fixy_at (by assumption) _).mono ?_; rintro e w1 ⟨rfl, rfl⟩))
  go_ret2
  exact ⟨q, rfl, rfl⟩
set_option maxRecDepth 100000 in
set_option maxHeartbeats 1000000 in
theorem rtwo_4 (x y : Nat) (hx : fx x = x) (hy : fx y = y) (hl : x < 18446744073709551616) (hm : y < 18446744073709551616) (w : World) : Calls Tryz.prog 144 #[.int .i64 4, .float .f64 x, .float .f64 y] w (ORet (twoF 4 x y) w) := by
  obtain ⟨z, q, e1, e2⟩ := run_arith .quo (by simp) 74 x y w
  have ho : twoF 4 x y = orN (floatBits .quo .f64 x y) := by unfold twoF; rw [if_neg (by decide), if_neg (by decide), if_neg (by decide), if_pos rfl]
  rw [ho]
  have F : FixY (orN (floatBits .quo .f64 x y)) z := e2
  generalize orN (floatBits .quo .f64 x y) = v at *
  clear ho hx hy hl hm e2
  go_enter Tryz.func144, Tryz.ntmps144
  go_wp2_with (first | (go_at_call 105; refine (fixy_at (by assumption) _).mono ?_; rintro e w1 ⟨rfl, rfl⟩))
  go_ret2
  exact ⟨q, rfl, rfl⟩
set_option maxRecDepth 100000 in
set_option maxHeartbeats 1000000 in
theorem rtwo_5 (x y : Nat) (hx : fx x = x) (hy : fx y = y) (hl : x < 18446744073709551616) (hm : y < 18446744073709551616) (w : World) : Calls Tryz.prog 144 #[.int .i64 5, .float .f64 x, .float .f64 y] w (ORet (twoF 5 x y) w) := by
  have MW := rmod_walk x y
  have ho : twoF 5 x y = fx (modF x y) := by unfold twoF; rw [if_neg (by decide), if_neg (by decide), if_neg (by decide), if_neg (by decide), if_pos rfl]
  rw [ho]
  generalize modF x y = z at *
  have F : FixY (fx z) z := rfl
  generalize fx z = v at *
  clear ho hx hy hl hm
  go_enter Tryz.func144, Tryz.ntmps144
  go_wp2_with (first | (go_at_call 183; refine (MW _).mono ?_; rintro e w1 ⟨rfl, rfl⟩) | (go_at_call 105; refine (fixy_at (by assumption) _).mono ?_; rintro e w1 ⟨rfl, rfl⟩))
  go_ret2
  exact ⟨0, rfl, rfl⟩
set_option maxRecDepth 100000 in
set_option maxHeartbeats 1000000 in
theorem rtwo_6 (x y : Nat) (hx : fx x = x) (hy : fx y = y) (hl : x < 18446744073709551616) (hm : y < 18446744073709551616) (w : World) : Calls Tryz.prog 144 #[.int .i64 6, .float .f64 x, .float .f64 y] w (ORet (twoF 6 x y) w) := by
  have MW := rfirst_walk x y 1 hl hm
  have e0 : twoF 6 x y = if bad x || bad y then theNaN else if 0 < cmpF x y then fx y else fx x := rfl
  have F : FixY (twoF 6 x y) (firstF x y 1) := by
    unfold FixY firstF
    rw [e0]
    split
    · exact fx_bad bad_nan
    · unfold cmpF
      (repeat' split) <;> first | rfl | omega
  generalize firstF x y 1 = z at *
  clear e0
  generalize twoF 6 x y = v at *
  clear hx hy hl hm
  go_enter Tryz.func144, Tryz.ntmps144
  go_wp2_with (first | (go_at_call 184; refine (MW _).mono ?_; rintro e w1 ⟨rfl, rfl⟩) | (go_at_call 105; refine (fixy_at (by assumption) _).mono ?_; rintro e w1 ⟨rfl, rfl⟩))
  go_ret2
  exact ⟨0, rfl, rfl⟩
set_option maxRecDepth 100000 in
set_option maxHeartbeats 1000000 in
theorem rtwo_7 (x y : Nat) (hx : fx x = x) (hy : fx y = y) (hl : x < 18446744073709551616) (hm : y < 18446744073709551616) (w : World) : Calls Tryz.prog 144 #[.int .i64 7, .float .f64 x, .float .f64 y] w (ORet (twoF 7 x y) w) := by
  have MW := rfirst_walk x y (-1) hl hm
  have e0 : twoF 7 x y = if bad x || bad y then theNaN else if cmpF x y < 0 then fx y else fx x := rfl
  have F : FixY (twoF 7 x y) (firstF x y (-1)) := by
    unfold FixY firstF
    rw [e0]
    split
    · exact fx_bad bad_nan
    · unfold cmpF
      (repeat' split) <;> first | rfl | omega
  generalize firstF x y (-1) = z at *
  clear e0
  generalize twoF 7 x y = v at *
  clear hx hy hl hm
  go_enter Tryz.func144, Tryz.ntmps144
  go_wp2_with (first | (go_at_call 184; refine (MW _).mono ?_; rintro e w1 ⟨rfl, rfl⟩) | (go_at_call 105; refine (fixy_at (by assumption) _).mono ?_; rintro e w1 ⟨rfl, rfl⟩))
  go_ret2
  exact ⟨0, rfl, rfl⟩
set_option maxRecDepth 100000 in
set_option maxHeartbeats 1000000 in
theorem rtwo_8 (x y : Nat) (hx : fx x = x) (hy : fx y = y) (hl : x < 18446744073709551616) (hm : y < 18446744073709551616) (w : World) : Calls Tryz.prog 144 #[.int .i64 8, .float .f64 x, .float .f64 y] w (ORet (twoF 8 x y) w) := by
  have ho : twoF 8 x y = yesF (FloatKind.f64.format.order x y == some Ordering.lt) := by unfold twoF; rw [if_neg (by decide), if_neg (by decide), if_neg (by decide), if_neg (by decide), if_neg (by decide), if_neg (by decide), if_neg (by decide), if_pos rfl]; rfl
  rw [ho]
  have F : FixY (yesF (FloatKind.f64.format.order x y == some Ordering.lt)) (yesF (FloatKind.f64.format.order x y == some Ordering.lt)) := fx_yes _
  have YW := ryes_walk (FloatKind.f64.format.order x y == some Ordering.lt)
  generalize yesF (FloatKind.f64.format.order x y == some Ordering.lt) = v at *
  clear ho hx hy hl hm
  go_enter Tryz.func144, Tryz.ntmps144
  go_wp2_with (first | (go_at_call 181; refine (YW _).mono ?_; rintro e w1 ⟨rfl, rfl⟩) | (go_at_call 105; refine (fixy_at (by assumption) _).mono ?_; rintro e w1 ⟨rfl, rfl⟩))
  go_ret2
  exact ⟨0, rfl, rfl⟩
set_option maxRecDepth 100000 in
set_option maxHeartbeats 1000000 in
theorem rtwo_9 (x y : Nat) (hx : fx x = x) (hy : fx y = y) (hl : x < 18446744073709551616) (hm : y < 18446744073709551616) (w : World) : Calls Tryz.prog 144 #[.int .i64 9, .float .f64 x, .float .f64 y] w (ORet (twoF 9 x y) w) := by
  have ho : twoF 9 x y = yesF (FloatKind.f64.format.order x y == some Ordering.lt || FloatKind.f64.format.order x y == some Ordering.eq) := by unfold twoF; rw [if_neg (by decide), if_neg (by decide), if_neg (by decide), if_neg (by decide), if_neg (by decide), if_neg (by decide), if_neg (by decide), if_neg (by decide), if_pos rfl]; rfl
  rw [ho]
  have F : FixY (yesF (FloatKind.f64.format.order x y == some Ordering.lt || FloatKind.f64.format.order x y == some Ordering.eq)) (yesF (FloatKind.f64.format.order x y == some Ordering.lt || FloatKind.f64.format.order x y == some Ordering.eq)) := fx_yes _
  have YW := ryes_walk (FloatKind.f64.format.order x y == some Ordering.lt || FloatKind.f64.format.order x y == some Ordering.eq)
  generalize yesF (FloatKind.f64.format.order x y == some Ordering.lt || FloatKind.f64.format.order x y == some Ordering.eq) = v at *
  clear ho hx hy hl hm
  go_enter Tryz.func144, Tryz.ntmps144
  go_wp2_with (first | (go_at_call 181; refine (YW _).mono ?_; rintro e w1 ⟨rfl, rfl⟩) | (go_at_call 105; refine (fixy_at (by assumption) _).mono ?_; rintro e w1 ⟨rfl, rfl⟩))
  go_ret2
  exact ⟨0, rfl, rfl⟩
set_option maxRecDepth 100000 in
set_option maxHeartbeats 1000000 in
theorem rtwo_10 (x y : Nat) (hx : fx x = x) (hy : fx y = y) (hl : x < 18446744073709551616) (hm : y < 18446744073709551616) (w : World) : Calls Tryz.prog 144 #[.int .i64 10, .float .f64 x, .float .f64 y] w (ORet (twoF 10 x y) w) := by
  have ho : twoF 10 x y = yesF (FloatKind.f64.format.order x y == some Ordering.eq) := by unfold twoF; rw [if_neg (by decide), if_neg (by decide), if_neg (by decide), if_neg (by decide), if_neg (by decide), if_neg (by decide), if_neg (by decide), if_neg (by decide), if_neg (by decide), if_pos rfl]; rfl
  rw [ho]
  have F : FixY (yesF (FloatKind.f64.format.order x y == some Ordering.eq)) (yesF (FloatKind.f64.format.order x y == some Ordering.eq)) := fx_yes _
  have YW := ryes_walk (FloatKind.f64.format.order x y == some Ordering.eq)
  generalize yesF (FloatKind.f64.format.order x y == some Ordering.eq) = v at *
  clear ho hx hy hl hm
  go_enter Tryz.func144, Tryz.ntmps144
  go_wp2_with (first | (go_at_call 181; refine (YW _).mono ?_; rintro e w1 ⟨rfl, rfl⟩) | (go_at_call 105; refine (fixy_at (by assumption) _).mono ?_; rintro e w1 ⟨rfl, rfl⟩))
  go_ret2
  exact ⟨0, rfl, rfl⟩
set_option maxRecDepth 100000 in
set_option maxHeartbeats 1000000 in
theorem rtwo_11 (x y : Nat) (hx : fx x = x) (hy : fx y = y) (hl : x < 18446744073709551616) (hm : y < 18446744073709551616) (w : World) : Calls Tryz.prog 144 #[.int .i64 11, .float .f64 x, .float .f64 y] w (ORet (twoF 11 x y) w) := by
  have SW := rsame_walk1 x y
  have ho : twoF 11 x y = yesF (fx x == fx y) := by unfold twoF; rw [if_neg (by decide), if_neg (by decide), if_neg (by decide), if_neg (by decide), if_neg (by decide), if_neg (by decide), if_neg (by decide), if_neg (by decide), if_neg (by decide), if_neg (by decide), if_pos rfl]
  rw [ho]
  generalize (fx x == fx y) = b at *
  have F : FixY (yesF b) (yesF b) := fx_yes _
  have YW := ryes_walk b
  generalize yesF b = v at *
  clear ho hx hy hl hm
  go_enter Tryz.func144, Tryz.ntmps144
  go_wp2_with (first | (go_at_call 185; refine (SW _).mono ?_; rintro e w1 ⟨rfl, rfl⟩) | (go_at_call 181; refine (YW _).mono ?_; rintro e w1 ⟨rfl, rfl⟩) | (go_at_call 105; refine (fixy_at (by assumption) _).mono ?_; rintro e w1 ⟨rfl, rfl⟩))
  go_ret2
  exact ⟨0, rfl, rfl⟩
set_option maxRecDepth 100000 in
set_option maxHeartbeats 1000000 in
theorem rtwo_12 (x y : Nat) (hx : fx x = x) (hy : fx y = y) (hl : x < 18446744073709551616) (hm : y < 18446744073709551616) (w : World) : Calls Tryz.prog 144 #[.int .i64 12, .float .f64 x, .float .f64 y] w (ORet (twoF 12 x y) w) := by
  have CW := rcompare_walk x y hl hm
  have ho : twoF 12 x y = yesF (decide (cmpF x y < 0)) := by unfold twoF; rw [if_neg (by decide), if_neg (by decide), if_neg (by decide), if_neg (by decide), if_neg (by decide), if_neg (by decide), if_neg (by decide), if_neg (by decide), if_neg (by decide), if_neg (by decide), if_neg (by decide)]
  rw [ho]
  generalize cmpF x y = c at *
  have F : FixY (yesF (decide (c < 0))) (yesF (decide (c < 0))) := fx_yes _
  have YW := ryes_walk (decide (c < 0))
  generalize yesF (decide (c < 0)) = v at *
  clear ho hx hy hl hm
  go_enter Tryz.func144, Tryz.ntmps144
  go_wp2_with (first | (go_at_call 186; refine (CW _).mono ?_; rintro e w1 ⟨rfl, rfl⟩) | (go_at_call 181; refine (YW _).mono ?_; rintro e w1 ⟨rfl, rfl⟩) | (go_at_call 105; refine (fixy_at (by assumption) _).mono ?_; rintro e w1 ⟨rfl, rfl⟩))
  go_ret2
  exact ⟨0, rfl, rfl⟩
theorem rtwo_walk (op : Int) (h1 : 1 ≤ op) (h12 : op ≤ 12) (x y : Nat) (hx : fx x = x) (hy : fx y = y) (hl : x < 18446744073709551616) (hm : y < 18446744073709551616) (w : World) : Calls Tryz.prog 144 #[.int .i64 op, .float .f64 x, .float .f64 y] w (ORet (twoF op x y) w) := by
  rcases (by omega : op = 1 ∨ op = 2 ∨ op = 3 ∨ op = 4 ∨ op = 5 ∨ op = 6 ∨ op = 7 ∨ op = 8 ∨ op = 9 ∨ op = 10 ∨ op = 11 ∨ op = 12) with rfl | rfl | rfl | rfl | rfl | rfl | rfl | rfl | rfl | rfl | rfl | rfl
  · exact rtwo_1 x y hx hy hl hm w
  · exact rtwo_2 x y hx hy hl hm w
  · exact rtwo_3 x y hx hy hl hm w
  · exact rtwo_4 x y hx hy hl hm w
  · exact rtwo_5 x y hx hy hl hm w
  · exact rtwo_6 x y hx hy hl hm w
  · exact rtwo_7 x y hx hy hl hm w
  · exact rtwo_8 x y hx hy hl hm w
  · exact rtwo_9 x y hx hy hl hm w
  · exact rtwo_10 x y hx hy hl hm w
  · exact rtwo_11 x y hx hy hl hm w
  · exact rtwo_12 x y hx hy hl hm w
end Go.Proofs.YtphaeodcomgffaaGreat
