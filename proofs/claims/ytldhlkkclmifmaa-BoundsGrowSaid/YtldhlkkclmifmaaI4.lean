import Derived.Test.YtldhlkkclmifmaaI3
set_option linter.unusedVariables false
set_option linter.unusedSimpArgs false
namespace Go.Proofs.Ytldhlkkclmifmaa
open Go.RowKit Go.WideShapes Go.ChangeShapes

/-- A config that came in. -/
def InCfg (v : Value) : Prop := ∃ c t f r : Int, v = .agg #[.int .i64 c, .int .i64 t, .int .i64 f, .int .i64 r] ∧ i64 c ∧ i64 t ∧ i64 f ∧ i64 r
theorem open_cfg_in {H : Type} {enc : TypeId × Value → H} {W : World} {base : Nat} {v : Value} {d : DataW H} {p : List MemPlace} {ts : List TypeId} {ds : List (DataW H)} {j : Nat}
    (hv : Value.okWide Try.prog W .any base 34 v) (h : DataW.Trod enc Try.prog W 0 (fun _ => true) true 34 v d p)
    (hsz : (DataW.weightsEach Try.prog ts ds).all (· ≤ reachBytes) = true) (ht : ts[j]? = some 34) (hd : ds[j]? = some d) : InCfg v := by
  obtain ⟨cs, rfl, hsize⟩ := okWide_struct Try.underlying34 hv
  obtain ⟨fuel, hf⟩ := h
  obtain ⟨xs, m, _, _, hcl, hlen, hff⟩ := DataW.trod_struct Try.underlying34 hf
  have hs : ∀ i, i < 4 → (xs[i]?).isSome = true := fun i hi => by
    have : i < xs.length := by rw [hlen]; exact hi
    simp [this]
  have h4 : cs.size = 4 := by rw [hsize]; kernel_rfl
  obtain ⟨l⟩ := cs
  match l, h4 with
  | [v0, v1, v2, v3], _ =>
    simp only [Value.cells] at hff
    obtain ⟨p0, rfl, w0⟩ := f_int (by kernel_rfl) (hs 0 (by omega)) (hff 0 _ rfl)
    obtain ⟨p1, rfl, w1⟩ := f_int (by kernel_rfl) (hs 1 (by omega)) (hff 1 _ rfl)
    obtain ⟨p2, rfl, w2⟩ := f_int (by kernel_rfl) (hs 2 (by omega)) (hff 2 _ rfl)
    obtain ⟨p3, rfl, w3⟩ := f_int (by kernel_rfl) (hs 3 (by omega)) (hff 3 _ rfl)
    exact ⟨p0, p1, p2, p3, rfl, w0, w1, w2, w3⟩

set_option maxRecDepth 100000 in
set_option maxHeartbeats 2000000 in
theorem are_all (w : World) (v : Value) (h : InCfg v) : Calls Try.prog 5 #[v] w fun e w' => e = .returned (.bool true) ∧ Below w.heap.size w w' := by
  obtain ⟨c, t, f, r, rfl, _⟩ := h
  go_enter Try.func5, Try.ntmps5
  go_wp2_with fail
  refine (blive_any _).mono ?_; rintro e w1 ⟨rfl, c1⟩
  have c1 := (Chg.of_below c1 : Chg [] _ w1)
  obtain ⟨e1, _⟩ := cfg_keep c1
  have C1 := Lib.hid (((Chg.refl [] w).alloc _).trans c1)
  have X1 := Lib.hid c1
  clear c1
  go_wp2_with fail
  refine (reader_any _ c t f r).mono ?_; rintro e w2 ⟨rfl, c2⟩
  obtain ⟨e2, _⟩ := cfg_keep (X1.out.trans c2)
  have C2 := Lib.hid (C1.out.trans c2)
  have X2 := Lib.hid (X1.out.trans c2)
  clear c2 e1 C1 X1
  go_wp2_with fail
  refine (rreader_any _ c t f r).mono ?_; rintro e w3 ⟨rfl, c3⟩
  obtain ⟨e3, _⟩ := cfg_keep (X2.out.trans c3)
  have C3 := Lib.hid (C2.out.trans c3)
  have X3 := Lib.hid (X2.out.trans c3)
  clear c3 e2 C2 X2
  go_wp2_with fail
  refine (writer_any _ c t f r).mono ?_; rintro e w4 ⟨rfl, c4⟩
  obtain ⟨e4, _⟩ := cfg_keep (X3.out.trans c4)
  have C4 := Lib.hid (C3.out.trans c4)
  clear c4 e3 C3 X3
  go_wp2_with fail
  refine (rwriter_any _ c t f r).mono ?_; rintro e w5 ⟨rfl, c5⟩
  have C5 := Lib.hid (C4.out.trans c5)
  clear c5 e4 C4
  have z1 : (readB c t f r == readB c t f r) = true := by simp
  have z2 : (errB c t f r == errB c t f r) = true := by simp
  have z3 : (writeB c t f r == writeB c t f r) = true := by simp
  generalize readB c t f r = A at *
  generalize errB c t f r = E at *
  generalize writeB c t f r = B at *
  go_wp2
  go_ret
  exact ⟨rfl, C5.out.below (Nat.le_refl _) (by simp)⟩

set_option maxRecDepth 100000 in
set_option maxHeartbeats 2000000 in
theorem blate_all (w : World) (v u : Value) (h : InCfg v) (hd : InDeeds w u) : Calls Try.prog 7 #[v, u] w fun e w' => e = .returned (.bool true) ∧ Below w.heap.size w w' := by
  obtain ⟨c, t, f, r, rfl, _⟩ := h
  obtain ⟨l, hl, hok, hlen⟩ := hd
  have RD := Lib.hid hl
  have OK := Lib.hid hok
  clear hl hok
  go_enter Try.func7, Try.ntmps7
  go_wp2_with fail
  refine (blive_any _).mono ?_; rintro e w1 ⟨rfl, c1⟩
  have c1 := (Chg.of_below c1 : Chg [] _ w1)
  obtain ⟨e1, _⟩ := cfg_keep c1
  have C1 := Lib.hid (((Chg.refl [] w).alloc _).trans c1)
  have X1 := Lib.hid c1
  clear c1
  go_wp2_with fail
  refine (late_any _ c t f r _ l (RD.out.keep0 C1.out) OK.out hlen).mono ?_; rintro e w2 ⟨rfl, c2⟩
  have c2 := (Chg.of_below c2 : Chg [] _ w2)
  obtain ⟨e2, _⟩ := cfg_keep (X1.out.trans c2)
  have C2 := Lib.hid (C1.out.trans c2)
  clear c2 e1 C1 X1
  go_wp2_with fail
  refine (rlate_any _ c t f r _ l (RD.out.keep0 C2.out) OK.out hlen).mono ?_; rintro e w3 ⟨rfl, c3⟩
  have C3 := Lib.hid (C2.out.trans c3)
  clear c3 e2 C2
  have z1 : (lateI c t f r l == lateI c t f r l) = true := by simp
  have z2 : (lateE c t f r l == lateE c t f r l) = true := by simp
  generalize lateI c t f r l = A at *
  generalize lateE c t f r l = E at *
  go_wp2
  go_ret
  exact ⟨rfl, C3.out.below (Nat.le_refl _) (by simp)⟩

end Go.Proofs.Ytldhlkkclmifmaa
