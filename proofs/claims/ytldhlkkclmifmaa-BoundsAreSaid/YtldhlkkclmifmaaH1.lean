import Derived.Test.YtldhlkkclmifmaaRd
set_option linter.unusedVariables false
set_option linter.unusedSimpArgs false
namespace Go.Proofs.Ytldhlkkclmifmaa
open Go.ChangeShapes Go.WideShapes Go.ChangeAt Go.RowKit Go.Deep

/-- a deed as its nineteen cells -/
structure Dd where
  i0 : Int
  i1 : Int
  i2 : Int
  tag : Int
  a0 : Option Addr
  n0 : Nat
  c0 : Nat
  mark : Int
  num : Int
  a1 : Option Addr
  n1 : Nat
  c1 : Nat
  a2 : Option Addr
  n2 : Nat
  c2 : Nat
  a3 : Option Addr
  n3 : Nat
  c3 : Nat
  e0 : Int
  e1 : Int
  e2 : Int
  beg : Int
  fin : Int
  steps : Int
  ahead : Int
  frm : Int
  to : Int
def Dd.row (d : Dd) : List Value := [.int .i64 d.i0, .int .i64 d.i1, .int .i64 d.i2, .int .i64 d.tag, .slice d.a0 d.n0 d.c0, .int .i64 d.mark, .int .i64 d.num, .slice d.a1 d.n1 d.c1, .slice d.a2 d.n2 d.c2, .slice d.a3 d.n3 d.c3, .int .i64 d.e0, .int .i64 d.e1, .int .i64 d.e2, .int .i64 d.beg, .int .i64 d.fin, .int .i64 d.steps, .int .i64 d.ahead, .int .i64 d.frm, .int .i64 d.to]
def i64 (n : Int) : Prop := -9223372036854775808 ≤ n ∧ n ≤ 9223372036854775807
def Dd.ok (d : Dd) : Prop := i64 d.steps ∧ i64 d.ahead ∧ i64 d.frm ∧ i64 d.to ∧ i64 d.mark ∧ i64 d.tag

theorem f_int {H : Type} {enc : TypeId × Value → H} {P : Program} {W : World} {t n : Nat} {v : Value} {y : Option (DataW H × List MemPlace)} (hu : P.underlying t = some (.int .i64)) (hy : y.isSome = true)
    (h : DataW.trod enc P W 0 (fun _ => true) true n t [v] = y) : ∃ p : Int, v = .int .i64 p ∧ i64 p := by
  obtain ⟨z, rfl⟩ := Option.isSome_iff_exists.1 hy
  obtain ⟨p, e, _, w⟩ := DataW.trod_int hu h
  simp at e
  exact ⟨p, e, int_bounds w⟩
theorem f_slice {H : Type} {enc : TypeId × Value → H} {P : Program} {W : World} {t e n : Nat} {v : Value} {y : Option (DataW H × List MemPlace)} (hu : P.underlying t = some (.slice e)) (hy : y.isSome = true)
    (h : DataW.trod enc P W 0 (fun _ => true) true n t [v] = y) : ∃ a k c, v = .slice a k c := by
  obtain ⟨z, rfl⟩ := Option.isSome_iff_exists.1 hy
  rcases DataW.trod_slice hu h with ⟨e, _⟩ | ⟨a, len, cap, _, _, _, _, e, _⟩
  · simp at e; exact ⟨_, _, _, e⟩
  · simp at e; exact ⟨_, _, _, e⟩


theorem end_open {H : Type} {enc : TypeId × Value → H} {W : World} {n : Nat} {cs : List Value} {y : DataW H × List MemPlace}
    (h : DataW.trod enc Try.prog W 0 (fun _ => true) true n 61 cs = some y) : ∃ a b c : Int, cs = [.int .i64 a, .int .i64 b, .int .i64 c] := by
  obtain ⟨xs, m, _, _, hcl, hlen, hf⟩ := DataW.trod_struct Try.underlying61 h
  have hs : ∀ i, i < 3 → (xs[i]?).isSome = true := fun i hi => by
    have : i < xs.length := by rw [hlen]; exact hi
    simp [this]
  have hl : cs.length = 3 := by rw [hcl]; kernel_rfl
  match cs, hl with
  | [v0, v1, v2], _ =>
    obtain ⟨p0, rfl, _⟩ := f_int (by kernel_rfl) (hs 0 (by omega)) (hf 0 _ rfl)
    obtain ⟨p1, rfl, _⟩ := f_int (by kernel_rfl) (hs 1 (by omega)) (hf 1 _ rfl)
    obtain ⟨p2, rfl, _⟩ := f_int (by kernel_rfl) (hs 2 (by omega)) (hf 2 _ rfl)
    exact ⟨p0, p1, p2, rfl⟩

set_option maxHeartbeats 1000000 in
theorem deed_open {H : Type} {enc : TypeId × Value → H} {W : World} {n : Nat} {cs : List Value} {y : DataW H × List MemPlace} (hl : cs.length = 19)
    (h : DataW.trod enc Try.prog W 0 (fun _ => true) true n 63 cs = some y) : ∃ d : Dd, cs = d.row ∧ d.ok := by
  obtain ⟨xs, m, _, _, _, hlen, hf⟩ := DataW.trod_struct Try.underlying63 h
  have hs : ∀ i, i < 17 → (xs[i]?).isSome = true := fun i hi => by
    have : i < xs.length := by rw [hlen]; exact hi
    simp [this]
  match cs, hl with
  | [v0, v1, v2, v3, v4, v5, v6, v7, v8, v9, v10, v11, v12, v13, v14, v15, v16, v17, v18], _ =>
    obtain ⟨p0, rfl, w0⟩ := f_int (by kernel_rfl) (hs 0 (by omega)) (hf 0 _ rfl)
    obtain ⟨p1, rfl, w1⟩ := f_int (by kernel_rfl) (hs 1 (by omega)) (hf 1 _ rfl)
    obtain ⟨p2, rfl, w2⟩ := f_int (by kernel_rfl) (hs 2 (by omega)) (hf 2 _ rfl)
    obtain ⟨p3, rfl, w3⟩ := f_int (by kernel_rfl) (hs 3 (by omega)) (hf 3 _ rfl)
    obtain ⟨a4, k4, c4, rfl⟩ := f_slice (e := 90) (by kernel_rfl) (hs 4 (by omega)) (hf 4 _ rfl)
    obtain ⟨p5, rfl, w5⟩ := f_int (by kernel_rfl) (hs 5 (by omega)) (hf 5 _ rfl)
    obtain ⟨p6, rfl, w6⟩ := f_int (by kernel_rfl) (hs 6 (by omega)) (hf 6 _ rfl)
    obtain ⟨a7, k7, c7, rfl⟩ := f_slice (e := 92) (by kernel_rfl) (hs 7 (by omega)) (hf 7 _ rfl)
    obtain ⟨a8, k8, c8, rfl⟩ := f_slice (e := 92) (by kernel_rfl) (hs 8 (by omega)) (hf 8 _ rfl)
    obtain ⟨a9, k9, c9, rfl⟩ := f_slice (e := 90) (by kernel_rfl) (hs 9 (by omega)) (hf 9 _ rfl)
    obtain ⟨z, hz⟩ := Option.isSome_iff_exists.1 (hs 10 (by omega))
    have he := hf 10 _ rfl
    rw [hz] at he
    obtain ⟨p10, p11, p12, he⟩ := end_open he
    simp at he
    obtain ⟨rfl, rfl, rfl⟩ := he
    obtain ⟨p13, rfl, w13⟩ := f_int (by kernel_rfl) (hs 11 (by omega)) (hf 11 _ rfl)
    obtain ⟨p14, rfl, w14⟩ := f_int (by kernel_rfl) (hs 12 (by omega)) (hf 12 _ rfl)
    obtain ⟨p15, rfl, w15⟩ := f_int (by kernel_rfl) (hs 13 (by omega)) (hf 13 _ rfl)
    obtain ⟨p16, rfl, w16⟩ := f_int (by kernel_rfl) (hs 14 (by omega)) (hf 14 _ rfl)
    obtain ⟨p17, rfl, w17⟩ := f_int (by kernel_rfl) (hs 15 (by omega)) (hf 15 _ rfl)
    obtain ⟨p18, rfl, w18⟩ := f_int (by kernel_rfl) (hs 16 (by omega)) (hf 16 _ rfl)
    exact ⟨⟨p0, p1, p2, p3, a4, k4, c4, p5, p6, a7, k7, c7, a8, k8, c8, a9, k9, c9, p10, p11, p12, p13, p14, p15, p16, p17, p18⟩, rfl, w15, w16, w17, w18, w5, w3⟩

def InDeeds (w : World) (v : Value) : Prop := ∃ l : List Dd, Rd w 19 v (l.map Dd.row) ∧ (∀ d ∈ l, d.ok) ∧ l.length ≤ 9223372036854775807

theorem rows_deeds : ∀ rows : List (List Value), (∀ r ∈ rows, ∃ d : Dd, r = d.row ∧ d.ok) → ∃ l : List Dd, rows = l.map Dd.row ∧ ∀ d ∈ l, d.ok
  | [], _ => ⟨[], rfl, by simp⟩
  | r :: rows, h => by
    obtain ⟨l, rfl, hl⟩ := rows_deeds rows fun x hx => h x (by simp [hx])
    obtain ⟨d, rfl, h1⟩ := h r (by simp)
    exact ⟨d :: l, rfl, fun x hx => by
      rcases List.mem_cons.1 hx with rfl | hx
      · exact h1
      · exact hl x hx⟩

theorem open_deeds_in {H : Type} {enc : TypeId × Value → H} {W : World} {base : Nat} {v : Value} {d : DataW H} {p : List MemPlace} {ts : List TypeId} {ds : List (DataW H)} {j : Nat}
    (hv : Value.okWide Try.prog W .any base 39 v) (h : DataW.Trod enc Try.prog W 0 (fun _ => true) true 39 v d p)
    (hsz : (DataW.weightsEach Try.prog ts ds).all (· ≤ reachBytes) = true) (ht : ts[j]? = some 39) (hd : ds[j]? = some d) : InDeeds W v := by
  obtain ⟨a0, len0, cap0, rfl⟩ := okWide_slice Try.underlying39 hv
  obtain ⟨fuel, hf⟩ := h
  obtain ⟨u, rows, hcs, hrd, hG, hlen, hx⟩ := rd_open (G := fun r => ∃ d : Dd, r = d.row ∧ d.ok) Try.underlying39 (size := 19) (by kernel_rfl) (by decide) hf
    (fun n cs y hl hy => deed_open hl hy)
  simp [Value.cells] at hcs
  subst hcs
  obtain ⟨l, rfl, hl⟩ := rows_deeds rows fun r hr => (hG r hr).1
  exact ⟨l, hrd, hl, by simpa using hlen⟩

end Go.Proofs.Ytldhlkkclmifmaa
