import Derived.Test.YtphaeodcomgffaaGreatK11
import Derived.Test.YtphaeodcomgffaaGreatB2
import Derived.Test.YtphaeodcomgffaaGreatM1
import Derived.ProofKit
import Derived.OpenShut
import Derived.SizedLaws
import Derived.ChangeMaps5
import Derived.Deep.Slices
import Derived.Deep.Fields
import Derived.Laws.Cover2
set_option linter.unusedVariables false
set_option linter.unusedSimpArgs false
namespace Go.Proofs.YtphaeodcomgffaaGreat
open Go.ChangeShapes Go.WideShapes Go.ChangeAt Go.RowKit Go.Deep

theorem laidOut : laidOutB Tryz.prog = true := by kernel_rfl
theorem trod_float {H : Type} {enc : TypeId × Value → H} {P : Program} {w : World} {base : Nat} {spare : Nat → Bool} {held : Bool} {t : TypeId} {fuel : Nat} {cs : List Value} {x : DataW H × List MemPlace} {k : FloatKind} (ht : P.underlying t = some (.float k)) (h : DataW.trod enc P w base spare held fuel t cs = some x) :
    ∃ b, cs = [.float k b] ∧ x = (.lit (.float k b), []) ∧ (Lit.float k b).wf = true := by
  cases fuel with
  | zero => simp [DataW.trod] at h
  | succ n =>
    unfold DataW.trod at h
    rw [ht] at h
    split at h <;> simp_all

/-- A slice that came in, read element by element. -/
theorem rd_open {H : Type} {enc : TypeId × Value → H} {P : Program} {W : World} {t e size : Nat} {cs : List Value} {x : DataW H × List MemPlace} {fuel : Nat} {G : List Value → Prop}
    (hu : P.underlying t = some (.slice e)) (hc : P.cellsOf e = size) (hpos : 0 < size) (h : DataW.trod enc P W 0 (fun _ => true) true fuel t cs = some x)
    (hG : ∀ n cs y, cs.length = size → DataW.trod enc P W 0 (fun _ => true) true n e cs = some y → G cs) :
    ∃ v rows, cs = [v] ∧ Rd W size v rows ∧ (∀ r ∈ rows, G r ∧ r.length = size) ∧ rows.length ≤ 9223372036854775807 ∧ ((x.1 = .nil ∧ rows = []) ∨ ∃ el sp, x.1 = .slice el sp ∧ el.length = rows.length) := by
  rcases open_slice hu h with ⟨rfl, rfl⟩ | ⟨a, len, cap, m, n, D, Pl, rfl, _, hl, hm, hmm, rfl, hx⟩
  · exact ⟨_, [], rfl, .inl ⟨rfl, .inl rfl⟩, by simp, by simp, .inl ⟨rfl, rfl⟩⟩
  · simp only [if_true] at hmm
    subst hmm
    rw [hc] at hx
    obtain ⟨R, hR⟩ := choose_lt (α := List Value) (p := fun i r => W.cells? 0 (a.add (i * size)) size = some r ∧ DataW.trod enc P W 0 (fun _ => true) true n e r = some (D i, Pl i)) hx
    have hlen : ((List.range len).map R).length = len := by simp
    refine ⟨_, (List.range len).map R, rfl, ?_, ?_, by rw [hlen]; unfold maxLen at hm; omega, .inr ⟨_, _, rfl, by simp⟩⟩
    · rcases Nat.eq_zero_or_pos len with h0 | h0
      · subst h0; exact .inl ⟨rfl, .inr ⟨a, m, rfl⟩⟩
      · obtain ⟨b, off, spot⟩ := a
        have h00 := World.cells?_some (hR 0 (by omega)).1
        have hcell0 := h00.2.2 0 hpos
        have hsome : ∃ u, W.cell? ((⟨b, off, spot⟩ : Addr).add (0 * size) |>.add 0) = some u := ⟨_, by rw [hcell0, List.getElem?_eq_getElem (by rw [h00.2.1]; exact hpos)]⟩
        obtain ⟨u, hu0⟩ := hsome
        have hspot : spot = none := by simpa [Addr.add] using World.cell?_spot hu0
        subst hspot
        refine .inr ⟨b, off, m, by rw [hlen], by omega, ?_, fun i j hi hj => ?_⟩
        · have := block_lt_of_cell hu0; simpa [Addr.add] using this
        · have hi' : i < len := by omega
          have h1 := World.cells?_some (hR i (by omega)).1
          have h2 := h1.2.2 j hj
          rw [Addr.add_lit, Addr.add_lit] at h2
          rw [h2]
          simp [List.getD, hi']
    · intro r hr
      obtain ⟨i, hi, rfl⟩ := List.mem_map.1 hr
      have hi' : i < m := by have := List.mem_range.1 hi; omega
      have h1 := World.cells?_some (hR i hi').1
      exact ⟨hG n _ _ h1.2.1 (hR i hi').2, h1.2.1⟩
/-- Rows that are each of a kind are the rows of a list. -/
theorem rows_of {α : Type} (f : α → List Value) (p : α → Prop) : ∀ rows : List (List Value), (∀ r ∈ rows, ∃ x, r = f x ∧ p x) → ∃ l : List α, rows = l.map f ∧ ∀ x ∈ l, p x
  | [], _ => ⟨[], rfl, by simp⟩
  | r :: rows, h => by
    obtain ⟨l, rfl, hl⟩ := rows_of f p rows fun x hx => h x (by simp [hx])
    obtain ⟨x, rfl, h1⟩ := h r (by simp)
    exact ⟨x :: l, rfl, fun y hy => by
      rcases List.mem_cons.1 hy with rfl | hy
      · exact h1
      · exact hl y hy⟩
theorem i64_bounds {n : Int} (h : (Lit.int .i64 n).wf = true) : -9223372036854775808 ≤ n ∧ n ≤ 9223372036854775807 := by
  simp only [Lit.wf, Bool.and_eq_true, decide_eq_true_eq] at h
  have h1 : IntKind.min .i64 = -9223372036854775808 := rfl
  have h2 : IntKind.max .i64 = 9223372036854775807 := rfl
  omega
theorem u64_bounds {k : Int} (h : (Lit.int .u64 k).wf = true) : ∃ a : Nat, k = (a : Int) ∧ a < 18446744073709551616 := by
  simp only [Lit.wf, Bool.and_eq_true, decide_eq_true_eq] at h
  have h1 : IntKind.min .u64 = 0 := rfl
  have h2 : IntKind.max .u64 = 18446744073709551615 := rfl
  exact ⟨k.toNat, by omega, by omega⟩
theorem f64_bounds {x : Nat} (h : (Lit.float .f64 x).wf = true) : x < 18446744073709551616 := by simpa [Lit.wf] using h

set_option maxRecDepth 100000 in
theorem ins_cells {H : Type} {enc : TypeId × Value → H} {W : World} {n : Nat} {cs : List Value} {y : DataW H × List MemPlace} (hl : cs.length = 3)
    (h : DataW.trod enc Tryz.prog W 0 (fun _ => true) true n 117 cs = some y) : ∃ p : Ins, cs = p.row ∧ p.x < 18446744073709551616 := by
  obtain ⟨xs, m, _, _, _, hlen, hfs⟩ := DataW.trod_struct Tryz.underlying117 h
  match cs, hl, xs, hlen with
  | [v0, v1, v2], _, [x0, x1, x2], _ =>
    have g0 : DataW.trod enc Tryz.prog W 0 (fun _ => true) true m 3 ((List.drop 0 [v0, v1, v2]).take (Tryz.prog.cellsOf 3)) = [x0, x1, x2][0]? := hfs 0 _ rfl
    have g1 : DataW.trod enc Tryz.prog W 0 (fun _ => true) true m 3 ((List.drop 1 [v0, v1, v2]).take (Tryz.prog.cellsOf 3)) = [x0, x1, x2][1]? := hfs 1 _ rfl
    have g2 : DataW.trod enc Tryz.prog W 0 (fun _ => true) true m 74 ((List.drop 2 [v0, v1, v2]).take (Tryz.prog.cellsOf 74)) = [x0, x1, x2][2]? := hfs 2 _ rfl
    have c3 : Tryz.prog.cellsOf 3 = 1 := by kernel_rfl
    have c39 : Tryz.prog.cellsOf 74 = 1 := by kernel_rfl
    simp only [c3] at g0 g1
    simp only [c39] at g2
    simp at g0 g1 g2
    obtain ⟨p, e0, _, w0⟩ := DataW.trod_int Tryz.underlying3 g0
    obtain ⟨q, e1, _, w1⟩ := DataW.trod_int Tryz.underlying3 g1
    obtain ⟨x, e2, _, w2⟩ := trod_float Tryz.underlying74 g2
    simp at e0 e1 e2
    subst e0 e1 e2
    exact ⟨⟨p, q, x⟩, rfl, f64_bounds w2⟩
def cP (p : Int × Nat) : List Value := [.int .i64 p.1, .int .u64 p.2]
set_option maxRecDepth 100000 in
theorem poke_cells {H : Type} {enc : TypeId × Value → H} {W : World} {n : Nat} {cs : List Value} {y : DataW H × List MemPlace} (hl : cs.length = 2)
    (h : DataW.trod enc Tryz.prog W 0 (fun _ => true) true n 133 cs = some y) : ∃ p : Int × Nat, cs = cP p ∧ -9223372036854775808 ≤ p.1 ∧ p.1 ≤ 9223372036854775807 ∧ p.2 < 18446744073709551616 := by
  obtain ⟨xs, m, _, _, _, hlen, hfs⟩ := DataW.trod_struct Tryz.underlying133 h
  match cs, hl, xs, hlen with
  | [v0, v1], _, [x0, x1], _ =>
    have g0 : DataW.trod enc Tryz.prog W 0 (fun _ => true) true m 3 ((List.drop 0 [v0, v1]).take (Tryz.prog.cellsOf 3)) = [x0, x1][0]? := hfs 0 _ rfl
    have g1 : DataW.trod enc Tryz.prog W 0 (fun _ => true) true m 40 ((List.drop 1 [v0, v1]).take (Tryz.prog.cellsOf 40)) = [x0, x1][1]? := hfs 1 _ rfl
    have c3 : Tryz.prog.cellsOf 3 = 1 := by kernel_rfl
    have c39 : Tryz.prog.cellsOf 40 = 1 := by kernel_rfl
    simp only [c3] at g0
    simp only [c39] at g1
    simp at g0 g1
    obtain ⟨p, e0, _, w0⟩ := DataW.trod_int Tryz.underlying3 g0
    obtain ⟨q, e1, _, w1⟩ := DataW.trod_int Tryz.underlying40 g1
    simp at e0 e1
    obtain ⟨k, rfl, hk⟩ := u64_bounds w1
    have hb := i64_bounds w0
    subst e0 e1
    exact ⟨(p, k), rfl, hb.1, hb.2, hk⟩

def inI (n : Int) : Prop := -9223372036854775808 ≤ n ∧ n ≤ 9223372036854775807
set_option maxRecDepth 100000 in
theorem cfg_cells {H : Type} {enc : TypeId × Value → H} {W : World} {n : Nat} {a0 a1 a2 a3 : Value} {y : DataW H × List MemPlace}
    (h : DataW.trod enc Tryz.prog W 0 (fun _ => true) true n 23 [a0, a1, a2, a3] = some y) : ∃ C : Cfg, a0 = .int .i64 C.cells ∧ a1 = .int .i64 C.threads ∧ a2 = .int .i64 C.fuel ∧ a3 = .int .i64 C.writes ∧ inI C.cells ∧ inI C.threads ∧ inI C.fuel ∧ inI C.writes := by
  obtain ⟨xs, m, _, _, _, hlen, hfs⟩ := DataW.trod_struct Tryz.underlying23 h
  have c3 : Tryz.prog.cellsOf 3 = 1 := by kernel_rfl
  match xs, hlen with
  | [x0, x1, x2, x3], _ =>
    have g0 : DataW.trod enc Tryz.prog W 0 (fun _ => true) true m 3 ((List.drop 0 [a0, a1, a2, a3]).take (Tryz.prog.cellsOf 3)) = [x0, x1, x2, x3][0]? := hfs 0 _ rfl
    have g1 : DataW.trod enc Tryz.prog W 0 (fun _ => true) true m 3 ((List.drop 1 [a0, a1, a2, a3]).take (Tryz.prog.cellsOf 3)) = [x0, x1, x2, x3][1]? := hfs 1 _ rfl
    have g2 : DataW.trod enc Tryz.prog W 0 (fun _ => true) true m 3 ((List.drop 2 [a0, a1, a2, a3]).take (Tryz.prog.cellsOf 3)) = [x0, x1, x2, x3][2]? := hfs 2 _ rfl
    have g3 : DataW.trod enc Tryz.prog W 0 (fun _ => true) true m 3 ((List.drop 3 [a0, a1, a2, a3]).take (Tryz.prog.cellsOf 3)) = [x0, x1, x2, x3][3]? := hfs 3 _ rfl
    simp only [c3] at g0 g1 g2 g3
    simp at g0 g1 g2 g3
    obtain ⟨p0, e0, _, w0⟩ := DataW.trod_int Tryz.underlying3 g0
    obtain ⟨p1, e1, _, w1⟩ := DataW.trod_int Tryz.underlying3 g1
    obtain ⟨p2, e2, _, w2⟩ := DataW.trod_int Tryz.underlying3 g2
    obtain ⟨p3, e3, _, w3⟩ := DataW.trod_int Tryz.underlying3 g3
    simp at e0 e1 e2 e3
    exact ⟨⟨p0, p1, p2, p3⟩, e0, e1, e2, e3, i64_bounds w0, i64_bounds w1, i64_bounds w2, i64_bounds w3⟩
theorem prog_cells {H : Type} {enc : TypeId × Value → H} {W : World} {n : Nat} {a0 a1 : Value} {y : DataW H × List MemPlace}
    (h : DataW.trod enc Tryz.prog W 0 (fun _ => true) true n 26 [a0, a1] = some y) : ∃ (tag : Int) (l : List Ins), a0 = .int .i64 tag ∧ inI tag ∧ RdC W a1 l ∧ (∀ p ∈ l, p.x < 18446744073709551616) ∧ ∃ z0 z1, y.1 = .agg [z0, z1] ∧ ((z1 = .nil ∧ l = []) ∨ ∃ el sp, z1 = .slice el sp ∧ el.length = l.length) := by
  obtain ⟨y0, y1, m, e, _, g0, g1⟩ := trod_struct2 Tryz.underlying26 h
  have c3 : Tryz.prog.cellsOf 3 = 1 := by kernel_rfl
  have c27 : Tryz.prog.cellsOf 24 = 1 := by kernel_rfl
  simp only [c3, c27] at g0 g1
  simp at g0 g1
  obtain ⟨tag, e0, _, w0⟩ := DataW.trod_int Tryz.underlying3 g0
  obtain ⟨u, rows, hcs, hrd, hG, hlen, hx⟩ := rd_open (G := fun r => ∃ p : Ins, r = p.row ∧ p.x < 18446744073709551616) Tryz.underlying24 (size := 3) (by kernel_rfl) (by decide) g1
    (fun n cs y hl hy => ins_cells hl hy)
  simp at e0 hcs
  subst e0 hcs
  obtain ⟨l, rfl, hlx⟩ := rows_of Ins.row (fun p => p.x < 18446744073709551616) rows fun r hr => (hG r hr).1
  refine ⟨tag, l, rfl, i64_bounds w0, hrd, hlx, y0.1, y1.1, by rw [e], ?_⟩
  rcases hx with ⟨h1, h2⟩ | ⟨el, sp, h1, h2⟩
  · exact .inl ⟨h1, by simpa using h2⟩
  · exact .inr ⟨el, sp, h1, by simpa using h2⟩
/-- A slice of such elements. -/
theorem list_cells {α : Type} {f : α → List Value} {p : α → Prop} {H : Type} {enc : TypeId × Value → H} {P : Program} {W : World} {t e size n : Nat} {a : Value} {y : DataW H × List MemPlace}
    (hu : P.underlying t = some (.slice e)) (hc : P.cellsOf e = size) (hpos : 0 < size) (h : DataW.trod enc P W 0 (fun _ => true) true n t [a] = some y)
    (hG : ∀ n cs y, cs.length = size → DataW.trod enc P W 0 (fun _ => true) true n e cs = some y → ∃ x, cs = f x ∧ p x) :
    ∃ l : List α, Rd W size a (l.map f) ∧ (∀ x ∈ l, p x) ∧ ((y.1 = .nil ∧ l = []) ∨ ∃ el sp, y.1 = .slice el sp ∧ el.length = l.length) := by
  obtain ⟨u, rows, hcs, hrd, hG', hlen, hx⟩ := rd_open (G := fun r => ∃ x, r = f x ∧ p x) hu hc hpos h hG
  simp at hcs
  subst hcs
  obtain ⟨l, rfl, hlx⟩ := rows_of f p rows fun r hr => (hG' r hr).1
  refine ⟨l, hrd, hlx, ?_⟩
  rcases hx with ⟨h1, h2⟩ | ⟨el, sp, h1, h2⟩
  · exact .inl ⟨h1, by simpa using h2⟩
  · exact .inr ⟨el, sp, h1, by simpa using h2⟩
theorem float_cells {H : Type} {enc : TypeId × Value → H} {W : World} (n : Nat) (cs : List Value) (y : DataW H × List MemPlace) (hl : cs.length = 1) (h : DataW.trod enc Tryz.prog W 0 (fun _ => true) true n 74 cs = some y) : ∃ x, cs = cF x ∧ x < 18446744073709551616 := by
  obtain ⟨x, e2, _, w2⟩ := trod_float Tryz.underlying74 h
  exact ⟨x, e2, f64_bounds w2⟩
theorem word_cells {H : Type} {enc : TypeId × Value → H} {W : World} (n : Nat) (cs : List Value) (y : DataW H × List MemPlace) (hl : cs.length = 1) (h : DataW.trod enc Tryz.prog W 0 (fun _ => true) true n 40 cs = some y) : ∃ x, cs = cU x ∧ x < 18446744073709551616 := by
  obtain ⟨q, e1, _, w1⟩ := DataW.trod_int Tryz.underlying40 h
  obtain ⟨k, rfl, hk⟩ := u64_bounds w1
  exact ⟨k, e1, hk⟩
theorem reach_len {m b : Nat} (h : m * b ≤ reachBytes) (hb : 0 < b) : m * b ≤ 140737488351232 := by
  simpa [reachBytes] using h
/-- A ride that came in. -/
structure Ride where
  C : Cfg
  th : Int
  tag : Int
  code : List Ins
  args : List Nat
  words : List Nat
  pokes : List (Int × Nat)
/-- The value of a ride, where its slices are. -/
def Ride.v (x : Ride) (vc va vw vp : Value) : Value := .agg #[.int .i64 x.C.cells, .int .i64 x.C.threads, .int .i64 x.C.fuel, .int .i64 x.C.writes, .int .i64 x.th, .int .i64 x.tag, vc, va, vw, vp]
structure RideIn (w : World) (x : Ride) (vc va vw vp : Value) : Prop where
  cells : inI x.C.cells
  threads : inI x.C.threads
  fuel : inI x.C.fuel
  writes : inI x.C.writes
  th : inI x.th
  tag : inI x.tag
  code : RdC w vc x.code
  codeX : ∀ p ∈ x.code, p.x < 18446744073709551616
  codeL : x.code.length * 24 ≤ 140737488351232
  args : Rd w 1 va (x.args.map cF)
  argsX : ∀ b ∈ x.args, b < 18446744073709551616
  argsL : x.args.length * 8 ≤ 140737488351232
  words : Rd w 1 vw (x.words.map cU)
  wordsX : ∀ b ∈ x.words, b < 18446744073709551616
  wordsL : x.words.length * 8 ≤ 140737488351232
  pokes : Rd w 2 vp (x.pokes.map cP)
  pokesX : ∀ p ∈ x.pokes, inI p.1 ∧ p.2 < 18446744073709551616
  pokesL : x.pokes.length * 16 ≤ 140737488351232
set_option maxRecDepth 100000 in
theorem open_ride {H : Type} {enc : TypeId × Value → H} {W : World} {base : Nat} {v : Value} {d : DataW H} {p : List MemPlace} {ts : List TypeId} {ds : List (DataW H)} {j : Nat}
    (hv : Value.okWide Tryz.prog W .any base 31 v) (h : DataW.Trod enc Tryz.prog W 0 (fun _ => true) true 31 v d p)
    (hsz : (DataW.weightsEach Tryz.prog ts ds).all (· ≤ reachBytes) = true) (ht : ts[j]? = some 31) (hd : ds[j]? = some d) : ∃ x vc va vw vp, v = x.v vc va vw vp ∧ RideIn W x vc va vw vp := by
  obtain ⟨cs, rfl, hs⟩ := okWide_struct Tryz.underlying31 hv
  obtain ⟨fuel, hf⟩ := h
  obtain ⟨xs, n, _, hdp, hl, hlen, hfs⟩ := DataW.trod_struct Tryz.underlying31 hf
  simp only [Prod.mk.injEq] at hdp
  obtain ⟨rfl, rfl⟩ := hdp
  have c3 : Tryz.prog.cellsOf 3 = 1 := by kernel_rfl
  have cC : Tryz.prog.cellsOf 23 = 4 := by kernel_rfl
  have cP : Tryz.prog.cellsOf 26 = 2 := by kernel_rfl
  have cA : Tryz.prog.cellsOf 27 = 1 := by kernel_rfl
  have cW : Tryz.prog.cellsOf 28 = 1 := by kernel_rfl
  have cK : Tryz.prog.cellsOf 29 = 1 := by kernel_rfl
  have cR : Tryz.prog.cellsOf 31 = 10 := by kernel_rfl
  obtain ⟨cs⟩ := cs
  rw [cR] at hs
  match cs, hs, xs, hlen with
  | [a0, a1, a2, a3, a4, a5, a6, a7, a8, a9], _, [x0, x1, x2, x3, x4, x5], _ =>
    have g0 : DataW.trod enc Tryz.prog W 0 (fun _ => true) true n 23 ((List.drop 0 [a0, a1, a2, a3, a4, a5, a6, a7, a8, a9]).take (Tryz.prog.cellsOf 23)) = [x0, x1, x2, x3, x4, x5][0]? := hfs 0 _ rfl
    have g1 : DataW.trod enc Tryz.prog W 0 (fun _ => true) true n 3 ((List.drop 4 [a0, a1, a2, a3, a4, a5, a6, a7, a8, a9]).take (Tryz.prog.cellsOf 3)) = [x0, x1, x2, x3, x4, x5][1]? := hfs 1 _ rfl
    have g2 : DataW.trod enc Tryz.prog W 0 (fun _ => true) true n 26 ((List.drop 5 [a0, a1, a2, a3, a4, a5, a6, a7, a8, a9]).take (Tryz.prog.cellsOf 26)) = [x0, x1, x2, x3, x4, x5][2]? := hfs 2 _ rfl
    have g3 : DataW.trod enc Tryz.prog W 0 (fun _ => true) true n 27 ((List.drop 7 [a0, a1, a2, a3, a4, a5, a6, a7, a8, a9]).take (Tryz.prog.cellsOf 27)) = [x0, x1, x2, x3, x4, x5][3]? := hfs 3 _ rfl
    have g4 : DataW.trod enc Tryz.prog W 0 (fun _ => true) true n 28 ((List.drop 8 [a0, a1, a2, a3, a4, a5, a6, a7, a8, a9]).take (Tryz.prog.cellsOf 28)) = [x0, x1, x2, x3, x4, x5][4]? := hfs 4 _ rfl
    have g5 : DataW.trod enc Tryz.prog W 0 (fun _ => true) true n 29 ((List.drop 9 [a0, a1, a2, a3, a4, a5, a6, a7, a8, a9]).take (Tryz.prog.cellsOf 29)) = [x0, x1, x2, x3, x4, x5][5]? := hfs 5 _ rfl
    simp only [c3, cC, cP, cA, cW, cK] at g0 g1 g2 g3 g4 g5
    simp [Value.cells] at g0 g1 g2 g3 g4 g5
    obtain ⟨C, rfl, rfl, rfl, rfl, b0, b1, b2, b3⟩ := cfg_cells g0
    obtain ⟨th, e1, _, w1⟩ := DataW.trod_int Tryz.underlying3 g1
    obtain ⟨tag, code, rfl, bt, hcode, hcx, z0, z1, hz, hzl⟩ := prog_cells g2
    obtain ⟨args, hargs, hax, hal⟩ := list_cells (f := cF) (p := fun x => x < 18446744073709551616) Tryz.underlying27 (size := 1) (by kernel_rfl) (by decide) g3 float_cells
    obtain ⟨words, hwords, hwx, hwl⟩ := list_cells (f := cU) (p := fun x => x < 18446744073709551616) Tryz.underlying28 (size := 1) (by kernel_rfl) (by decide) g4 word_cells
    obtain ⟨pokes, hpokes, hpx, hpl⟩ := list_cells (f := Go.Proofs.YtphaeodcomgffaaGreat.cP) (p := fun p => inI p.1 ∧ p.2 < 18446744073709551616) Tryz.underlying29 (size := 2) (by kernel_rfl) (by decide) g5 (fun n cs y hl hy => by obtain ⟨p, e, p1, p2, p3⟩ := poke_cells hl hy; exact ⟨p, e, ⟨p1, p2⟩, p3⟩)
    simp at e1
    subst e1
    have bI : Tryz.prog.bytesOf 117 = 24 := by kernel_rfl
    have bF : Tryz.prog.bytesOf 74 = 8 := by kernel_rfl
    have bU : Tryz.prog.bytesOf 40 = 8 := by kernel_rfl
    have bP : Tryz.prog.bytesOf 133 = 16 := by kernel_rfl
    have R := fun m hm => of_decide_eq_true (List.all_eq_true.1 hsz m (DataW.weights_mem_each ht hd m hm))
    have rlt : reachBytes ≤ 140737488351232 := by decide
    refine ⟨⟨C, th, tag, code, args, words, pokes⟩, a6, a7, a8, a9, rfl, ⟨b0, b1, b2, b3, i64_bounds w1, bt, hcode, hcx, ?_, hargs, hax, ?_, hwords, hwx, ?_, hpokes, hpx, ?_⟩⟩
    · rcases hzl with ⟨_, h0⟩ | ⟨el, sp, h1, h2⟩
      · simp [h0]
      · have := R ((el.length + sp.length) * 24) (by simp [DataW.weights, DataW.weightsEach, Tryz.underlying31, Tryz.underlying26, Tryz.underlying24, hz, h1, bI])
        show code.length * 24 ≤ _
        omega
    · rcases hal with ⟨_, h0⟩ | ⟨el, sp, h1, h2⟩
      · simp [h0]
      · have := R ((el.length + sp.length) * 8) (by simp [DataW.weights, DataW.weightsEach, Tryz.underlying31, Tryz.underlying27, h1, bF])
        show args.length * 8 ≤ _
        omega
    · rcases hwl with ⟨_, h0⟩ | ⟨el, sp, h1, h2⟩
      · simp [h0]
      · have := R ((el.length + sp.length) * 8) (by simp [DataW.weights, DataW.weightsEach, Tryz.underlying31, Tryz.underlying28, h1, bU])
        show words.length * 8 ≤ _
        omega
    · rcases hpl with ⟨_, h0⟩ | ⟨el, sp, h1, h2⟩
      · simp [h0]
      · have := R ((el.length + sp.length) * 16) (by simp [DataW.weights, DataW.weightsEach, Tryz.underlying31, Tryz.underlying29, h1, bP])
        show pokes.length * 16 ≤ _
        omega
end Go.Proofs.YtphaeodcomgffaaGreat
