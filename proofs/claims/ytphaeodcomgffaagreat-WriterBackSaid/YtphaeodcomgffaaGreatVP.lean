import Derived.Test.YtphaeodcomgffaaGreatFA
set_option linter.unusedVariables false
set_option linter.unusedSimpArgs false
namespace Go.Proofs.YtphaeodcomgffaaGreat
open Go.ChangeShapes Go.WideShapes Go.ChangeAt Go.RowKit Go.Deep

/-! A ride of the writer's laws that came in: as the reader's, and how many steps. -/
/-- The value of a ride, where its slices are. -/
def Ride.v5 (x : Ride) (vc va vw vp : Value) (n : Int) : Value := .agg #[.int .i64 x.C.cells, .int .i64 x.C.threads, .int .i64 x.C.fuel, .int .i64 x.C.writes, .int .i64 x.th, .int .i64 x.tag, vc, va, vw, vp, .int .i64 n]
set_option maxRecDepth 100000 in
theorem poke_cells5 {H : Type} {enc : TypeId × Value → H} {W : World} {n : Nat} {cs : List Value} {y : DataW H × List MemPlace} (hl : cs.length = 2)
    (h : DataW.trod enc Tryz.prog W 0 (fun _ => true) true n 299 cs = some y) : ∃ p : Int × Nat, cs = cP p ∧ -9223372036854775808 ≤ p.1 ∧ p.1 ≤ 9223372036854775807 ∧ p.2 < 18446744073709551616 := by
  obtain ⟨xs, m, _, _, _, hlen, hfs⟩ := DataW.trod_struct Tryz.underlying299 h
  match cs, hl, xs, hlen with
  | [v0, v1], _, [x0, x1], _ =>
    have g0 : DataW.trod enc Tryz.prog W 0 (fun _ => true) true m 3 ((List.drop 0 [v0, v1]).take (Tryz.prog.cellsOf 3)) = [x0, x1][0]? := hfs 0 _ rfl
    have g1 : DataW.trod enc Tryz.prog W 0 (fun _ => true) true m 40 ((List.drop 1 [v0, v1]).take (Tryz.prog.cellsOf 40)) = [x0, x1][1]? := hfs 1 _ rfl
    have c3 : Tryz.prog.cellsOf 3 = 1 := by kernel_rfl
    have c39 : Tryz.prog.cellsOf 40 = 1 := by kernel_rfl
    simp only [c3] at g0
    simp only [c39] at g1
    simp at g0 g1
    obtain ⟨p, e0, _, w0⟩ := DataW.trod_int Tryz.underlying3 g0
    obtain ⟨q, e1, _, w1⟩ := DataW.trod_int Tryz.underlying40 g1
    simp at e0 e1
    obtain ⟨k, rfl, hk⟩ := u64_bounds w1
    have hb := i64_bounds w0
    subst e0 e1
    exact ⟨(p, k), rfl, hb.1, hb.2, hk⟩
set_option maxRecDepth 100000 in
theorem open_ride5 {H : Type} {enc : TypeId × Value → H} {W : World} {base : Nat} {v : Value} {d : DataW H} {p : List MemPlace} {ts : List TypeId} {ds : List (DataW H)} {j : Nat}
    (hv : Value.okWide Tryz.prog W .any base 85 v) (h : DataW.Trod enc Tryz.prog W 0 (fun _ => true) true 85 v d p)
    (hsz : (DataW.weightsEach Tryz.prog ts ds).all (· ≤ reachBytes) = true) (ht : ts[j]? = some 85) (hd : ds[j]? = some d) : ∃ x vc va vw vp n, v = x.v5 vc va vw vp n ∧ RideIn W x vc va vw vp ∧ inI n := by
  obtain ⟨cs, rfl, hs⟩ := okWide_struct Tryz.underlying85 hv
  obtain ⟨fuel, hf⟩ := h
  obtain ⟨xs, n, _, hdp, hl, hlen, hfs⟩ := DataW.trod_struct Tryz.underlying85 hf
  simp only [Prod.mk.injEq] at hdp
  obtain ⟨rfl, rfl⟩ := hdp
  have c3 : Tryz.prog.cellsOf 3 = 1 := by kernel_rfl
  have cC : Tryz.prog.cellsOf 23 = 4 := by kernel_rfl
  have cP : Tryz.prog.cellsOf 26 = 2 := by kernel_rfl
  have cA : Tryz.prog.cellsOf 27 = 1 := by kernel_rfl
  have cW : Tryz.prog.cellsOf 28 = 1 := by kernel_rfl
  have cK : Tryz.prog.cellsOf 83 = 1 := by kernel_rfl
  have cR : Tryz.prog.cellsOf 85 = 11 := by kernel_rfl
  obtain ⟨cs⟩ := cs
  rw [cR] at hs
  match cs, hs, xs, hlen with
  | [a0, a1, a2, a3, a4, a5, a6, a7, a8, a9, a10], _, [x0, x1, x2, x3, x4, x5, x6], _ =>
    have g0 : DataW.trod enc Tryz.prog W 0 (fun _ => true) true n 23 ((List.drop 0 [a0, a1, a2, a3, a4, a5, a6, a7, a8, a9, a10]).take (Tryz.prog.cellsOf 23)) = [x0, x1, x2, x3, x4, x5, x6][0]? := hfs 0 _ rfl
    have g1 : DataW.trod enc Tryz.prog W 0 (fun _ => true) true n 3 ((List.drop 4 [a0, a1, a2, a3, a4, a5, a6, a7, a8, a9, a10]).take (Tryz.prog.cellsOf 3)) = [x0, x1, x2, x3, x4, x5, x6][1]? := hfs 1 _ rfl
    have g2 : DataW.trod enc Tryz.prog W 0 (fun _ => true) true n 26 ((List.drop 5 [a0, a1, a2, a3, a4, a5, a6, a7, a8, a9, a10]).take (Tryz.prog.cellsOf 26)) = [x0, x1, x2, x3, x4, x5, x6][2]? := hfs 2 _ rfl
    have g3 : DataW.trod enc Tryz.prog W 0 (fun _ => true) true n 27 ((List.drop 7 [a0, a1, a2, a3, a4, a5, a6, a7, a8, a9, a10]).take (Tryz.prog.cellsOf 27)) = [x0, x1, x2, x3, x4, x5, x6][3]? := hfs 3 _ rfl
    have g4 : DataW.trod enc Tryz.prog W 0 (fun _ => true) true n 28 ((List.drop 8 [a0, a1, a2, a3, a4, a5, a6, a7, a8, a9, a10]).take (Tryz.prog.cellsOf 28)) = [x0, x1, x2, x3, x4, x5, x6][4]? := hfs 4 _ rfl
    have g5 : DataW.trod enc Tryz.prog W 0 (fun _ => true) true n 83 ((List.drop 9 [a0, a1, a2, a3, a4, a5, a6, a7, a8, a9, a10]).take (Tryz.prog.cellsOf 83)) = [x0, x1, x2, x3, x4, x5, x6][5]? := hfs 5 _ rfl
    have g6 : DataW.trod enc Tryz.prog W 0 (fun _ => true) true n 3 ((List.drop 10 [a0, a1, a2, a3, a4, a5, a6, a7, a8, a9, a10]).take (Tryz.prog.cellsOf 3)) = [x0, x1, x2, x3, x4, x5, x6][6]? := hfs 6 _ rfl
    simp only [c3, cC, cP, cA, cW, cK] at g0 g1 g2 g3 g4 g5 g6
    simp [Value.cells] at g0 g1 g2 g3 g4 g5 g6
    obtain ⟨C, rfl, rfl, rfl, rfl, b0, b1, b2, b3⟩ := cfg_cells g0
    obtain ⟨th, e1, _, w1⟩ := DataW.trod_int Tryz.underlying3 g1
    obtain ⟨tag, code, rfl, bt, hcode, hcx, z0, z1, hz, hzl⟩ := prog_cells g2
    obtain ⟨args, hargs, hax, hal⟩ := list_cells (f := cF) (p := fun x => x < 18446744073709551616) Tryz.underlying27 (size := 1) (by kernel_rfl) (by decide) g3 float_cells
    obtain ⟨words, hwords, hwx, hwl⟩ := list_cells (f := cU) (p := fun x => x < 18446744073709551616) Tryz.underlying28 (size := 1) (by kernel_rfl) (by decide) g4 word_cells
    obtain ⟨pokes, hpokes, hpx, hpl⟩ := list_cells (f := Go.Proofs.YtphaeodcomgffaaGreat.cP) (p := fun p => inI p.1 ∧ p.2 < 18446744073709551616) Tryz.underlying83 (size := 2) (by kernel_rfl) (by decide) g5 (fun n cs y hl hy => by obtain ⟨p, e, p1, p2, p3⟩ := poke_cells5 hl hy; exact ⟨p, e, ⟨p1, p2⟩, p3⟩)
    obtain ⟨ns, e6, _, w6⟩ := DataW.trod_int Tryz.underlying3 g6
    simp at e1 e6
    subst e1
    subst e6
    have bI : Tryz.prog.bytesOf 117 = 24 := by kernel_rfl
    have bF : Tryz.prog.bytesOf 74 = 8 := by kernel_rfl
    have bU : Tryz.prog.bytesOf 40 = 8 := by kernel_rfl
    have bP : Tryz.prog.bytesOf 299 = 16 := by kernel_rfl
    have R := fun m hm => of_decide_eq_true (List.all_eq_true.1 hsz m (DataW.weights_mem_each ht hd m hm))
    have rlt : reachBytes ≤ 140737488351232 := by decide
    refine ⟨⟨C, th, tag, code, args, words, pokes⟩, a6, a7, a8, a9, ns, rfl, ⟨b0, b1, b2, b3, i64_bounds w1, bt, hcode, hcx, ?_, hargs, hax, ?_, hwords, hwx, ?_, hpokes, hpx, ?_⟩, i64_bounds w6⟩
    · rcases hzl with ⟨_, h0⟩ | ⟨el, sp, h1, h2⟩
      · simp [h0]
      · have := R ((el.length + sp.length) * 24) (by simp [DataW.weights, DataW.weightsEach, Tryz.underlying85, Tryz.underlying26, Tryz.underlying24, hz, h1, bI])
        show code.length * 24 ≤ _
        omega
    · rcases hal with ⟨_, h0⟩ | ⟨el, sp, h1, h2⟩
      · simp [h0]
      · have := R ((el.length + sp.length) * 8) (by simp [DataW.weights, DataW.weightsEach, Tryz.underlying85, Tryz.underlying27, h1, bF])
        show args.length * 8 ≤ _
        omega
    · rcases hwl with ⟨_, h0⟩ | ⟨el, sp, h1, h2⟩
      · simp [h0]
      · have := R ((el.length + sp.length) * 8) (by simp [DataW.weights, DataW.weightsEach, Tryz.underlying85, Tryz.underlying28, h1, bU])
        show words.length * 8 ≤ _
        omega
    · rcases hpl with ⟨_, h0⟩ | ⟨el, sp, h1, h2⟩
      · simp [h0]
      · have := R ((el.length + sp.length) * 16) (by simp [DataW.weights, DataW.weightsEach, Tryz.underlying85, Tryz.underlying83, h1, bP])
        show pokes.length * 16 ≤ _
        omega
end Go.Proofs.YtphaeodcomgffaaGreat
