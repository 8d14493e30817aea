import Derived.Test.YtldhlkkclmifmaaH3
import Derived.RangeFuncNested
import Derived.RangeFuncBound
import Derived.RangeFuncCalls
import Derived.RangeFuncLeaves
import Derived.Shelf.Abstract
import Derived.Shelf.RegionOpen
import Derived.OwnWalkIn
import Derived.TacticsInMore
import Derived.LoopNIn
import Derived.LoopIn
set_option linter.unusedVariables false
set_option linter.unusedSimpArgs false
namespace Go.Proofs.Ytldhlkkclmifmaa
open Go.RowKit Go.Shelf
attribute [local go_sem] Oper.semAt_some

section
variable {P : Program} {F : Fence} {n : Nat}
theorem wpListIn_load_cells {ops : Array Oper} {rest : List Oper} {o : Oper} {a : Act} {w : World} {Q : Exit → Act → World → Prop} (hgd : o.guard = none) (ty : TypeId) (x : Operand) (ho : o.op = .load ty x)
    (b off : Nat) (hx : a.eval x = .pointer (some ⟨b, off, none⟩)) (cs : Array Value) (d : TypeDesc) (hc : ∀ j, j < cs.size → w.cell? ⟨b, off + j, none⟩ = cs[j]?)
    (hu : P.underlying ty = some d) (hd : (match d with | .struct _ | .array _ _ => true | _ => false) = true) (hi : (P.info? ty).map (·.size) = some cs.size)
    (h : wpListIn F n P ops Q rest (a.put o.dst (.agg cs)) w) : wpListIn F n P ops Q (o :: rest) a w := by
  refine wpListIn_plain hgd fun K hK => ?_
  unfold Oper.wpIn
  refine ⟨?_, ?_⟩
  · simp [Oper.about, ho]
  · rw [Oper.semAt_plain F _ _ (by rw [ho]; intro c hc'; cases hc')]
    simp only [execOp, ho, hx, Instr.loadAt, Instr.sureAddr, Sem.run_bind, Sem.run_pure, Result.andThen_ok, run_loadVar_cells w b off ty cs d hc hu hd hi]
    exact hK _ _ h
theorem wpListIn_box_row {ops : Array Oper} {rest : List Oper} {o : Oper} {a : Act} {w : World} {Q : Exit → Act → World → Prop} (hgd : o.guard = none) (ty : TypeId) (x y : Operand) (ho : o.op = .store ty x y)
    (Z cells : Array Value) (t : TypeId) (hx : a.eval x = .pointer (some ⟨w.heap.size, 0, none⟩)) (hy : a.eval y = .agg cells) (hi : (P.info? ty).map (·.size) = some cells.size)
    (hold : Z.size = cells.size) (h1 : cells.all (·.oneCell') = true)
    (h : ∀ w2, Chg [] w w2 → w.heap.size < w2.heap.size → (∀ j, w2.cell? ⟨w.heap.size, j, none⟩ = cells[j]?) → wpListIn F n P ops Q rest (a.put o.dst undef) w2) :
    wpListIn F n P ops Q (o :: rest) a (w.alloc (.cells Z t)) := by
  refine wpListIn_plain hgd fun K hK => ?_
  unfold Oper.wpIn
  refine ⟨?_, ?_⟩
  · simp [Oper.about, ho]
  · rw [Oper.semAt_plain F _ _ (by rw [ho]; intro c hc'; cases hc')]
    simp only [execOp, ho, hx, hy, Instr.storeAt, Instr.sureAddr, Sem.run_bind, Sem.run_pure, Result.andThen_ok, run_storeVar_row (P := P) (w.alloc (.cells Z t)) w.heap.size t ty Z cells (heap_alloc_new _ _) hi hold h1]
    exact hK _ _ (h _ (((Chg.refl [] w).alloc _).setRow (.inr (Nat.le_refl _)) _) (by simp) fun j => cell_setRow_same _ _ _ Z cells t (0, 0) (heap_alloc_new _ _))
end

theorem Chg.grownBy {a b : World} (h : Chg [] a b) : a.grownBy b none := ⟨h.os, h.tape, h.output, h.size, fun k hk _ => h.block k hk (by simp)⟩

def lates (p : Dd → Bool) (l : List Dd) (k : Nat) : List Nat := (List.range k).filter fun i => (l[i]?).any p
theorem lates_hit {p : Dd → Bool} {l : List Dd} {k : Nat} {d : Dd} (h : l[k]? = some d) (hp : p d = true) : lates p l (k + 1) = lates p l k ++ [k] := by
  simp [lates, List.range_succ, List.filter_append, h, hp]
theorem lates_miss {p : Dd → Bool} {l : List Dd} {k : Nat} {d : Dd} (h : l[k]? = some d) (hp : p d = false) : lates p l (k + 1) = lates p l k := by
  simp [lates, List.range_succ, List.filter_append, h, hp]
theorem lates_le (p : Dd → Bool) (l : List Dd) (k : Nat) : (lates p l k).length ≤ k := by simpa [lates] using List.length_filter_le (fun i => (l[i]?).any p) (List.range k)

theorem lates_prefix {p : Dd → Bool} {l : List Dd} {k : Nat} (h : k < l.length) : lates p l (k + 1) <+: lates p l l.length := by
  unfold lates
  refine List.IsPrefix.filter _ ?_
  refine ⟨(List.range (l.length - (k + 1))).map (fun x => (k + 1) + x), ?_⟩
  rw [← List.range_add]
  congr 1
  omega
set_option maxRecDepth 100000 in
set_option maxHeartbeats 8000000 in
theorem late1_in (n : Nat) (hn : 1 ≤ n) (lp Bl Bo Bt n₀ : Nat) (a0 : Option Addr) (c0 : Nat) (l : List Dd) (own turn : Int) (J Jx : List Nat → World → Prop) (W : World)
    (hJ : AbidesFrom W.heap.size J)
    (hY : ∀ pre x W1, J pre W1 → pre.length < l.length → YieldAt Fence.wide (n - 1) Try.prog lp #[.int .i64 (x : Nat)] W1 fun e W' => (e = .returned (.bool true) ∧ J (pre ++ [x]) W' ∧ Below n₀ W1 W') ∨ (e = .returned (.bool false) ∧ Jx (pre ++ [x]) W'))
    (hBl : W.cell? ⟨Bl, 0, none⟩ = some (.slice a0 l.length c0)) (hBo : W.cell? ⟨Bo, 0, none⟩ = some (.int .i64 own)) (hBt : W.cell? ⟨Bt, 0, none⟩ = some (.int .i64 turn)) (lo : Bo < n₀) (lt : Bt < n₀) (h0s : n₀ ≤ W.heap.size)
    (hcell : ∀ k, k < l.length → ∃ b off c d, a0 = some ⟨b, off, none⟩ ∧ c0 = c ∧ b < n₀ ∧ l[k]? = some d ∧ ∀ j, j < d.arr.size → W.cell? ⟨b, off + k * 19 + j, none⟩ = d.arr[j]?)
    (hok : ∀ d ∈ l, d.ok) (hgood : ∀ d ∈ l, badD d = false) (hown : 0 ≤ own ∧ own ≤ 10000) (hturn : 0 ≤ turn ∧ turn ≤ 10000) (hlen : l.length ≤ 9223372036854775807) (h0 : J [] W) :
    CallsIn Fence.wide n Try.prog 41 #[.func (.yield lp) #[] #[], .pointer (some ⟨Bl, 0, none⟩), .pointer (some ⟨Bo, 0, none⟩), .pointer (some ⟨Bt, 0, none⟩)] W fun e W' => (∃ v, e = .returned v) ∧
      ((∃ ys, ys = lates (lateD own turn) l l.length ∧ J ys W') ∨ (∃ pre, pre <+: lates (lateD own turn) l l.length ∧ Jx pre W')) := by
  refine callsIn_of_wp Try.func41 rfl trivial ?_ rfl
  simp only [Try.ntmps41, List.size_toArray, List.length_cons, List.length_nil, Nat.reduceAdd, Nat.reduceSub, Array.replicate_succ, Array.replicate_zero, List.push_toArray, List.append_toArray, List.nil_append, List.cons_append]
  have HJ := Lib.hid hJ; clear hJ
  have HY := Lib.hid hY; clear hY
  have HC := Lib.hid hcell; clear hcell
  have OK := Lib.hid hok; clear hok
  have GD := Lib.hid hgood; clear hgood
  have HO := Lib.hid hBo
  have HT := Lib.hid hBt
  have H0 := Lib.hid h0; clear h0
  gi_wp2
  gi_loopw [10] (fun i wr => ∃ k : Nat, k ≤ l.length ∧ i = .int .i64 k ∧ J (lates (lateD own turn) l k) wr ∧ Below n₀ W wr) (fun i _ => l.length - (intOf i).toNat)
  case atStart => exact ⟨0, Nat.zero_le _, rfl, H0.out, Below.refl _ _⟩
  case round =>
    obtain ⟨k, hk, rfl, hJk, hB⟩ := hrel
    by_cases hkn : k < l.length
    · obtain ⟨b', off, c', d, e1, e2, hb', hd, hcl⟩ := HC.out k hkn
      subst e1 e2
      have HCL := Lib.hid (show ∀ j, j < d.arr.size → wr.cell? ⟨b', off + k * 19 + j, none⟩ = d.arr[j]? from fun j hj => (hB.cell (p := ⟨b', off + k * 19 + j, none⟩) hb').trans (hcl j hj))
      have HD := Lib.hid hd
      have HJK := Lib.hid hJk
      have HB := Lib.hid hB
      have hmem := List.mem_of_getElem? hd
      obtain ⟨⟨s1, s2⟩, ⟨s3, s4⟩, ⟨s5, s6⟩, s7, s8⟩ := badD_no (GD.out d hmem)
      obtain ⟨_, _, _, _, ⟨m1, m2⟩, ⟨m3, m4⟩⟩ := OK.out d hmem
      have mu1 : 0 ≤ (d.ahead + 1) * turn := Int.mul_nonneg (by omega) hturn.1
      have mu2 : (d.ahead + 1) * turn ≤ 1099511627777 * 10000 := Int.mul_le_mul (by omega) hturn.2 hturn.1 (by omega)
      have q2 : wr.cell? ⟨Bo, 0, none⟩ = some (.int .i64 own) := (hB.cell (p := ⟨Bo, 0, none⟩) lo).trans hBo
      have q3 : wr.cell? ⟨Bt, 0, none⟩ = some (.int .i64 turn) := (hB.cell (p := ⟨Bt, 0, none⟩) lt).trans hBt
      have bo : Bo < wr.heap.size := Nat.lt_of_lt_of_le lo (Nat.le_trans h0s hB.size)
      have bt : Bt < wr.heap.size := Nat.lt_of_lt_of_le lt (Nat.le_trans h0s hB.size)
      clear hd hJk hB hcl hmem
      have PL := Lib.hid (show (lates (lateD own turn) l k).length < l.length from by have := lates_le (lateD own turn) l k; omega)
      have NS := Lib.hid (show n₀ ≤ wr.heap.size from Nat.le_trans h0s HB.out.size)
      have hnn : 1 ≤ n - 1 + 1 := by omega
      clear HC hBl hBo hBt
      by_cases htag : d.tag = 2
      · by_cases hmk : 0 ≤ d.mark
        · by_cases hlt : (d.ahead + 1) * turn < d.to - d.frm
          · as_aux_lemma =>
              have t2 : (d.tag == 2) = true := by simp [htag]
              have LD := Lib.hid (show lateD own turn d = true from by simp [lateD, htag, hmk, hlt])
              clear htag
              have tok1 : True := trivial
              have tok2 : True := trivial
              have LH := Lib.hid (lates_hit HD.out LD.out)
              gi_wp2_with (first | (have _t := tok1; refine wpListIn_load_cells rfl 63 _ rfl b' (off + k * 19) rfl d.arr _ HCL.out Try.underlying63 rfl (size63 _ rfl) ?_; clear _t tok1) | (have _t := tok2; refine wpListIn_box_row rfl 63 _ _ rfl _ d.arr 63 rfl rfl (size63 _ rfl) rfl d.arr_one ?_; intro w3 c3 hlt3 hcl3; clear _t tok2; have y3 := hcl3 3; have y5 := hcl3 5; have y15 := hcl3 15; have y16 := hcl3 16; have y17 := hcl3 17; have y18 := hcl3 18; simp only [Dd.get3, Dd.get5, Dd.get15, Dd.get16, Dd.get17, Dd.get18] at y3 y5 y15 y16 y17 y18; clear hcl3; have z2 := (World.cell?_of_block (c3.block Bo bo (by simp)) : w3.cell? ⟨Bo, 0, none⟩ = _).trans q2; have z3 := (World.cell?_of_block (c3.block Bt bt (by simp)) : w3.cell? ⟨Bt, 0, none⟩ = _).trans q3; have hj3 := HJ.out _ wr w3 none HJK.out c3.grownBy (by simp); obtain ⟨fnY, tmpsY, assignY, bodyY, hy, hR⟩ := HY.out _ k w3 hj3 PL.out; have HR := Lib.hid hR; clear hR hj3; have C3 := Lib.hid c3; clear c3))
              refine HR.out.mono ?_
              rintro e W4 (⟨rfl, hJ4, hk4⟩ | ⟨rfl, hJx4⟩)
              · have J4 := Lib.hid hJ4
                have B4 := Lib.hid (HB.out.trans ((C3.out.below NS.out (by simp)).trans hk4))
                clear hJ4 hk4
                gi_wp2
                go_roundw
                case rel => exact ⟨k + 1, by omega, by go_num, by rw [LH.out]; exact J4.out, B4.out⟩
                case measure => simp [intOf]; omega
              · have J4 := Lib.hid hJx4
                clear hJx4
                gi_wp2
                refine bodyPost_ret (results_none rfl _ _ _) rfl ?_
                exact ⟨⟨_, rfl⟩, .inr ⟨_, lates_prefix hkn, by rw [LH.out]; exact J4.out⟩⟩
          · as_aux_lemma =>
              have t2 : (d.tag == 2) = true := by simp [htag]
              have LD := Lib.hid (show lateD own turn d = false from by simp [lateD, htag, hmk, hlt])
              clear htag
              have hge : d.to - d.frm ≤ (d.ahead + 1) * turn := by omega
              clear hlt
              have tok1 : True := trivial
              have tok2 : True := trivial
              have LH := Lib.hid (lates_miss HD.out LD.out)
              gi_wp2_with (first | (have _t := tok1; refine wpListIn_load_cells rfl 63 _ rfl b' (off + k * 19) rfl d.arr _ HCL.out Try.underlying63 rfl (size63 _ rfl) ?_; clear _t tok1) | (have _t := tok2; refine wpListIn_box_row rfl 63 _ _ rfl _ d.arr 63 rfl rfl (size63 _ rfl) rfl d.arr_one ?_; intro w3 c3 hlt3 hcl3; clear _t tok2; have y3 := hcl3 3; have y5 := hcl3 5; have y15 := hcl3 15; have y16 := hcl3 16; have y17 := hcl3 17; have y18 := hcl3 18; simp only [Dd.get3, Dd.get5, Dd.get15, Dd.get16, Dd.get17, Dd.get18] at y3 y5 y15 y16 y17 y18; clear hcl3; have z2 := (World.cell?_of_block (c3.block Bo bo (by simp)) : w3.cell? ⟨Bo, 0, none⟩ = _).trans q2; have z3 := (World.cell?_of_block (c3.block Bt bt (by simp)) : w3.cell? ⟨Bt, 0, none⟩ = _).trans q3; have C3 := Lib.hid c3; clear c3))
              all_goals
                refine ⟨fun _ h => (by cases h), ?_⟩
                gi_wp2
                go_roundw
                case rel => exact ⟨k + 1, by omega, by go_num, by rw [LH.out]; exact HJ.out _ wr _ none HJK.out C3.out.grownBy (by simp), HB.out.trans (C3.out.below NS.out (by simp))⟩
                case measure => simp [intOf]; omega
        · as_aux_lemma =>
            have t2 : (d.tag == 2) = true := by simp [htag]
            have LD := Lib.hid (show lateD own turn d = false from by simp [lateD, htag, hmk])
            clear htag
            have hge : d.mark < 0 := by omega
            clear hmk
            have tok1 : True := trivial
            have tok2 : True := trivial
            have LH := Lib.hid (lates_miss HD.out LD.out)
            gi_wp2_with (first | (have _t := tok1; refine wpListIn_load_cells rfl 63 _ rfl b' (off + k * 19) rfl d.arr _ HCL.out Try.underlying63 rfl (size63 _ rfl) ?_; clear _t tok1) | (have _t := tok2; refine wpListIn_box_row rfl 63 _ _ rfl _ d.arr 63 rfl rfl (size63 _ rfl) rfl d.arr_one ?_; intro w3 c3 hlt3 hcl3; clear _t tok2; have y3 := hcl3 3; have y5 := hcl3 5; have y15 := hcl3 15; have y16 := hcl3 16; have y17 := hcl3 17; have y18 := hcl3 18; simp only [Dd.get3, Dd.get5, Dd.get15, Dd.get16, Dd.get17, Dd.get18] at y3 y5 y15 y16 y17 y18; clear hcl3; have z2 := (World.cell?_of_block (c3.block Bo bo (by simp)) : w3.cell? ⟨Bo, 0, none⟩ = _).trans q2; have z3 := (World.cell?_of_block (c3.block Bt bt (by simp)) : w3.cell? ⟨Bt, 0, none⟩ = _).trans q3; have C3 := Lib.hid c3; clear c3))
            all_goals
              refine ⟨fun _ h => (by cases h), ?_⟩
              gi_wp2
              go_roundw
              case rel => exact ⟨k + 1, by omega, by go_num, by rw [LH.out]; exact HJ.out _ wr _ none HJK.out C3.out.grownBy (by simp), HB.out.trans (C3.out.below NS.out (by simp))⟩
              case measure => simp [intOf]; omega
      · by_cases hst : own < d.steps
        · as_aux_lemma =>
            have t2 : (d.tag == 2) = false := by simp [htag]
            have LD := Lib.hid (show lateD own turn d = true from by simp [lateD, htag, hst])
            clear htag
            have tok1 : True := trivial
            have tok2 : True := trivial
            have LH := Lib.hid (lates_hit HD.out LD.out)
            gi_wp2_with (first | (have _t := tok1; refine wpListIn_load_cells rfl 63 _ rfl b' (off + k * 19) rfl d.arr _ HCL.out Try.underlying63 rfl (size63 _ rfl) ?_; clear _t tok1) | (have _t := tok2; refine wpListIn_box_row rfl 63 _ _ rfl _ d.arr 63 rfl rfl (size63 _ rfl) rfl d.arr_one ?_; intro w3 c3 hlt3 hcl3; clear _t tok2; have y3 := hcl3 3; have y5 := hcl3 5; have y15 := hcl3 15; have y16 := hcl3 16; have y17 := hcl3 17; have y18 := hcl3 18; simp only [Dd.get3, Dd.get5, Dd.get15, Dd.get16, Dd.get17, Dd.get18] at y3 y5 y15 y16 y17 y18; clear hcl3; have z2 := (World.cell?_of_block (c3.block Bo bo (by simp)) : w3.cell? ⟨Bo, 0, none⟩ = _).trans q2; have z3 := (World.cell?_of_block (c3.block Bt bt (by simp)) : w3.cell? ⟨Bt, 0, none⟩ = _).trans q3; have hj3 := HJ.out _ wr w3 none HJK.out c3.grownBy (by simp); obtain ⟨fnY, tmpsY, assignY, bodyY, hy, hR⟩ := HY.out _ k w3 hj3 PL.out; have HR := Lib.hid hR; clear hR hj3; have C3 := Lib.hid c3; clear c3))
            refine HR.out.mono ?_
            rintro e W4 (⟨rfl, hJ4, hk4⟩ | ⟨rfl, hJx4⟩)
            · have J4 := Lib.hid hJ4
              have B4 := Lib.hid (HB.out.trans ((C3.out.below NS.out (by simp)).trans hk4))
              clear hJ4 hk4
              gi_wp2
              go_roundw
              case rel => exact ⟨k + 1, by omega, by go_num, by rw [LH.out]; exact J4.out, B4.out⟩
              case measure => simp [intOf]; omega
            · have J4 := Lib.hid hJx4
              clear hJx4
              gi_wp2
              refine bodyPost_ret (results_none rfl _ _ _) rfl ?_
              exact ⟨⟨_, rfl⟩, .inr ⟨_, lates_prefix hkn, by rw [LH.out]; exact J4.out⟩⟩
        · as_aux_lemma =>
            have t2 : (d.tag == 2) = false := by simp [htag]
            have LD := Lib.hid (show lateD own turn d = false from by simp [lateD, htag, hst])
            clear htag
            have hge : d.steps ≤ own := by omega
            clear hst
            have tok1 : True := trivial
            have tok2 : True := trivial
            have LH := Lib.hid (lates_miss HD.out LD.out)
            gi_wp2_with (first | (have _t := tok1; refine wpListIn_load_cells rfl 63 _ rfl b' (off + k * 19) rfl d.arr _ HCL.out Try.underlying63 rfl (size63 _ rfl) ?_; clear _t tok1) | (have _t := tok2; refine wpListIn_box_row rfl 63 _ _ rfl _ d.arr 63 rfl rfl (size63 _ rfl) rfl d.arr_one ?_; intro w3 c3 hlt3 hcl3; clear _t tok2; have y3 := hcl3 3; have y5 := hcl3 5; have y15 := hcl3 15; have y16 := hcl3 16; have y17 := hcl3 17; have y18 := hcl3 18; simp only [Dd.get3, Dd.get5, Dd.get15, Dd.get16, Dd.get17, Dd.get18] at y3 y5 y15 y16 y17 y18; clear hcl3; have z2 := (World.cell?_of_block (c3.block Bo bo (by simp)) : w3.cell? ⟨Bo, 0, none⟩ = _).trans q2; have z3 := (World.cell?_of_block (c3.block Bt bt (by simp)) : w3.cell? ⟨Bt, 0, none⟩ = _).trans q3; have C3 := Lib.hid c3; clear c3))
            all_goals
              refine ⟨fun _ h => (by cases h), ?_⟩
              gi_wp2
              go_roundw
              case rel => exact ⟨k + 1, by omega, by go_num, by rw [LH.out]; exact HJ.out _ wr _ none HJK.out C3.out.grownBy (by simp), HB.out.trans (C3.out.below NS.out (by simp))⟩
              case measure => simp [intOf]; omega
    · have e : k = l.length := by omega
      subst e
      have HJK := Lib.hid hJk
      clear hJk hB
      gi_wp2
      go_end0
      exact ⟨⟨_, rfl⟩, .inl ⟨_, rfl, HJK.out⟩⟩

end Go.Proofs.Ytldhlkkclmifmaa
