import Derived.Test.YtldhlkkclmifmaaA9
set_option linter.unusedVariables false
set_option linter.unusedSimpArgs false
namespace Go.Proofs.Ytldhlkkclmifmaa
open Go.RowKit

def foldC (t : Int) (n : Nat) : Int := if t < 1 ∨ 8 < t then 1 else if 65536 < n then 2 else 0
def foldL (t : Int) (l : List Int) : List Int := if t < 1 ∨ 8 < t ∨ 65536 < l.length then [] else l.map (foldI t)
def FoldAll (w : World) (c : Int) (l : List Int) (e : Ending) (w' : World) : Prop := ∃ v, e = .returned (.tuple #[v, .int .i64 c]) ∧ OwnI w' w.heap.size v l ∧ Chg [] w w'
theorem fold_all (w : World) (v : Value) (l : List Int) (t : Int) (h : RdI w v l) (hn : l.length ≤ 9223372036854775807) (hr : ∀ x ∈ l, -9223372036854775808 ≤ x ∧ x ≤ 9223372036854775807) :
    Calls Try.prog 14 #[v, .int .i64 t] w (FoldAll w (foldC t l.length) (foldL t l)) := by
  by_cases ht : t < 1 ∨ 8 < t
  · refine (fold_bad w v t ht).mono ?_
    rintro e w' ⟨rfl, rfl⟩
    exact ⟨.slice none 0 0, by simp [foldC, ht], by rw [foldL, if_pos (by omega)]; exact OwnI.nil _ _, Chg.refl _ _⟩
  · by_cases hl : 65536 < l.length
    · obtain ⟨a, c, rfl⟩ := h.slice
      refine (fold_long w a l.length c t (by omega) (by omega) hl hn).mono ?_
      rintro e w' ⟨rfl, rfl⟩
      exact ⟨.slice none 0 0, by simp [foldC, ht, hl], by rw [foldL, if_pos (by omega)]; exact OwnI.nil _ _, Chg.refl _ _⟩
    · refine (fold_any w v l t h (by omega) (by omega) (by omega) hr).mono ?_
      rintro e w' ⟨u, rfl, h1, h2⟩
      exact ⟨u, by simp [foldC, ht, hl], by rw [foldL, if_neg (by omega)]; exact h1, h2⟩
theorem rfold_all (w : World) (v : Value) (l : List Int) (t : Int) (h : RdI w v l) (hn : l.length ≤ 9223372036854775807) (hr : ∀ x ∈ l, -9223372036854775808 ≤ x ∧ x ≤ 9223372036854775807) :
    Calls Try.prog 15 #[v, .int .i64 t] w (FoldAll w (foldC t l.length) (foldL t l)) := by
  by_cases ht : t < 1 ∨ 8 < t
  · refine (rfold_bad w v t ht).mono ?_
    rintro e w' ⟨rfl, rfl⟩
    exact ⟨.slice none 0 0, by simp [foldC, ht], by rw [foldL, if_pos (by omega)]; exact OwnI.nil _ _, Chg.refl _ _⟩
  · by_cases hl : 65536 < l.length
    · obtain ⟨a, c, rfl⟩ := h.slice
      refine (rfold_long w a l.length c t (by omega) (by omega) hl hn).mono ?_
      rintro e w' ⟨rfl, rfl⟩
      exact ⟨.slice none 0 0, by simp [foldC, ht, hl], by rw [foldL, if_pos (by omega)]; exact OwnI.nil _ _, Chg.refl _ _⟩
    · refine (rfold_any w v l t h (by omega) (by omega) (by omega) hr).mono ?_
      rintro e w' ⟨u, rfl, h1, h2⟩
      refine ⟨u, by simp [foldC, ht, hl], ?_, h2⟩
      rw [foldL, if_neg (by omega), show foldI t = foldR t from funext fun x => fold_eq t x (by omega)]; exact h1
theorem foldL_le (t : Int) (l : List Int) : (foldL t l).length ≤ 65536 := by
  unfold foldL; split
  · simp
  · simp; omega
theorem foldL_in (t : Int) (l : List Int) : ∀ x ∈ foldL t l, -8 ≤ x ∧ x ≤ 8 := by
  unfold foldL; split
  · simp
  · intro x hx
    obtain ⟨y, _, rfl⟩ := List.mem_map.1 hx
    unfold foldI
    have := Int.emod_nonneg (y.tmod t) (show t ≠ 0 by omega)
    have := Int.emod_lt_of_pos (y.tmod t) (show 0 < t by omega)
    omega

theorem OwnI.pos {w : World} {B : Nat} {v : Value} {l : List Int} (h : OwnI w B v l) (hl : 0 < l.length) : ∃ g c, v = .slice (some ⟨g, 0, none⟩) l.length c := by
  rcases h.2 with ⟨_, h2⟩ | ⟨g, cap, cur, h1, _⟩
  · omega
  · exact ⟨g, cap, h1⟩
set_option maxHeartbeats 2000000 in
theorem folds_walk (w : World) (v : Value) (l : List Int) (t : Int) (h : RdI w v l) (hr : ∀ x ∈ l, -9223372036854775808 ≤ x ∧ x ≤ 9223372036854775807) (hreach : l.length * 8 ≤ 140737488351232) :
    Calls Try.prog 4 #[v, .int .i64 t] w fun e w' => e = .returned (.bool true) ∧ Below w.heap.size w w' := by
  have H := Lib.hid h; clear h
  have HR := Lib.hid hr; clear hr
  go_enter Try.func4, Try.ntmps4
  go_wp2_with fail
  refine (live_any _).mono ?_; rintro e w1 ⟨rfl, c1⟩
  have C1 := Lib.hid c1
  have H1 := Lib.hid (H.out.keep0 c1); clear c1
  go_wp2_with (at_builtin; refine push_ints rfl _ _ rfl w1.heap.size [] l (.slice (some ⟨w1.heap.size, 0, none⟩) 0 0) v rfl ⟨rfl, .inr ⟨w1.heap.size, 0, #[], rfl, Nat.le_refl _, heap_alloc_new _ _, by simp, by simp, rfl, rfl⟩⟩ rfl (H1.out.keep0 ((Chg.refl _ _).alloc _)) (by simp; omega) (by simp) ?_; intro v2 w2 own2 hgr)
  have c2 : Chg [] w1 w2 := ((Chg.refl _ _).alloc _).grown hgr (by intro k hk; simp [Value.ownBlock] at hk; omega)
  have OI := Lib.hid (show OwnI w2 w1.heap.size v2 l from by simpa using own2)
  have H2 := Lib.hid (H1.out.keep0 c2)
  have C2 := Lib.hid (C1.out.trans c2)
  have W12 := Lib.hid c2.size
  have W01 := Lib.hid C1.out.size
  clear own2 hgr c2 C1 H1
  go_wp2_with fail
  refine (fold_all _ v l t H2.out (by omega) HR.out).mono ?_; rintro e w3 ⟨v3, rfl, own3, c3⟩
  have O3 := Lib.hid own3
  have OI3 := Lib.hid (OI.out.keep0 c3)
  have H3 := Lib.hid (H2.out.keep0 c3)
  have C3 := Lib.hid (C2.out.trans c3)
  have S3 := Lib.hid (show ∀ k, v2.ownBlock = some k → k < w2.heap.size from fun k hk => (OI.out.blk k hk).2)
  clear own3 c3 C2
  go_wp2_with fail
  refine (rfold_all _ v2 l t OI3.out.rd (by omega) HR.out).mono ?_; rintro e w4 ⟨v4, rfl, own4, c4⟩
  have O4 := Lib.hid own4
  have O34 := Lib.hid (O3.out.keep0 c4)
  have OI4 := Lib.hid (OI3.out.keep0 c4)
  have H4 := Lib.hid (H3.out.keep0 c4)
  have C4 := Lib.hid (C3.out.trans c4)
  have S4 := Lib.hid (show ∀ k, v3.ownBlock = some k → w2.heap.size ≤ k ∧ k < w3.heap.size from fun k hk => O3.out.blk k hk)
  clear own4 c4 C3 OI3 H3 O3 OI H2
  go_wp2_with fail
  refine (same_any _ _ _ l l OI4.out.rd H4.out (by omega) (by omega)).mono ?_; rintro e w5 ⟨rfl, n5, rfl⟩
  rw [show decide (l = l) = true from by simp]
  have O5 := Lib.hid (O4.out.keep0 (drewN_chg (n := n5)))
  have O35 := Lib.hid (O34.out.keep0 (drewN_chg (n := n5)))
  have OI5 := Lib.hid (OI4.out.keep0 (drewN_chg (n := n5)))
  have H5 := Lib.hid (H4.out.keep0 (drewN_chg (n := n5)))
  have C5 := Lib.hid (C4.out.drewN n5)
  clear C4 H4 OI4 O34 O4
  generalize w4.drewN n5 = w5 at *
  obtain ⟨a3, c3, rfl⟩ := O35.out.rd.slice
  have hlen := foldL_le t l
  generalize hN : (foldL t l).length = N at *
  have HN := Lib.hid hN; clear hN
  have hxs := Lib.hid (show ∃ xs : List Int, xs.length = N ∧ (∀ j, 0 ≤ j → j < N → -9 ≤ xs.getD j 0 ∧ xs.getD j 0 ≤ 9) ∧ OwnI w5 w2.heap.size (.slice a3 N c3) xs from ⟨foldL t l, HN.out, fun j _ hj => by
    have hj' : j < (foldL t l).length := by rw [HN.out]; exact hj
    rw [List.getD, List.getElem?_eq_getElem hj']
    have := foldL_in t l _ (List.getElem_mem hj'); simp only [Option.getD_some]; omega, O35.out⟩)
  clear O35
  go_wp2_with fail
  go_loopw [12] (fun i wr => ∃ k : Nat, k ≤ N ∧ i = .int .i64 k ∧ (∃ xs : List Int, xs.length = N ∧ (∀ j, k ≤ j → j < N → -9 ≤ xs.getD j 0 ∧ xs.getD j 0 ≤ 9) ∧ OwnI wr w2.heap.size (.slice a3 N c3) xs) ∧ Chg (Value.slice a3 N c3).ownBlock.toList w5 wr) (fun i _ => N - (intOf i).toNat)
  case atStart => exact ⟨0, Nat.zero_le _, rfl, hxs.out, Chg.refl _ _⟩
  case round =>
    obtain ⟨k, hk, rfl, ⟨xs, hxl, hxb, hown⟩, hchg⟩ := hrel
    by_cases hkn : k < N
    · obtain ⟨g, c, e⟩ := hown.pos (by omega)
      simp only [Value.slice.injEq] at e
      obtain ⟨rfl, _, rfl⟩ := e
      have hf := hown.facts
      obtain ⟨x, X, g2⟩ : ∃ x, Hid (xs.getD k 0 = x) ∧ wr.cell? ⟨g, k, none⟩ = some (.int .i64 x) := ⟨_, rfl, hf.2.2.1 k (by omega)⟩
      have g3 := hf.2.2.2 k
      have hx : -9 ≤ x ∧ x ≤ 9 := by rw [← X.out]; exact hxb k (Nat.le_refl _) hkn
      obtain ⟨hx1, hx2⟩ := hx
      have OW := Lib.hid (show ∃ ys : List Int, ys.length = N ∧ (∀ j, k + 1 ≤ j → j < N → -9 ≤ ys.getD j 0 ∧ ys.getD j 0 ≤ 9) ∧ OwnI (wr.setCell ⟨g, k, none⟩ (.int .i64 (x + 1))) w2.heap.size (.slice (some ⟨g, 0, none⟩) N c3) ys from
        ⟨xs.set k (x + 1), by simpa using hxl, fun j h1 h2 => by
          have := hxb j (by omega) h2
          rw [List.getD, List.getElem?_set_ne (by omega)]; exact this, hown.set k (x + 1)⟩)
      have CH := Lib.hid (show Chg (Value.slice (some ⟨g, 0, none⟩) N c3).ownBlock.toList w5 (wr.setCell ⟨g, k, none⟩ (.int .i64 (x + 1))) from hchg.setCell (by simp [Value.ownBlock]) _)
      clear hf hown hxb hchg hxl
      go_wp2
      go_roundw
      case rel => exact ⟨k + 1, by omega, by go_num, OW.out, CH.out⟩
      case measure => simp [intOf]; omega
    · clear hxb hxl hown
      have hS : ∀ x ∈ (Value.slice a3 N c3).ownBlock.toList, w2.heap.size ≤ x ∧ x < w3.heap.size := fun x hx => S4.out x (by simpa using hx)
      have hw2 : w1.heap.size ≤ w2.heap.size := W12.out
      have hw1 : w.heap.size ≤ w1.heap.size := W01.out
      have cr := C5.out.also hchg (fun x hx => by have := hS x hx; omega)
      have O6 := Lib.hid (O5.out.keep hchg (fun j hj hjS => by have := (O5.out.blk j hj).1; have := hS j hjS; omega))
      have OI6 := Lib.hid (OI5.out.keep hchg (fun j hj hjS => by have := S3.out j hj; have := hS j hjS; omega))
      have H6 := Lib.hid (H.out.keep0 cr)
      have C6 := Lib.hid cr
      clear O5 OI5 H5 C5 hS cr hchg S3 S4 hxs hw1 hw2
      go_wp2_with fail
      refine (fold_all _ v l t H6.out (by omega) HR.out).mono ?_; rintro e w7 ⟨v7, rfl, own7, c7⟩
      have O7 := Lib.hid own7
      have O67 := Lib.hid (O6.out.keep0 c7)
      have OI7 := Lib.hid (OI6.out.keep0 c7)
      have H7 := Lib.hid (H6.out.keep0 c7)
      have C7 := Lib.hid (C6.out.trans c7)
      clear own7 c7 C6 H6 OI6 O6
      have eb : ((foldC t l.length) == (foldC t l.length)) = true := by simp
      generalize foldC t l.length = C at *
      go_wp2_with fail
      refine (same_any _ _ _ l l OI7.out.rd H7.out (by omega) (by omega)).mono ?_; rintro e w8 ⟨rfl, n8, rfl⟩
      rw [show decide (l = l) = true from by simp]
      have O8 := Lib.hid (O7.out.keep0 (drewN_chg (n := n8)))
      have O68 := Lib.hid (O67.out.keep0 (drewN_chg (n := n8)))
      have C8 := Lib.hid (C7.out.drewN n8)
      clear C7 O7 O67 H7 OI7
      generalize w7.drewN n8 = w8 at *
      go_wp2_with fail
      refine (same_any _ _ _ _ _ O8.out.rd O68.out.rd (by rw [HN.out]; omega) (by rw [HN.out]; omega)).mono ?_; rintro e w9 ⟨rfl, n9, rfl⟩
      rw [show decide (foldL t l = foldL t l) = true from by simp]
      obtain ⟨a4, c4, e4⟩ := O68.out.rd.slice
      rw [HN.out] at e4
      subst e4
      have nb : ((N : Int) == (N : Int)) = true := by simp
      go_wp2
      go_ret
      exact ⟨rfl, (C8.out.drewN n9).below (Nat.le_refl _) (by simp)⟩

theorem folds_all (w : World) (v : Value) (t : Int) (h : ∃ l, RdI w v l ∧ (∀ x ∈ l, -9223372036854775808 ≤ x ∧ x ≤ 9223372036854775807) ∧ l.length * 8 ≤ 140737488351232) (ht : -9223372036854775808 ≤ t ∧ t ≤ 9223372036854775807) :
    Calls Try.prog 4 #[v, .int .i64 t] w fun e w' => e = .returned (.bool true) ∧ Below w.heap.size w w' := by
  obtain ⟨l, h1, h2, h3⟩ := h
  exact folds_walk w v l t h1 h2 h3

end Go.Proofs.Ytldhlkkclmifmaa
