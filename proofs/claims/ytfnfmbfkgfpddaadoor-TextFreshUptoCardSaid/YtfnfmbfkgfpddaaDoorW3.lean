import Derived.Test.YtfnfmbfkgfpddaaDoorW1
import Derived.Laws.OwnMore
set_option linter.unusedVariables false
set_option linter.unusedSimpArgs false
namespace Go.Proofs.YtfnfmbfkgfpddaaDoor
open Go.RowKit

/-- v owns n texts. -/
def Own (w : World) (B : Nat) (v : Value) (n : Nat) : Prop := ∃ l : List ByteArray, l.length = n ∧ OwnS w B v l
theorem OwnS.own {w : World} {B : Nat} {v : Value} {l : List ByteArray} (h : OwnS w B v l) : Own w B v l.length := ⟨l, rfl, h⟩
theorem Own.slice {w B v n} (h : Own w B v n) : ∃ a c, v = .slice a n c := by
  obtain ⟨l, rfl, h⟩ := h
  exact h.rd.slice
theorem Own.head {w : World} {B n c : Nat} {a : Option Addr} (h : Own w B (.slice a n c) n) (hn : 0 < n) : ∃ g, a = some ⟨g, 0, none⟩ ∧ B ≤ g := by
  obtain ⟨l, rfl, h⟩ := h
  rcases h.2 with ⟨h1, h2⟩ | ⟨g, cap, cur, h1, hB, _⟩
  · omega
  · simp only [Value.slice.injEq] at h1
    exact ⟨g, h1.1, hB⟩
theorem Own.get {w : World} {B g n c : Nat} (h : Own w B (.slice (some ⟨g, 0, none⟩) n c) n) {i : Nat} (hi : i < n) : (∃ x, w.cell? ⟨g, i, none⟩ = some (.string x)) ∧ w.frozen? ⟨g, i, none⟩ = false := by
  obtain ⟨l, rfl, h⟩ := h
  refine ⟨?_, World.ownsRow.frozenAt h i⟩
  have := World.ownsRow.cellAt h i (by omega)
  rw [this]
  exact ⟨l[i], by simp [List.getElem?_eq_getElem hi]⟩
theorem Own.put {w : World} {B g n c : Nat} (h : Own w B (.slice (some ⟨g, 0, none⟩) n c) n) (i : Nat) (k : ByteArray) : Own (w.setCell ⟨g, i, none⟩ (.string k)) B (.slice (some ⟨g, 0, none⟩) n c) n := by
  obtain ⟨l, rfl, h⟩ := h
  refine ⟨l.set i k, by simp, ?_⟩
  have := (World.ownsRow.stored h i (.string k)).1
  unfold OwnS
  rw [List.length_set, List.map_set]
  exact this
theorem Own.keep {w w' : World} {B n : Nat} {v : Value} {S : List Nat} (h : Own w B v n) (c : Chg S w w') (hs : ∀ k, v.ownBlock = some k → k ∉ S) : Own w' B v n := by
  obtain ⟨l, rfl, h⟩ := h
  exact ⟨l, rfl, h.keep c hs⟩
theorem Own.blk {w : World} {B n : Nat} {v : Value} (h : Own w B v n) : ∀ k, v.ownBlock = some k → B ≤ k ∧ k < w.heap.size := by
  obtain ⟨l, rfl, h⟩ := h
  exact h.blk

theorem push2 {wr : World} {k1 k2 : ByteArray} {T : TypeId} {ops : Array Oper} {rest : List Oper} {o : Oper} {a : Act} {Q : Exit → Act → World → Prop} (hgd : o.guard = none) (s x : Operand)
    (ho : o.op = .call { callee := .builtin .append, args := #[s, x], argTypes := #[35, 35] })
    (B : Nat) (n : Nat) (v : Value) (hs : a.eval s = v) (hown : Own wr B v n) (hx : a.eval x = .slice (some ⟨wr.heap.size, 0, none⟩) 2 2)
    (h63 : n < 1000000000000) (hB : B ≤ wr.heap.size)
    (h : ∀ v' w', Own w' B v' (n + 2) → (wr.alloc (.cells #[.string k1, .string k2] T)).grownBy w' v.ownBlock → wpList Tryd.prog ops Q rest (a.put o.dst v') w') :
    wpList Tryd.prog ops Q (o :: rest) a (wr.alloc (.cells #[.string k1, .string k2] T)) := by
  obtain ⟨i0, hi, hz0, hz1, hz2⟩ := info_parts info9
  obtain ⟨l, rfl, hl⟩ := hown
  refine wpList_append_own _ hgd s x 35 ho B 9 i0 (.string ⟨#[]⟩) 1 16 under35 hi hz0 hz1 hz2 rfl (by decide) v l.length _ hs (hl.alloc _) ⟨wr.heap.size, 0, none⟩ 2 2 [.string k1, .string k2] hx rfl ?_ ?_ ?_ ?_ ?_ ?_
  · intro j u hj
    match j, hj with
    | 0, hj => simp at hj; subst hj; exact cell_of_row _ _ _ _ _ _ (heap_alloc_new _ _)
    | 1, hj => simp at hj; subst hj; exact cell_of_row _ _ _ _ _ _ (heap_alloc_new _ _)
  · intro u hu; simp at hu; rcases hu with rfl | rfl <;> rfl
  · unfold maxLen; omega
  · omega
  · simp; omega
  · intro v' w' h1 h2 _
    refine h v' w' ⟨l ++ [k1, k2], by simp, ?_⟩ h2
    simpa [OwnS] using h1

structure Two (w : World) (A B : Nat) (v u : Value) (n m : Nat) (wr : World) : Prop where
  one : Own wr A v n
  two : Own wr B u m
  low : ∀ k, v.ownBlock = some k → k < B
  chg : Chg [] w wr
  size : A ≤ w.heap.size ∧ w.heap.size ≤ A ∧ A ≤ B ∧ B ≤ wr.heap.size
theorem Two.put1 {w wr : World} {A B g n m c : Nat} {u : Value} (h : Two w A B (.slice (some ⟨g, 0, none⟩) n c) u n m wr) (i : Nat) (k : ByteArray) : Two w A B (.slice (some ⟨g, 0, none⟩) n c) u n m (wr.setCell ⟨g, i, none⟩ (.string k)) := by
  have hg := h.low g rfl
  have hA := h.one.blk g rfl
  refine ⟨h.one.put i k, ?_, h.low, h.chg.setCell (.inr (by have := h.size; simp only; omega)) _, by have := h.size; simpa [World.setCell] using this⟩
  exact h.two.keep (S := [g]) ((Chg.refl _ _).setCell (.inl (by simp)) _) (fun j hj => by
    have := h.two.blk j hj
    simp; omega)
theorem Two.put2 {w wr : World} {A B g n m c : Nat} {v : Value} (h : Two w A B v (.slice (some ⟨g, 0, none⟩) m c) n m wr) (i : Nat) (k : ByteArray) : Two w A B v (.slice (some ⟨g, 0, none⟩) m c) n m (wr.setCell ⟨g, i, none⟩ (.string k)) := by
  have hA := h.two.blk g rfl
  refine ⟨?_, h.two.put i k, h.low, h.chg.setCell (.inr (by have := h.size; simp only; omega)) _, by have := h.size; simpa [World.setCell] using this⟩
  exact h.one.keep (S := [g]) ((Chg.refl _ _).setCell (.inl (by simp)) _) (fun j hj => by
    have := h.low j hj
    simp; omega)

theorem Two.pushed {w wr w3 : World} {A B n m : Nat} {v u : Value} (h : Two w A B v u n m wr) (o : Obj) (g : (wr.alloc o).grownBy w3 v.ownBlock) : Own w3 B u m ∧ Chg [] w w3 ∧ B ≤ w3.heap.size := by
  refine ⟨h.two.keep (S := v.ownBlock.toList) (((Chg.refl _ _).alloc o).grown g (fun j hj => .inl (by rw [hj]; simp))) (fun j hj hm => ?_), (h.chg.alloc o).grown g (fun j hj => .inr ?_), ?_⟩
  · have h1 := h.two.blk j hj
    have h2 := h.low j (by simpa using hm)
    omega
  · have h1 := h.one.blk j hj
    have := h.size
    omega
  · have h1 := g.size
    have h2 := h.size
    simp at h1
    omega
theorem Own.pushed {w w3 w4 : World} {B m : Nat} {u : Value} (h : Own w3 B u m) (hB : w.heap.size ≤ B) (c : Chg [] w w3) (o : Obj) (g : (w3.alloc o).grownBy w4 u.ownBlock) : Chg [] w w4 :=
  (c.alloc o).grown g (fun j hj => .inr (by have := h.blk j hj; omega))

set_option maxRecDepth 100000 in
set_option maxHeartbeats 2000000 in
theorem fresh (w : World) (s t : ByteArray) (hs : s.size ≤ 1048576) (ht : t.size ≤ 1048576) (L : Laid w) : Calls Tryd.prog 11 #[.string s, .string t] w (Fine w) := by
  have PS := fun W => split_walk s W
  have QS := fun W => rsplit_walk s W
  have PL := fun W => lines_walk t W (by omega)
  have QL := fun W => rlines_walk t W (by omega)
  have ln := splitL_len s
  have lm := lines_len t
  unfold SplitPost at PS QS
  unfold LinesPost at PL QL
  obtain ⟨e0, he0⟩ : ∃ n, n = splitE s := ⟨_, rfl⟩
  obtain ⟨l, hl⟩ : ∃ l, l = splitL s := ⟨_, rfl⟩
  obtain ⟨m, hm⟩ : ∃ l, l = lines t := ⟨_, rfl⟩
  rw [← he0, ← hl] at PS QS
  rw [← hl] at ln
  rw [← hm] at PL QL lm
  have t1 : (e0 == e0) = true := by simp
  have LD := Lib.hid L
  have ll := ln
  have mm := lm
  clear L hl hm he0
  go_enter Tryd.func11, Tryd.ntmps11
  go_wp2_with (first | (go_at_call 23; refine (PS _).mono ?_; rintro e w1 ⟨v1, rfl, o1, c1⟩; have C1 := Lib.hid c1; have O1 := Lib.hid o1; clear o1 c1) | (go_at_call 26; refine (PL _).mono ?_; rintro e w2 ⟨v2, rfl, o2, c2⟩; have C2 := Lib.hid c2; have O2 := Lib.hid o2; clear o2 c2))
  have T0 : Two w w.heap.size w1.heap.size v1 v2 l.length m.length w2 := ⟨O1.out.own.keep C2.out (by simp), O2.out.own, fun k hk => (O1.out.blk k hk).2, C1.out.trans C2.out, by have := C1.out.size; have := C2.out.size; omega⟩
  obtain ⟨n, hn⟩ : ∃ n, n = l.length := ⟨_, rfl⟩
  obtain ⟨k, hk⟩ : ∃ k, k = m.length := ⟨_, rfl⟩
  rw [← hn] at T0 ln
  rw [← hk] at T0 lm
  obtain ⟨a1, x1, rfl⟩ := T0.one.slice
  obtain ⟨a2, x2, rfl⟩ := T0.two.slice
  obtain ⟨B, hB⟩ : ∃ B, B = w1.heap.size := ⟨_, rfl⟩
  rw [← hB] at T0
  have TT := Lib.hid T0
  clear T0 O1 O2 C1 C2 hn hk hB
  go_wp2
  go_loopw [8] (fun i wr => ∃ j : Nat, i = .int .i64 j ∧ j ≤ n ∧ Two w w.heap.size B (.slice a1 n x1) (.slice a2 k x2) n k wr) (fun i _ => n - (intOf i).toNat)
  case atStart => exact ⟨0, rfl, by omega, TT.out⟩
  case round =>
    clear TT
    obtain ⟨j, rfl, hj, h2⟩ := hrel
    have TT := Lib.hid h2; clear h2
    by_cases h : j < n
    · have h' : (j : Int) < n := by omega
      obtain ⟨g, rfl, hg⟩ := TT.out.one.head (by omega)
      obtain ⟨⟨x, g1⟩, g2⟩ := TT.out.one.get h
      go_wp2
      go_roundw
      case rel => exact ⟨j + 1, by go_num, by omega, TT.out.put1 _ _⟩
      case measure => simp [intOf]; omega
    · obtain rfl : j = n := by omega
      have h' : ¬ (j : Int) < j := by omega
      go_wp2
      go_loopw [9] (fun i wr => ∃ i' : Nat, i = .int .i64 i' ∧ i' ≤ k ∧ Two w w.heap.size B (.slice a1 j x1) (.slice a2 k x2) j k wr) (fun i _ => k - (intOf i).toNat)
      case atStart => exact ⟨0, rfl, by omega, TT.out⟩
      case round =>
        clear TT
        obtain ⟨i, rfl, hi, h2⟩ := hrel
        have TT := Lib.hid h2; clear h2
        by_cases h : i < k
        · have h' : (i : Int) < k := by omega
          obtain ⟨g, rfl, hg⟩ := TT.out.two.head (by omega)
          obtain ⟨⟨x, g1⟩, g2⟩ := TT.out.two.get h
          go_wp2
          go_roundw
          case rel => exact ⟨i + 1, by go_num, by omega, TT.out.put2 _ _⟩
          case measure => simp [intOf]; omega
        · obtain rfl : i = k := by omega
          have h' : ¬ (i : Int) < i := by omega
          go_wp2_with (first | (at_builtin; (fail_if_success (have _z := P1.out)); refine push2 rfl _ _ rfl w.heap.size j _ rfl TT.out.one rfl (by omega) (by have := TT.out.size; omega) ?_; intro v1 w3 hown3 gr3; have P1 := Lib.hid (TT.out.pushed _ gr3); have O1 := Lib.hid hown3; clear hown3 gr3) | (at_builtin; refine push2 rfl _ _ rfl B i _ rfl P1.out.1 rfl (by omega) P1.out.2.2 ?_; intro v2 w4 hown4 gr4; have CW := Lib.hid (P1.out.1.pushed (by have := TT.out.size; omega) P1.out.2.1 _ gr4); have O2 := Lib.hid hown4; obtain ⟨a3, x3, rfl⟩ := O1.out.slice; obtain ⟨a4, x4, rfl⟩ := O2.out.slice; clear hown4 gr4) | (go_at_call 23; refine (PS _).mono ?_; rintro e w5 ⟨v3, rfl, o3, c3⟩; have R3 := Lib.hid o3.rd; have CW := Lib.hid (CW.out.trans c3); clear o3 c3) | (go_at_call 24; refine (QS _).mono ?_; rintro e w6 ⟨v4, rfl, o4, c4⟩; have R3 := Lib.hid (R3.out.keep0 c4); have R4 := Lib.hid o4.rd; have CW := Lib.hid (CW.out.trans c4); clear o4 c4) | (go_at_call 16; refine (live_walk _ (LD.out.below (below_of_chg CW.out))).mono ?_; rintro e w7 ⟨rfl, b7⟩; have c7 := Chg.of_below (S := []) b7; have R3 := Lib.hid (R3.out.keep0 c7); have R4 := Lib.hid (R4.out.keep0 c7); have CW := Lib.hid (CW.out.trans c7); clear b7 c7) | ((fail_if_success (have _z := D1.out)); go_at_call 25; refine (same_at2 _ v3 v4 l R3.out R4.out (by omega)).mono ?_; rintro e w8 ⟨rfl, q8, rfl⟩; have CW := Lib.hid (CW.out.drewN q8); have D1 := Lib.hid True.intro) | (go_at_call 26; refine (PL _).mono ?_; rintro e w9 ⟨v5, rfl, o5, c5⟩; have R5 := Lib.hid o5.rd; have CW := Lib.hid (CW.out.trans c5); clear o5 c5) | (go_at_call 27; refine (QL _).mono ?_; rintro e w10 ⟨v6, rfl, o6, c6⟩; have R5 := Lib.hid (R5.out.keep0 c6); have R6 := Lib.hid o6.rd; have CW := Lib.hid (CW.out.trans c6); clear o6 c6) | (go_at_call 25; refine (same_at2 _ v5 v6 m R5.out R6.out (by omega)).mono ?_; rintro e w11 ⟨rfl, q11, rfl⟩; have CW := Lib.hid (CW.out.drewN q11)))
          all_goals go_ret
          all_goals exact fine_of (below_of_chg CW.out)
end Go.Proofs.YtfnfmbfkgfpddaaDoor
