import Derived.Test.YtjlnhifleepnoaaGreatDoorK8
set_option linter.unusedVariables false
set_option linter.unusedSimpArgs false
namespace Go.Proofs.YtjlnhifleepnoaaGreatDoor
open Go.RowKit

/-- The Builder in block b holds these bytes. -/
def Bd (w : World) (b : Nat) (acc : List UInt8) : Prop := Lib.IsBuilder 51 5 b b (Lib.byteCells acc) w
theorem Bd.lt {w : World} {b : Nat} {acc : List UInt8} (h : Bd w b acc) : b < w.heap.size := by
  rcases h with ⟨_, v, h, _⟩ | ⟨_, v, h, _⟩ <;> exact lt_of_heap h
theorem Bd.keep {w w' : World} {b : Nat} {acc : List UInt8} (h : Bd w b acc) (c : Chg [] w w') : Bd w' b acc := by
  have k : ∀ p, Lib.BuilderAt 51 5 b b p (Lib.byteCells acc) w → Lib.BuilderAt 51 5 b b p (Lib.byteCells acc) w' := by
    rintro p ⟨hB, v, hb, ⟨hl, ho⟩, hne⟩
    refine ⟨hB, v, (c.block b (lt_of_heap hb) (by simp)).trans hb, ⟨hl, ?_⟩, hne⟩
    rcases ho with h1 | ⟨g, cap, cur, h1, h2, h3, h4⟩
    · exact .inl h1
    · exact .inr ⟨g, cap, cur, h1, h2, (c.block g (lt_of_heap h3) (by simp)).trans h3, h4⟩
  rcases h with h | h
  · exact .inl (k _ h)
  · exact .inr (k _ h)
theorem bd_write (b : Nat) (acc l : List UInt8) (w : World) (h : Bd w b acc) (hlen : acc.length + l.length ≤ 140737488355328) :
    Calls Tryz.prog 17 #[.pointer (some ⟨b, 0, none⟩), .string (S l)] w fun e w' => (∃ n, e = .returned (.tuple #[.int .i64 n, .nilIface])) ∧ Bd w' b (acc ++ l) ∧ Below b w w' := by
  refine (write_walk b b _ (S l) w h (by rw [Lib.byteCells_length, S_size]; exact hlen) (Nat.le_of_lt h.lt)).mono ?_
  rintro e w' ⟨rfl, h1, h2⟩
  refine ⟨⟨_, rfl⟩, .inr ?_, h2⟩
  rw [Lib.byteCells_append]
  exact h1
theorem bd_new (w : World) : Bd (w.alloc (.cells #[.pointer none, .slice none 0 0] 51)) w.heap.size [] :=
  .inl ⟨Nat.le_refl _, .slice none 0 0, heap_alloc_new _ _, ⟨by simp [Lib.byteCells], .inl ⟨rfl, rfl⟩⟩, by simp [Value.ownBlock]⟩

def tagS (tag : Int) : List UInt8 := if tag = 1 then [114, 101, 97, 100, 115] else [117, 112, 100, 97, 116, 101, 115]
def linesP : List Ins → List UInt8
  | [] => []
  | p :: r => lineS p ++ [10] ++ linesP r
def printS (tag : Int) (l : List Ins) : List UInt8 := tagS tag ++ [10] ++ linesP l
theorem linesP_snoc : ∀ (l : List Ins) (p : Ins), linesP (l ++ [p]) = linesP l ++ (lineS p ++ [10])
  | [], p => by simp [linesP]
  | q :: l, p => by simp [linesP, linesP_snoc l p]

theorem word_len (op : Int) : (rowAt op).1.length ≤ 20 := by
  unfold rowAt
  rcases Nat.lt_or_ge op.toNat 21 with h | h
  · have : ∀ k : Nat, k < 21 → (rowsL.getD k ([], 0, 0, 0)).1.length ≤ 20 := by decide +kernel
    exact this _ h
  · have e : rowsL.getD op.toNat ([], 0, 0, 0) = ([], 0, 0, 0) := by
      simp only [List.getD]
      rw [List.getElem?_eq_none (by show 21 ≤ op.toNat; exact h)]
      rfl
    rw [e]
    decide
theorem lst_len (l : List ByteArray) (hl : ∀ x ∈ l, x.size ≤ 20) (i : Nat) : (l.getD i ⟨#[]⟩).data.toList.length ≤ 20 := by
  rw [← Lib.size_eq]
  rcases Nat.lt_or_ge i l.length with h | h
  · simp only [List.getD, List.getElem?_eq_getElem h, Option.getD_some]
    exact hl _ (List.getElem_mem h)
  · simp only [List.getD, List.getElem?_eq_none h, Option.getD_none]
    decide
theorem line_len (p : Ins) (len : Int) (hx : p.x < 18446744073709551616) (hm : mayS p len = true) (hlen : len ≤ 1024) : (lineS p).length ≤ 60 := by
  have h9 := lst_len onesB (by decide) p.n.toNat
  have h10 := lst_len twosB (by decide) p.n.toNat
  have hw := word_len p.op
  have hp := prt_len (fx_lt hx)
  unfold lineS
  by_cases h1 : p.op = 1
  · rw [if_pos h1]
    simp; omega
  rw [if_neg h1]
  by_cases h2 : p.op = 9
  · rw [if_pos h2]; omega
  rw [if_neg h2]
  by_cases h3 : p.op = 10
  · rw [if_pos h3]; omega
  rw [if_neg h3]
  by_cases h4 : most p.op = -2
  · rw [if_pos h4]; omega
  rw [if_neg h4]
  have hM := most_le p.op
  have hn : 0 ≤ p.n ∧ p.n ≤ 2000 := by
    unfold mayS at hm
    split at hm
    · cases hm
    · try rw [if_neg h4] at hm
      split at hm
      · simp at hm; omega
      · rw [if_neg (by omega)] at hm
        simp at hm
        omega
  have := Lib.itoa_length_le p.n (by omega) (by omega)
  simp; omega
theorem lines_len (l : List Ins) (hl : ∀ p ∈ l, (lineS p).length ≤ 60) : (linesP l).length ≤ 61 * l.length := by
  induction l with
  | nil => simp [linesP]
  | cons p r ih =>
    have h1 := hl p (by simp)
    have h2 := ih (fun q hq => hl q (by simp [hq]))
    simp [linesP]; omega

theorem bd_write' (b : Nat) (acc l : List UInt8) (s : ByteArray) (hs : s = S l) (w : World) (h : Bd w b acc) (hlen : acc.length + l.length ≤ 140737488355328) :
    Calls Tryz.prog 17 #[.pointer (some ⟨b, 0, none⟩), .string s] w fun e w' => (∃ n, e = .returned (.tuple #[.int .i64 n, .nilIface])) ∧ Bd w' b (acc ++ l) ∧ Below b w w' := by
  subst hs; exact bd_write b acc l w h hlen
theorem chg_bd {w W W' : World} {g : Nat} (c : Chg [] w W) (b : Below g W W') (h : w.heap.size ≤ g) (hW : g ≤ W.heap.size) : Chg [] w W' :=
  ⟨b.os.trans c.os, b.tape.trans c.tape, b.output.trans c.output, Nat.le_trans c.size b.size, fun k hk _ => (b.block k (by omega)).trans (c.block k hk (by simp))⟩
theorem line_at (op n : Int) (x : Nat) (len : Int) (w : World) (L : Laid w) (hx : x < 18446744073709551616) (hm : mayS ⟨op, n, x⟩ len = true) (hlen : len ≤ 1024) : Calls Tryz.prog 19 #[.agg #[.int .i64 op, .int .i64 n, .float .f64 x]] w fun e w' => e = .returned (.string (S (lineS ⟨op, n, x⟩))) ∧ Below w.heap.size w w' := line_walk ⟨op, n, x⟩ len w L hx hm hlen
theorem tagS_len (tag : Int) : (tagS tag).length ≤ 7 := by unfold tagS; split <;> decide

set_option maxRecDepth 100000 in
set_option maxHeartbeats 2000000 in
/-- code.Print. -/
theorem cprint_walk (tag : Int) (v : Value) (l : List Ins) (w : World) (L : Laid w) (h : RdC w v l) (hx : ∀ p ∈ l, p.x < 18446744073709551616) : Calls Tryz.prog 9 #[.agg #[.int .i64 tag, v]] w fun e w' => e = .returned (.tuple #[.string (S (if okP tag l then printS tag l else [])), .int .i64 (checkS tag l)]) ∧ Below w.heap.size w w' := by
  obtain ⟨a, c, rfl⟩ := h.slice
  have CW : ∀ W, Chg [] w W → Calls Tryz.prog 11 #[.agg #[.int .i64 tag, .slice a l.length c]] W fun e w' => e = .returned (.int .i64 (checkS tag l)) ∧ Below W.heap.size W w' := fun W c => check_walk tag _ l W (h.keep0 c)
  by_cases hok : okP tag l
  case neg =>
    have e : checkS tag l = 50 := by unfold checkS; rw [if_neg hok]
    rw [e] at CW ⊢
    rw [if_neg hok]
    have LD := Lib.hid L
    clear h hok L hx e
    generalize l.length = n at *
    go_enter Tryz.func9, Tryz.ntmps9
    go_wp2_with (go_at_call 11; refine (CW _ ((Chg.refl _ _).alloc _)).mono ?_; rintro e w1 ⟨rfl, b1⟩; have C1 := Lib.hid (((Chg.refl [] w).alloc _).trans (Chg.of_below b1)); clear b1)
    go_ret2
    exact ⟨rfl, below_of_chg C1.out⟩
  have e : checkS tag l = 0 := by unfold checkS; rw [if_pos hok]
  rw [e] at CW ⊢
  rw [if_pos hok]
  clear e
  obtain ⟨ok1, ok2, ok3, ok4⟩ := hok
  have LL : ∀ p ∈ l, (lineS p).length ≤ 60 := fun p hp => line_len p l.length (hx p hp) (ok4 p hp) (by omega)
  have LN := lines_len l LL
  obtain ⟨n, hn⟩ : ∃ n, n = l.length := ⟨_, rfl⟩
  rw [← hn] at h CW ok2 ok3 ok4 LN
  rw [← hn]
  have HN := Lib.hid hn
  have LD := Lib.hid L
  have RD := Lib.hid h
  have OK4 := Lib.hid ok4
  have HX := Lib.hid hx
  have HLL := Lib.hid LL
  have ht7 := tagS_len tag
  have TW := tag_walk tag
  rw [show (if tag = 1 then [114, 101, 97, 100, 115] else [117, 112, 100, 97, 116, 101, 115]) = tagS tag from rfl] at TW
  have hz0 : ¬ 9223372036854775807 < (S (tagS tag)).size + 1 := by rw [S_size]; omega
  clear hn h L ok1 ok2 ok4 hx LL
  go_enter Tryz.func9, Tryz.ntmps9
  go_wp2_with (first | (go_at_call 11; refine (CW _ ((Chg.refl _ _).alloc _)).mono ?_; rintro e w1 ⟨rfl, b1⟩; have C1 := Lib.hid (((Chg.refl [] w).alloc _).trans (Chg.of_below b1)); have q0 : w1.cell? ⟨w.heap.size, 0, none⟩ = some (.int .i64 tag) := (World.cell?_of_block (b1.block _ (by simp))).trans (by simp); have q1 : w1.cell? ⟨w.heap.size, 1, none⟩ = some (.slice a n c) := (World.cell?_of_block (b1.block _ (by simp))).trans (by simp); have lt1 : w.heap.size < w1.heap.size := (by have := b1.size; simp at this; omega); clear b1) | (go_at_call 18; refine (TW _).mono ?_; rintro e w' ⟨rfl, rfl⟩) | (go_at_call 17; refine (bd_write' w1.heap.size [] (tagS tag ++ [10]) _ (S_add _ [10]) _ (bd_new w1) (by simp; omega)).mono ?_; rintro e w2 ⟨⟨k2, rfl⟩, d2, b2⟩; have D2 := Lib.hid d2; have C2 := Lib.hid (chg_bd (C1.out.alloc _) b2 (Nat.le_of_lt lt1) (by simp)); have q2 : w2.cell? ⟨w.heap.size, 1, none⟩ = some (.slice a n c) := ((World.cell?_of_block (b2.block _ lt1)).trans (World.cell?_of_block ((below_alloc w1 _).block _ lt1))).trans q1; clear d2 b2))
  obtain ⟨g, hg⟩ : ∃ g, g = w1.heap.size := ⟨_, rfl⟩
  rw [← hg] at D2 lt1
  rw [← hg]
  clear C1 q0 q1 hg
  go_loopw [21] (fun i wr => ∃ k : Nat, i = .int .i64 k ∧ k ≤ n ∧ Chg [] w wr ∧ Bd wr g (tagS tag ++ [10] ++ linesP (l.take k))) (fun i _ => n - (intOf i).toNat)
  case atStart => exact ⟨0, rfl, by omega, C2.out, by simpa [linesP] using D2.out⟩
  case round =>
    obtain ⟨k, rfl, hk, hchg, hbd⟩ := hrel
    have CH := Lib.hid hchg
    have BD := Lib.hid hbd
    clear hchg hbd D2 C2 q2
    by_cases h : k < n
    · have h' : (k : Int) < n := by omega
      have hkl : k < l.length := by have := HN.out; omega
      obtain ⟨b, off, rfl, -, c0, c1, c2⟩ := (RD.out.keep0 CH.out).at hkl
      have hx1 := HX.out l[k] (List.getElem_mem hkl)
      have hm1 := OK4.out l[k] (List.getElem_mem hkl)
      have hl1 := HLL.out l[k] (List.getElem_mem hkl)
      obtain ⟨q, hq⟩ : ∃ q, q = l[k] := ⟨_, rfl⟩
      rw [← hq] at c0 c1 c2 hx1 hm1 hl1
      have HQ := Lib.hid hq
      clear hq
      obtain ⟨op, nn, x⟩ := q
      simp only at c0 c1 c2 hx1
      have sf := run_store_float
      have hz1 : ¬ 9223372036854775807 < (S (lineS ⟨op, nn, x⟩)).size + 1 := by rw [S_size]; omega
      have TK := Lib.hid (show linesP (l.take (k + 1)) = linesP (l.take k) ++ (lineS ⟨op, nn, x⟩ ++ [10]) from by rw [List.take_add_one, List.getElem?_eq_getElem hkl, ← HQ.out]; exact linesP_snoc _ _)
      have LK : (linesP (l.take k)).length ≤ 61 * k := Nat.le_trans (lines_len (l.take k) (fun p hp => HLL.out p (List.mem_of_mem_take hp))) (by rw [List.length_take]; omega)
      have hlen : (tagS tag ++ [10] ++ linesP (l.take k)).length + (lineS ⟨op, nn, x⟩ ++ [10]).length ≤ 140737488355328 := by
        simp only [List.length_append, List.length_cons, List.length_nil]; omega
      have HM1 := Lib.hid hm1
      clear hm1
      go_wp2_with (first | (go_at_call 19; refine (line_at op nn x n _ (LD.out.below (below_of_chg (CH.out.alloc _))) hx1 HM1.out (by omega)).mono ?_; rintro e w3 ⟨rfl, b3⟩; have C3 := Lib.hid ((CH.out.alloc _).trans (Chg.of_below b3)); have D3 := Lib.hid ((BD.out.keep ((Chg.refl [] wr).alloc _)).keep (Chg.of_below b3)); clear b3) | (go_at_call 17; refine (bd_write' g _ (lineS ⟨op, nn, x⟩ ++ [10]) _ (S_add _ [10]) _ D3.out hlen).mono ?_; rintro e w4 ⟨⟨k4, rfl⟩, d4, b4⟩; have D4 := Lib.hid d4; have C4 := Lib.hid (chg_bd C3.out b4 (Nat.le_of_lt lt1) (Nat.le_of_lt D3.out.lt)); clear d4 b4))
      go_roundw
      case rel =>
        refine ⟨k + 1, by go_num, by omega, C4.out, ?_⟩
        rw [TK.out, ← List.append_assoc]
        exact D4.out
      case measure => simp [intOf]; omega
    · obtain rfl : k = n := by omega
      have h' : ¬ (k : Int) < k := by omega
      have TK := Lib.hid (show tagS tag ++ [10] ++ linesP (l.take k) = printS tag l from by rw [HN.out, List.take_length]; rfl)
      rw [TK.out] at BD
      have hne : printS tag l ≠ [] := by unfold printS; simp
      go_wp2_with (go_at_call 20; refine (Tryz.Builder_String g g (printS tag l) _ BD.out hne).mono ?_; rintro e w5 ⟨rfl, b5⟩; have C5 := Lib.hid (chg_bd CH.out b5 (Nat.le_of_lt lt1) (Nat.le_of_lt BD.out.lt)); clear b5)
      go_ret2
      exact ⟨rfl, below_of_chg C5.out⟩
end Go.Proofs.YtjlnhifleepnoaaGreatDoor
