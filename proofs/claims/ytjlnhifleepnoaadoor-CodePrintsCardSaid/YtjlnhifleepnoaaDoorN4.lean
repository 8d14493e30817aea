import Derived.Test.YtjlnhifleepnoaaDoorN2
import Derived.Test.YtjlnhifleepnoaaDoorU2
import Derived.Test.YtjlnhifleepnoaaDoorW2
import Derived.Lib.AppendStr
import Derived.Lib.SlBytesConst
set_option linter.unusedVariables false
set_option linter.unusedSimpArgs false
namespace Go.Proofs.YtjlnhifleepnoaaDoor
open Go.RowKit

theorem rows_hi : ∀ i, i < 21 → (i = 0 ∨ i = 1 ∨ i = 9 ∨ i = 10) ∨ ((lhAt ((i : Nat) : Int)).2 = 0 ↔ most ((i : Nat) : Int) = -2) := by decide +kernel

/-- The document's line. -/
theorem rline_at (op n : Int) (x : Nat) (len : Int) (hx : x < 18446744073709551616) (hm : mayS ⟨op, n, x⟩ len = true) (hlen : len ≤ 1024) (w : World) : Calls Tryd.prog 25 #[.agg #[.int .i64 op, .int .i64 n, .float .f64 x]] w fun e w' => e = .returned (.string (S (lineS ⟨op, n, x⟩))) ∧ Below w.heap.size w w' := by
  obtain ⟨i, rfl, h1, h2, h3, ha, hb, hc, hd⟩ := may_parts hm
  by_cases e1 : i = 1
  · subst e1
    exact rline_push n x hx w
  by_cases e9 : i = 9
  · subst e9
    have hn := hc (.inl rfl)
    rw [show most (((9 : Nat) : Int)) = 8 by decide] at hn
    obtain ⟨k, rfl⟩ : ∃ k : Nat, n = (k : Int) := ⟨n.toNat, by omega⟩
    exact rline_ones k x (by omega) w
  by_cases e10 : i = 10
  · subst e10
    have hn := hc (.inr rfl)
    rw [show most (((10 : Nat) : Int)) = 12 by decide] at hn
    obtain ⟨k, rfl⟩ : ∃ k : Nat, n = (k : Int) := ⟨n.toNat, by omega⟩
    exact rline_twos k x (by omega) w
  have hhi : (lhAt (i : Int)).2 = 0 ↔ most (i : Int) = -2 := by
    rcases rows_hi i (by omega) with h | h
    · omega
    · exact h
  by_cases em : most (i : Int) = -2
  · have hl : lineS ⟨(i : Int), n, x⟩ = (rowAt (i : Int)).1 := by
      unfold lineS
      simp only
      rw [if_neg (by omega), if_neg (by omega), if_neg (by omega), if_pos em]
    rw [hl]
    exact rline_bare i n x (by omega) e1 e9 e10 (hhi.2 em) w
  · have hn : 0 ≤ n ∧ n < 1024 := by
      by_cases e : most (i : Int) = -1
      · have := hb e; omega
      · have := hd em e
        have := rows_most i (by omega)
        omega
    obtain ⟨k, rfl⟩ : ∃ k : Nat, n = (k : Int) := ⟨n.toNat, by omega⟩
    have hl : lineS ⟨(i : Int), k, x⟩ = (rowAt (i : Int)).1 ++ [32] ++ Lib.decDigits k := by
      unfold lineS
      simp only
      rw [if_neg (by omega), if_neg (by omega), if_neg (by omega), if_neg em]
      unfold Lib.itoa
      rw [if_neg (by omega)]
      simp
    rw [hl]
    exact rline_num i k x (by omega) e1 e9 e10 (fun e => em (hhi.1 e)) (by omega) w

/-- v owns, from block B on, a row of these bytes. -/
def OwnB (w : World) (B : Nat) (v : Value) (l : List UInt8) : Prop := w.ownsRow B 5 1 v l.length (Lib.byteCells l)
theorem OwnB.keep0 {w w' : World} {B : Nat} {v : Value} {l : List UInt8} (h : OwnB w B v l) (c : Chg [] w w') : OwnB w' B v l := by
  refine ⟨h.1, ?_⟩
  rcases h.2 with h1 | ⟨g, cap, cur, h1, hB, hg, hn⟩
  · exact .inl h1
  · exact .inr ⟨g, cap, cur, h1, hB, (c.block g (lt_of_heap hg) (by simp)).trans hg, hn⟩
theorem OwnB.blk {w : World} {B : Nat} {v : Value} {l : List UInt8} (h : OwnB w B v l) : ∀ k, v.ownBlock = some k → B ≤ k ∧ k < w.heap.size := fun k hk => ⟨(World.ownsRow.lt h k hk).1, (World.ownsRow.lt h k hk).2⟩
theorem byteCells_app (a b : List UInt8) : Lib.byteCells (a ++ b) = Lib.byteCells a ++ Lib.byteCells b := by simp [Lib.byteCells]
theorem strCells_S (l : List UInt8) : Lib.strCells (S l) = Lib.byteCells l := by simp [Lib.strCells, S, Lib.byteCells]
/-- Owned, or a full row of constants that can be read. -/
def OwnG (w : World) (B : Nat) (v : Value) (l : List UInt8) : Prop := OwnB w B v l ∨ ∃ g, v = .slice (some ⟨g, 0, none⟩) l.length l.length ∧ B ≤ g ∧ g < w.heap.size ∧ ∀ j u, (Lib.byteCells l)[j]? = some u → w.cell? ⟨g, j, none⟩ = some u
theorem OwnG.keep0 {w w' : World} {B : Nat} {v : Value} {l : List UInt8} (h : OwnG w B v l) (c : Chg [] w w') : OwnG w' B v l := by
  rcases h with h | ⟨g, e, hB, hg, hc⟩
  · exact .inl (h.keep0 c)
  · exact .inr ⟨g, e, hB, Nat.lt_of_lt_of_le hg c.size, fun j u hj => (World.cell?_of_block (w := w) (c.block g hg (by simp))).trans (hc j u hj)⟩
theorem OwnG.blk {w : World} {B : Nat} {v : Value} {l : List UInt8} (h : OwnG w B v l) : ∀ k, v.ownBlock = some k → B ≤ k := by
  intro k hk
  rcases h with h | ⟨g, e, hB, hg, hc⟩
  · exact (h.blk k hk).1
  · subst e
    have : some g = some k := hk
    cases this
    exact hB
theorem OwnG.read {w : World} {B : Nat} {v : Value} {l : List UInt8} (h : OwnG w B v l) (hl : 0 < l.length) : ∃ g cap, v = .slice (some ⟨g, 0, none⟩) l.length cap ∧ ∀ j u, (Lib.byteCells l)[j]? = some u → w.cell? ⟨g, j, none⟩ = some u := by
  rcases h with h | ⟨g, e, hB, hg, hc⟩
  · obtain ⟨g, cap, e, _⟩ := World.ownsRow.form h hl
    subst e
    refine ⟨g, cap, rfl, fun j u hj => ?_⟩
    have hj' : j < l.length := by
      have := (List.getElem?_eq_some_iff.1 hj).1
      simpa [Lib.byteCells] using this
    rw [World.ownsRow.cellAt h j (by omega)]
    exact hj
  · exact ⟨g, l.length, e, hc⟩
theorem ownG_text {w : World} {g n cap : Nat} {l : List UInt8} (hc : ∀ j u, (Lib.byteCells l)[j]? = some u → w.cell? ⟨g, j, none⟩ = some u) (hn : n = l.length) : (convert 51 9 (.slice (some ⟨g, 0, none⟩) n cap)).run Tryd.prog w = .ok (.string (S l)) w := by
  subst hn
  refine run_convert_bytes_back w 51 9 5 ⟨g, 0, none⟩ cap l Tryd.underlying51 Tryd.underlying5 Tryd.underlying9 fun j hj => ?_
  have e : (⟨g, 0, none⟩ : Addr).add j = ⟨g, j, none⟩ := by rw [Addr.add_lit, Nat.zero_add]
  rw [e]
  exact hc j _ (by simp [Lib.byteCells, List.getElem?_eq_getElem hj])
theorem OwnB.str {w : World} {B : Nat} {v : Value} {l m : List UInt8} (h : w.ownsRow B 5 1 v (l.length + (S m).size) (Lib.byteCells l ++ Lib.strCells (S m))) : OwnB w B v (l ++ m) := by
  unfold OwnB
  rw [List.length_append, byteCells_app, ← strCells_S, ← S_size m]
  exact h

/-- append(v, m...) for a text m that is not empty. -/
theorem append_text (ty : TypeId) {w : World} {B : Nat} {v : Value} {l m : List UInt8} (h : OwnG w B v l) (hm : 0 < m.length) (hlen : l.length + m.length ≤ 1000000) (hB : B ≤ w.heap.size) :
    ∃ v' w', (Builtin.append_ #[51, 9] ty #[v, .string (S m)]).run Tryd.prog w = .ok v' w' ∧ OwnB w' B v' (l ++ m) ∧ w.grownBy w' v.ownBlock := by
  obtain ⟨i0, hi, hz0, hz1, hz2⟩ := info_parts info5
  have hs := S_size m
  rcases h with h | ⟨g, e, hBg, hg, hc⟩
  · obtain ⟨v', w', hr, h2, h3, _⟩ := Lib.run_append_own_string w B 51 9 ty 5 i0 Tryd.underlying51 Tryd.underlying9 hi hz0 hz1 hz2 v l.length (Lib.byteCells l) h (S m) (by unfold maxLen; omega) (by omega) hB
    exact ⟨v', w', hr, OwnB.str h2, h3⟩
  · subst e
    have holds : ∀ j u, (Lib.byteCells l)[j]? = some u → w.cell? ((⟨g, 0, none⟩ : Addr).add j) = some u := fun j u hj => by
      rw [Addr.add_lit, Nat.zero_add]; exact hc j u hj
    have hbl : (Lib.byteCells l).length = l.length := by simp [Lib.byteCells]
    have hr := Lib.run_append_grow_string (P := Tryd.prog) w 51 9 ty 5 i0 (.int .u8 0) Tryd.underlying51 Tryd.underlying9 hi hz0 ⟨g, 0, none⟩ l.length l.length (Lib.byteCells l) (by rw [hz1, hbl]; omega) holds (S m) (by omega) (by omega) (by rw [hz2]; exact growslice_fits (by omega) (by omega))
    have hge := grownCap_ge w (l.length + (S m).size) l.length 5
    have hcm := grownCap_le_maxLen w (l.length + (S m).size) l.length 5 (by unfold maxLen; omega)
    have hlen2 : (Lib.byteCells l ++ Lib.strCells (S m)).length = (l.length + (S m).size) * 1 := by rw [List.length_append, hbl, Lib.strCells_length]; omega
    refine ⟨_, _, hr, OwnB.str ⟨hlen2, .inr ⟨w.heap.size, _, _, rfl, hB, heap_alloc_new w.drew _, hge, hcm, ?_, ?_⟩⟩, ⟨rfl, rfl, rfl, by simp, fun k hk _ => Below.heap_alloc w.drew _ k hk⟩⟩
    · have hz : (Value.int IntKind.u8 0).cells.size = 1 := rfl
      simp only [Array.size_append, List.size_toArray, size_zeroCells, hz, hbl, Lib.strCells_length]
      omega
    · simp only [Array.toList_append, List.append_assoc]
      rw [← List.append_assoc, ← hlen2]
      exact List.take_left
theorem wpList_append_text {w : World} {ops : Array Oper} {rest : List Oper} {o : Oper} {a : Act} {Q : Exit → Act → World → Prop} (hgd : o.guard = none) (sl x : Operand)
    (ho : o.op = .call { callee := .builtin .append, args := #[sl, x], argTypes := #[51, 9] }) (B : Nat) (v : Value) (l m : List UInt8) (hs : a.eval sl = v) (hx : a.eval x = .string (S m))
    (h0 : OwnG w B v l) (hm : 0 < m.length) (hlen : l.length + m.length ≤ 1000000) (hB : B ≤ w.heap.size)
    (h : ∀ v' w', OwnB w' B v' (l ++ m) → w.grownBy w' v.ownBlock → wpList Tryd.prog ops Q rest (a.put o.dst v') w') : wpList Tryd.prog ops Q (o :: rest) a w := by
  refine wpList_plain hgd fun K hK => ?_
  obtain ⟨v', w', hr, h2, h3⟩ := append_text o.type h0 hm hlen hB
  unfold Oper.wp execOp
  simp only [ho, resolve, invoke, builtin, Sem.run_bind, Sem.run_pure, Result.andThen_ok, List.map_toArray, List.map_cons, List.map_nil, hs, hx, hr]
  exact hK _ _ (h v' w' h2 h3)
/-- A literal's row, marked. -/
theorem ownG_lit {w : World} {B : Nat} (hB : B ≤ w.heap.size) (l : List UInt8) (f : Nat × Nat) : OwnG (w.alloc (.cells (Lib.byteCells l).toArray 5 f)) B (.slice (some ⟨w.heap.size, 0, none⟩) l.length l.length) l :=
  .inr ⟨w.heap.size, rfl, hB, by simp, fun j u hj => by
    rw [cell_of_row _ _ _ _ _ _ (heap_alloc_new w (.cells (Lib.byteCells l).toArray 5 f))]
    simpa using hj⟩

theorem instr_empty : isIns (instrS []) 0 0 = false ∧ (instrS []).isNone = true := by decide +kernel
theorem line_pos (p : Ins) (len : Int) (hx : p.x < 18446744073709551616) (hm : mayS p len = true) (hlen : len ≤ 1024) : 0 < (lineS p).length := by
  obtain ⟨q, hq, _⟩ := instr_line p len hx hm hlen
  refine List.length_pos_iff.2 fun e => ?_
  rw [e] at hq
  have := instr_empty.2
  rw [hq] at this
  cases this

set_option maxRecDepth 100000 in
set_option maxHeartbeats 4000000 in
/-- The document's Print. -/
theorem dprint_walk (tag : Int) (v : Value) (l : List Ins) (w : World) (h : RdC w v l) (hx : ∀ p ∈ l, p.x < 18446744073709551616) : Calls Tryd.prog 12 #[.agg #[.int .i64 tag, v]] w fun e w' => e = .returned (.tuple #[.string (S (if okP tag l then printS tag l else [])), .int .i64 (checkS tag l)]) ∧ Below w.heap.size w w' := by
  obtain ⟨a, c, rfl⟩ := h.slice
  have CW : ∀ W, Chg [] w W → Calls Tryd.prog 16 #[.agg #[.int .i64 tag, .slice a l.length c]] W fun e w' => e = .returned (.int .i64 (checkS tag l)) ∧ Below W.heap.size W w' := fun W c => rcheck_walk tag _ l W (h.keep0 c)
  by_cases hok : okP tag l
  case neg =>
    have e : checkS tag l = 50 := by unfold checkS; rw [if_neg hok]
    rw [e] at CW ⊢
    rw [if_neg hok]
    clear h hok hx e
    generalize l.length = n at *
    go_enter Tryd.func12, Tryd.ntmps12
    go_wp2_with (go_at_call 16; refine (CW _ ((Chg.refl _ _).alloc _)).mono ?_; rintro e w1 ⟨rfl, b1⟩; have C1 := Lib.hid (((Chg.refl [] w).alloc _).trans (Chg.of_below b1)); clear b1)
    go_ret2
    exact ⟨rfl, below_of_chg C1.out⟩
  have e : checkS tag l = 0 := by unfold checkS; rw [if_pos hok]
  rw [e] at CW ⊢
  rw [if_pos hok]
  clear e
  obtain ⟨ok1, ok2, ok3, ok4⟩ := hok
  have LL : ∀ p ∈ l, (lineS p).length ≤ 60 := fun p hp => line_len p l.length (hx p hp) (ok4 p hp) (by omega)
  obtain ⟨n, hn⟩ : ∃ n, n = l.length := ⟨_, rfl⟩
  rw [← hn] at h CW ok2 ok3 ok4
  have HN := Lib.hid hn
  have RD := Lib.hid h
  have OK4 := Lib.hid ok4
  have HX := Lib.hid hx
  have HLL := Lib.hid LL
  obtain ⟨i0, hi0, hz0, hz1, hz2⟩ := info_parts info5
  have I0 := Lib.hid hi0
  have hn24 : n ≤ 1024 := ok3
  rw [← hn]
  clear hn h ok2 ok3 ok4 hx LL hi0
  obtain ⟨T, hT⟩ : ∃ T, T = tagS tag ++ [10] := ⟨_, rfl⟩
  have hTl : T.length ≤ 8 := by rw [hT]; have := tagS_len tag; simp; omega
  have hT0 : 0 < T.length := by rw [hT]; simp
  have hres : printS tag l = T ++ linesP (l.take n) := by rw [HN.out, List.take_length, hT]; rfl
  have HRES := Lib.hid hres
  rcases ok1 with rfl | rfl
  · have NB : ∀ (W : World) (f : Nat × Nat), w.heap.size ≤ W.heap.size → OwnG (W.alloc (.cells #[.int .u8 114, .int .u8 101, .int .u8 97, .int .u8 100, .int .u8 115, .int .u8 10] 5 f)) w.heap.size (.slice (some ⟨W.heap.size, 0, none⟩) 6 6) T := fun W f hW => by
      rw [hT]
      exact ownG_lit hW [114, 101, 97, 100, 115, 10] f
    have cv := fun W : World => Lib.run_convert_bytes_const (P := Tryd.prog) W 51 5 #[.int .u8 114, .int .u8 101, .int .u8 97, .int .u8 100, .int .u8 115, .int .u8 10] 6 6 Tryd.underlying51 Tryd.underlying5
    clear hT hres
    go_enter Tryd.func12, Tryd.ntmps12
    go_wp2_with (go_at_call 16; refine (CW _ ((Chg.refl _ _).alloc _)).mono ?_; rintro e w1 ⟨rfl, b1⟩; have C1 := Lib.hid (((Chg.refl [] w).alloc _).trans (Chg.of_below b1)); have Z1 := Lib.hid (zrow (Chg.of_below (S := []) b1) (heap_alloc_new w (.cells #[.int .i64 1, .slice a n c] 29))); obtain ⟨xp0, xp1, xp2, xp3⟩ := row2 Z1.out; clear b1)
    go_loopw [4, 20] (fun bv i wr => ∃ k : Nat, i = .int .i64 k ∧ k ≤ n ∧ Chg [] w wr ∧ OwnG wr w.heap.size bv (T ++ linesP (l.take k)) ∧ (T ++ linesP (l.take k)).length ≤ 8 + 61 * k) (fun _ i _ => n - (intOf i).toNat)
    case atStart => exact ⟨0, rfl, by omega, C1.out.alloc _, by simpa [linesP] using NB w1 _ C1.out.size, by simp [linesP]; omega⟩
    case round =>
      obtain ⟨k, rfl, hk, hchg, hown, hbl⟩ := hrel
      have CH := Lib.hid hchg
      have OW := Lib.hid hown
      clear hchg hown
      by_cases h : k < n
      · have h' : (k : Int) < n := by omega
        have hkl : k < l.length := by have := HN.out; omega
        obtain ⟨b, off, rfl, -, c0, c1, c2⟩ := (RD.out.keep0 CH.out).at hkl
        obtain ⟨q, hq⟩ : ∃ q, q = l[k] := ⟨_, rfl⟩
        rw [← hq] at c0 c1 c2
        have hm : mayS q n = true := by rw [hq]; exact OK4.out _ (List.getElem_mem hkl)
        have hqx : q.x < 18446744073709551616 := by rw [hq]; exact HX.out _ (List.getElem_mem hkl)
        have hll : (lineS q).length ≤ 60 := by rw [hq]; exact HLL.out _ (List.getElem_mem hkl)
        have NXT := Lib.hid (show T ++ linesP (l.take (k + 1)) = T ++ linesP (l.take k) ++ lineS q ++ [10] from by
          rw [List.take_add_one, List.getElem?_eq_getElem hkl, ← hq]
          simp [linesP_snoc])
        clear hq
        obtain ⟨op, nn, x⟩ := q
        simp only at c0 c1 c2
        obtain ⟨ln, hln⟩ : ∃ ln, ln = lineS ⟨op, nn, x⟩ := ⟨_, rfl⟩
        have hlp : 0 < ln.length := by rw [hln]; exact line_pos _ n hqx hm (by omega)
        rw [← hln] at hll NXT
        have RL : ∀ W, Calls Tryd.prog 25 #[.agg #[.int .i64 op, .int .i64 nn, .float .f64 x]] W fun e w' => e = .returned (.string (S ln)) ∧ Below W.heap.size W w' := fun W => hln ▸ rline_at op nn x n hqx hm (by omega) W
        obtain ⟨bs, hbs⟩ : ∃ bs, bs = T ++ linesP (l.take k) := ⟨_, rfl⟩
        rw [← hbs] at OW hbl NXT
        have sf := run_store_float
        clear hm hqx hln hbs
        go_wp2_with (first
          | (go_at_call 25; refine (RL _).mono ?_; rintro e w3 ⟨rfl, b3⟩; have C3 := Lib.hid ((CH.out.alloc _).trans (Chg.of_below b3)); have O3 := Lib.hid ((OW.out.keep0 ((Chg.refl [] _).alloc _)).keep0 (Chg.of_below b3)); clear b3)
          | (refine wpList_append_text rfl _ _ rfl w.heap.size _ bs ln rfl rfl O3.out hlp (by omega) C3.out.size ?_
             intro v4 w4 o4 g4
             have O4 := Lib.hid o4
             have C4 := Lib.hid (C3.out.grown g4 fun j hj => .inr (O3.out.blk j hj))
             clear o4 g4)
          | (refine wpList_append_own _ rfl _ _ 51 rfl w.heap.size 5 i0 _ 1 1 Tryd.underlying51 I0.out hz0 hz1 hz2 rfl (by decide) _ _ _ rfl (O4.out.keep0 ((Chg.refl [] _).alloc _)) _ 1 1 [.int .u8 10] rfl rfl (World.news_of_block (heap_alloc_new _ _)) (by simp [Value.oneCell']) (by simp; unfold maxLen; omega) (by simp; omega) (by have := C4.out.size; simp; omega) ?_
             intro v5 w5 o5 g5 _
             have O5 := Lib.hid (show OwnB w5 w.heap.size v5 (bs ++ ln ++ [10]) from by unfold OwnB; rw [List.length_append, byteCells_app]; exact o5)
             have C5 := Lib.hid ((C4.out.alloc _).grown g5 fun j hj => .inr (O4.out.blk j hj).1)
             clear o5 g5))
        go_roundw
        case rel => exact ⟨k + 1, by go_num, by omega, C5.out, by rw [NXT.out]; exact .inl O5.out, by rw [NXT.out]; simp; omega⟩
        case measure => simp [intOf]; omega
      · obtain rfl : k = n := by omega
        have h' : ¬ (k : Int) < k := by omega
        obtain ⟨g, cap, rfl, hrd⟩ := OW.out.read (by simp; omega)
        obtain ⟨m, hm⟩ : ∃ m, m = (T ++ linesP (l.take k)).length := ⟨_, rfl⟩
        obtain ⟨R, hR⟩ : ∃ R, R = printS 1 l := ⟨_, rfl⟩
        have ct : (convert 51 9 (.slice (some ⟨g, 0, none⟩) m cap)).run Tryd.prog wr = .ok (.string (S R)) wr := by rw [hR, HRES.out]; exact ownG_text hrd hm
        rw [← hm]
        have HR := Lib.hid hR
        clear hR
        clear hrd hm
        go_wp2
        go_ret2
        exact ⟨congrArg (fun z => Ending.returned (Value.tuple #[.string (S z), .int .i64 0])) HR.out, below_of_chg CH.out⟩
  · have NB : ∀ (W : World) (f : Nat × Nat), w.heap.size ≤ W.heap.size → OwnG (W.alloc (.cells #[.int .u8 117, .int .u8 112, .int .u8 100, .int .u8 97, .int .u8 116, .int .u8 101, .int .u8 115, .int .u8 10] 5 f)) w.heap.size (.slice (some ⟨W.heap.size, 0, none⟩) 8 8) T := fun W f hW => by
      rw [hT]
      exact ownG_lit hW [117, 112, 100, 97, 116, 101, 115, 10] f
    have cv := fun W : World => Lib.run_convert_bytes_const (P := Tryd.prog) W 51 5 #[.int .u8 114, .int .u8 101, .int .u8 97, .int .u8 100, .int .u8 115, .int .u8 10] 6 6 Tryd.underlying51 Tryd.underlying5
    have cv2 : ∀ (W : World) (o : Obj), (convert 51 51 (.slice (some ⟨W.heap.size + 1, 0, none⟩) 8 8)).run Tryd.prog ((W.alloc o).alloc (.cells #[.int .u8 117, .int .u8 112, .int .u8 100, .int .u8 97, .int .u8 116, .int .u8 101, .int .u8 115, .int .u8 10] 5)) = .ok (.slice (some ⟨W.heap.size + 1, 0, none⟩) 8 8) ((W.alloc o).alloc (.cells #[.int .u8 117, .int .u8 112, .int .u8 100, .int .u8 97, .int .u8 116, .int .u8 101, .int .u8 115, .int .u8 10] 5 (8, 9))) := fun W o => by
      have h := Lib.run_convert_bytes_const (P := Tryd.prog) (W.alloc o) 51 5 #[.int .u8 117, .int .u8 112, .int .u8 100, .int .u8 97, .int .u8 116, .int .u8 101, .int .u8 115, .int .u8 10] 8 8 Tryd.underlying51 Tryd.underlying5
      rw [show (W.alloc o).heap.size = W.heap.size + 1 by simp] at h
      exact h
    clear hT hres
    go_enter Tryd.func12, Tryd.ntmps12
    go_wp2_with (go_at_call 16; refine (CW _ ((Chg.refl _ _).alloc _)).mono ?_; rintro e w1 ⟨rfl, b1⟩; have C1 := Lib.hid (((Chg.refl [] w).alloc _).trans (Chg.of_below b1)); have Z1 := Lib.hid (zrow (Chg.of_below (S := []) b1) (heap_alloc_new w (.cells #[.int .i64 2, .slice a n c] 29))); obtain ⟨xp0, xp1, xp2, xp3⟩ := row2 Z1.out; have xp4 := fun o o2 : Obj => (World.cell?_alloc_some _ _ o2 (by rw [xp3 o]; rfl)).trans (xp3 o); clear b1)
    go_loopw [4, 20] (fun bv i wr => ∃ k : Nat, i = .int .i64 k ∧ k ≤ n ∧ Chg [] w wr ∧ OwnG wr w.heap.size bv (T ++ linesP (l.take k)) ∧ (T ++ linesP (l.take k)).length ≤ 8 + 61 * k) (fun _ i _ => n - (intOf i).toNat)
    case atStart => exact ⟨0, rfl, by omega, (C1.out.alloc _).alloc _, by simpa [linesP] using NB (w1.alloc _) _ (by have := C1.out.size; simp; omega), by simp [linesP]; omega⟩
    case round =>
      obtain ⟨k, rfl, hk, hchg, hown, hbl⟩ := hrel
      have CH := Lib.hid hchg
      have OW := Lib.hid hown
      clear hchg hown
      by_cases h : k < n
      · have h' : (k : Int) < n := by omega
        have hkl : k < l.length := by have := HN.out; omega
        obtain ⟨b, off, rfl, -, c0, c1, c2⟩ := (RD.out.keep0 CH.out).at hkl
        obtain ⟨q, hq⟩ : ∃ q, q = l[k] := ⟨_, rfl⟩
        rw [← hq] at c0 c1 c2
        have hm : mayS q n = true := by rw [hq]; exact OK4.out _ (List.getElem_mem hkl)
        have hqx : q.x < 18446744073709551616 := by rw [hq]; exact HX.out _ (List.getElem_mem hkl)
        have hll : (lineS q).length ≤ 60 := by rw [hq]; exact HLL.out _ (List.getElem_mem hkl)
        have NXT := Lib.hid (show T ++ linesP (l.take (k + 1)) = T ++ linesP (l.take k) ++ lineS q ++ [10] from by
          rw [List.take_add_one, List.getElem?_eq_getElem hkl, ← hq]
          simp [linesP_snoc])
        clear hq
        obtain ⟨op, nn, x⟩ := q
        simp only at c0 c1 c2
        obtain ⟨ln, hln⟩ : ∃ ln, ln = lineS ⟨op, nn, x⟩ := ⟨_, rfl⟩
        have hlp : 0 < ln.length := by rw [hln]; exact line_pos _ n hqx hm (by omega)
        rw [← hln] at hll NXT
        have RL : ∀ W, Calls Tryd.prog 25 #[.agg #[.int .i64 op, .int .i64 nn, .float .f64 x]] W fun e w' => e = .returned (.string (S ln)) ∧ Below W.heap.size W w' := fun W => hln ▸ rline_at op nn x n hqx hm (by omega) W
        obtain ⟨bs, hbs⟩ : ∃ bs, bs = T ++ linesP (l.take k) := ⟨_, rfl⟩
        rw [← hbs] at OW hbl NXT
        have sf := run_store_float
        clear hm hqx hln hbs
        go_wp2_with (first
          | (go_at_call 25; refine (RL _).mono ?_; rintro e w3 ⟨rfl, b3⟩; have C3 := Lib.hid ((CH.out.alloc _).trans (Chg.of_below b3)); have O3 := Lib.hid ((OW.out.keep0 ((Chg.refl [] _).alloc _)).keep0 (Chg.of_below b3)); clear b3)
          | (refine wpList_append_text rfl _ _ rfl w.heap.size _ bs ln rfl rfl O3.out hlp (by omega) C3.out.size ?_
             intro v4 w4 o4 g4
             have O4 := Lib.hid o4
             have C4 := Lib.hid (C3.out.grown g4 fun j hj => .inr (O3.out.blk j hj))
             clear o4 g4)
          | (refine wpList_append_own _ rfl _ _ 51 rfl w.heap.size 5 i0 _ 1 1 Tryd.underlying51 I0.out hz0 hz1 hz2 rfl (by decide) _ _ _ rfl (O4.out.keep0 ((Chg.refl [] _).alloc _)) _ 1 1 [.int .u8 10] rfl rfl (World.news_of_block (heap_alloc_new _ _)) (by simp [Value.oneCell']) (by simp; unfold maxLen; omega) (by simp; omega) (by have := C4.out.size; simp; omega) ?_
             intro v5 w5 o5 g5 _
             have O5 := Lib.hid (show OwnB w5 w.heap.size v5 (bs ++ ln ++ [10]) from by unfold OwnB; rw [List.length_append, byteCells_app]; exact o5)
             have C5 := Lib.hid ((C4.out.alloc _).grown g5 fun j hj => .inr (O4.out.blk j hj).1)
             clear o5 g5))
        go_roundw
        case rel => exact ⟨k + 1, by go_num, by omega, C5.out, by rw [NXT.out]; exact .inl O5.out, by rw [NXT.out]; simp; omega⟩
        case measure => simp [intOf]; omega
      · obtain rfl : k = n := by omega
        have h' : ¬ (k : Int) < k := by omega
        obtain ⟨g, cap, rfl, hrd⟩ := OW.out.read (by simp; omega)
        obtain ⟨m, hm⟩ : ∃ m, m = (T ++ linesP (l.take k)).length := ⟨_, rfl⟩
        obtain ⟨R, hR⟩ : ∃ R, R = printS 2 l := ⟨_, rfl⟩
        have ct : (convert 51 9 (.slice (some ⟨g, 0, none⟩) m cap)).run Tryd.prog wr = .ok (.string (S R)) wr := by rw [hR, HRES.out]; exact ownG_text hrd hm
        rw [← hm]
        have HR := Lib.hid hR
        clear hR
        clear hrd hm
        go_wp2
        go_ret2
        exact ⟨congrArg (fun z => Ending.returned (Value.tuple #[.string (S z), .int .i64 0])) HR.out, below_of_chg CH.out⟩
end Go.Proofs.YtjlnhifleepnoaaDoor
