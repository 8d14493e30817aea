import Derived.Test.YtldhlkkclmifmaaA7
set_option linter.unusedVariables false
set_option linter.unusedSimpArgs false
namespace Go.Proofs.Ytldhlkkclmifmaa
open Go.RowKit

def FoldPost (w : World) (l : List Int) (e : Ending) (w' : World) : Prop := ∃ v, e = .returned (.tuple #[v, .int .i64 0]) ∧ OwnI w' w.heap.size v l ∧ Chg [] w w'
def partI (f : Int → Int) (l : List Int) (k : Nat) : List Int := (l.take k).map f ++ List.replicate (l.length - k) 0
theorem partI_len (f : Int → Int) (l : List Int) (k : Nat) (h : k ≤ l.length) : (partI f l k).length = l.length := by simp [partI]; omega
theorem partI_zero (f : Int → Int) (l : List Int) : partI f l 0 = List.replicate l.length 0 := by simp [partI]
theorem partI_all (f : Int → Int) (l : List Int) : partI f l l.length = l.map f := by simp [partI]
theorem partI_set (f : Int → Int) (l : List Int) (k : Nat) (x : Int) (h : k < l.length) (hx : l.getD k 0 = x) : (partI f l k).set k (f x) = partI f l (k + 1) := by
  subst hx
  apply List.ext_getElem
  · simp [partI]; omega
  · intro i h1 h2
    simp only [partI, List.getElem_set, List.getElem_append, List.getElem_map, List.getElem_take, List.getElem_replicate, List.length_map, List.length_take]
    simp only [List.getD, List.getElem?_eq_getElem h, Option.getD_some]
    repeat' split
    all_goals first | (subst_vars; rfl) | omega | (simp_all; done) | skip
    all_goals (subst_vars; simp_all; try omega)

set_option maxHeartbeats 400000 in
theorem fold_bad (w : World) (v : Value) (t : Int) (h : t < 1 ∨ 8 < t) :
    Calls Try.prog 14 #[v, .int .i64 t] w fun e w' => e = .returned (.tuple #[.slice none 0 0, .int .i64 1]) ∧ w = w' := by
  by_cases h0 : t < 1
  · go_enter Try.func14, Try.ntmps14
    go_wp2
    go_ret2
    exact ⟨rfl, rfl⟩
  · have h1 : 8 < t := by omega
    clear h
    go_enter Try.func14, Try.ntmps14
    go_wp2
    go_ret2
    exact ⟨rfl, rfl⟩

set_option maxHeartbeats 400000 in
theorem fold_long (w : World) (a : Option Addr) (n c : Nat) (t : Int) (h1 : 1 ≤ t) (h8 : t ≤ 8) (h : 65536 < n) (hn : n ≤ 9223372036854775807) :
    Calls Try.prog 14 #[.slice a n c, .int .i64 t] w fun e w' => e = .returned (.tuple #[.slice none 0 0, .int .i64 2]) ∧ w = w' := by
  go_enter Try.func14, Try.ntmps14
  go_wp2
  go_ret2
  exact ⟨rfl, rfl⟩

theorem madeInts (n : Nat) : (madeCells #[Value.int .i64 0] n).toList = (List.replicate n (0 : Int)).map (Value.int .i64) := by
  rw [toList_madeCells_one]; simp

set_option maxHeartbeats 800000 in
theorem fold_any (w : World) (v : Value) (l : List Int) (t : Int) (h : RdI w v l) (h1 : 1 ≤ t) (h8 : t ≤ 8) (hn : l.length ≤ 65536) (hr : ∀ x ∈ l, -9223372036854775808 ≤ x ∧ x ≤ 9223372036854775807) :
    Calls Try.prog 14 #[v, .int .i64 t] w (FoldPost w (l.map (foldI t))) := by
  obtain ⟨i0, hi, hz0, hz1, hz2⟩ := info_parts info3
  have HI := Lib.hid hi; clear hi
  have HZ0 := Lib.hid hz0; clear hz0
  have HZ1 := Lib.hid hz1; clear hz1
  have HZ2 := Lib.hid hz2; clear hz2
  have H := Lib.hid h
  have HR := Lib.hid hr; clear hr
  obtain ⟨a, c, rfl⟩ := h.slice
  clear h
  go_enter Try.func14, Try.ntmps14
  go_wp2_with (at_make; refine wpList_make_full _ rfl _ _ 26 rfl w.heap.size 3 i0 (.int .i64 0) 1 under26 HI.out HZ0.out HZ1.out _ _ _ _ l.length rfl rfl rfl rfl ?c1 ?c2 ?c3 ?_)
  case c1 => rw [HZ2.out]; omega
  case c2 => unfold maxLen; omega
  case c3 => exact Nat.le_refl _
  intro w1 hown hgr
  rw [madeInts] at hown
  have hown1 : OwnI w1 w.heap.size (.slice (some ⟨w.heap.size, 0, none⟩) l.length l.length) (partI (foldI t) l 0) := by rw [partI_zero]; simpa [OwnI] using hown
  have hchg : Chg [] w w1 := (Chg.refl _ _).grown hgr (by simp)
  have OWN := Lib.hid hown1; clear hown hown1 hgr
  have CHG := Lib.hid hchg; clear hchg
  go_wp2
  go_loopw [23] (fun i wr => ∃ k : Nat, k ≤ l.length ∧ i = .int .i64 k ∧ OwnI wr w.heap.size (.slice (some ⟨w.heap.size, 0, none⟩) l.length l.length) (partI (foldI t) l k) ∧ Chg [] w wr) (fun i _ => l.length - (intOf i).toNat)
  case atStart => exact ⟨0, Nat.zero_le _, rfl, OWN.out, CHG.out⟩
  case round =>
    obtain ⟨k, hk, rfl, hown, hchg⟩ := hrel
    by_cases hkn : k < l.length
    · obtain ⟨b, off, c', e, hb, hc⟩ := (H.out.keep0 hchg).blk (by omega)
      simp only [Value.slice.injEq, true_and] at e
      obtain ⟨rfl, rfl⟩ := e
      obtain ⟨x, X, g1⟩ : ∃ x, Hid (l.getD k 0 = x) ∧ wr.cell? ⟨b, off + k, none⟩ = some (.int .i64 x) := ⟨_, rfl, hc k hkn⟩
      have hx : -9223372036854775808 ≤ x ∧ x ≤ 9223372036854775807 := by
        rw [← X.out, List.getD, List.getElem?_eq_getElem hkn]; exact HR.out _ (List.getElem_mem hkn)
      obtain ⟨hx1, hx2⟩ := hx
      have hf := hown.facts
      have g2 := hf.2.2.1 k (by rw [partI_len _ _ _ hk]; exact hkn)
      have g3 := hf.2.2.2 k
      clear hf hc hb
      have OW : Hid (OwnI (wr.setCell ⟨w.heap.size, k, none⟩ (.int .i64 (foldI t x))) w.heap.size (.slice (some ⟨w.heap.size, 0, none⟩) l.length l.length) (partI (foldI t) l (k + 1))) := by
        have := hown.set k (foldI t x)
        rwa [partI_set _ _ _ _ hkn X.out] at this
      have CH : Hid (Chg [] w (wr.setCell ⟨w.heap.size, k, none⟩ (.int .i64 (foldI t x)))) := hchg.setCell (by simp) _
      clear hown hchg
      have m1 := Int.tmod_lt_of_pos x (show 0 < t by omega)
      have m2 := Int.lt_tmod_of_pos x (show 0 < t by omega)
      go_wp2
      go_roundw
      case rel => exact ⟨k + 1, by omega, by go_num, OW.out, CH.out⟩
      case measure => simp [intOf]; omega
    · have e : k = l.length := by omega
      subst e
      have OW := Lib.hid hown; clear hown
      have CH := Lib.hid hchg; clear hchg
      go_wp2
      go_ret2
      exact ⟨_, rfl, by rw [← partI_all]; exact OW.out, CH.out⟩

/-! the document's Fold -/
set_option maxHeartbeats 400000 in
theorem rfold_bad (w : World) (v : Value) (t : Int) (h : t < 1 ∨ 8 < t) :
    Calls Try.prog 15 #[v, .int .i64 t] w fun e w' => e = .returned (.tuple #[.slice none 0 0, .int .i64 1]) ∧ w = w' := by
  by_cases h0 : t < 1
  · go_enter Try.func15, Try.ntmps15
    go_wp2
    go_ret2
    exact ⟨rfl, rfl⟩
  · have h1 : 8 < t := by omega
    clear h
    go_enter Try.func15, Try.ntmps15
    go_wp2
    go_ret2
    exact ⟨rfl, rfl⟩

set_option maxHeartbeats 400000 in
theorem rfold_long (w : World) (a : Option Addr) (n c : Nat) (t : Int) (h1 : 1 ≤ t) (h8 : t ≤ 8) (h : 65536 < n) (hn : n ≤ 9223372036854775807) :
    Calls Try.prog 15 #[.slice a n c, .int .i64 t] w fun e w' => e = .returned (.tuple #[.slice none 0 0, .int .i64 2]) ∧ w = w' := by
  go_enter Try.func15, Try.ntmps15
  go_wp2
  go_ret2
  exact ⟨rfl, rfl⟩

theorem map_snoc (f : Int → Int) (l : List Int) (k : Nat) (x : Int) (h : k < l.length) (hx : l.getD k 0 = x) : (l.take (k + 1)).map f = (l.take k).map f ++ [f x] := by
  subst hx
  rw [List.take_succ_eq_append_getElem h, List.map_append]; simp only [List.getD, List.getElem?_eq_getElem h, Option.getD_some, List.map_cons, List.map_nil]

set_option maxHeartbeats 800000 in
theorem rfold_any (w : World) (v : Value) (l : List Int) (t : Int) (h : RdI w v l) (h1 : 1 ≤ t) (h8 : t ≤ 8) (hn : l.length ≤ 65536) (hr : ∀ x ∈ l, -9223372036854775808 ≤ x ∧ x ≤ 9223372036854775807) :
    Calls Try.prog 15 #[v, .int .i64 t] w (FoldPost w (l.map (foldR t))) := by
  have H := Lib.hid h
  have HR := Lib.hid hr; clear hr
  obtain ⟨a, c, rfl⟩ := h.slice
  clear h
  go_enter Try.func15, Try.ntmps15
  go_wp2
  go_loopw [6, 7] (fun v i wr => ∃ k : Nat, k ≤ l.length ∧ i = .int .i64 k ∧ OwnI wr w.heap.size v ((l.take k).map (foldR t)) ∧ Chg [] w wr) (fun _ i _ => l.length - (intOf i).toNat)
  case atStart => exact ⟨0, Nat.zero_le _, rfl, OwnI.nil _ _, Chg.refl _ _⟩
  case round =>
    obtain ⟨k, hk, rfl, hown, hchg⟩ := hrel
    have OWN := Lib.hid hown; clear hown
    by_cases hkn : k < l.length
    · obtain ⟨b, off, c', e, hb, hc⟩ := (H.out.keep0 hchg).blk (by omega)
      simp only [Value.slice.injEq, true_and] at e
      obtain ⟨rfl, rfl⟩ := e
      obtain ⟨x, X, g1⟩ : ∃ x, Hid (l.getD k 0 = x) ∧ wr.cell? ⟨b, off + k, none⟩ = some (.int .i64 x) := ⟨_, rfl, hc k hkn⟩
      have hx : -9223372036854775808 ≤ x ∧ x ≤ 9223372036854775807 := by
        rw [← X.out, List.getD, List.getElem?_eq_getElem hkn]; exact HR.out _ (List.getElem_mem hkn)
      obtain ⟨hx1, hx2⟩ := hx
      have hlen : ((l.take k).map (foldR t)).length ≤ 65536 := by simp; omega
      have SN := Lib.hid (map_snoc (foldR t) l k x hkn X.out)
      have CHG := Lib.hid hchg; clear hchg
      have hblk := OWN.out.blk
      have HLEN := Lib.hid hlen
      clear hc hb hlen
      have m1 := Int.tmod_lt_of_pos x (show 0 < t by omega)
      have m2 := Int.lt_tmod_of_pos x (show 0 < t by omega)
      by_cases hneg : x.tmod t < 0
      · have FE : Hid (foldR t x = x.tmod t + t) := by unfold foldR; rw [if_pos hneg]; rfl
        go_wp2_with (at_builtin; refine push_int rfl _ _ rfl w.heap.size ((l.take k).map (foldR t)) _ rfl OWN.out rfl (by have := HLEN.out; omega) CHG.out.size ?_; intro v' w1 hown1 hgrow; have OWN1 := Lib.hid hown1; clear hown1; have GR := Lib.hid hgrow; clear hgrow)
        go_roundw
        case rel => exact ⟨k + 1, by omega, by go_num, by rw [SN.out, FE.out]; exact OWN1.out, (CHG.out.alloc _).grown GR.out fun j hj => .inr (hblk j hj).1⟩
        case measure => simp [intOf]; omega
      · have FE : Hid (foldR t x = x.tmod t) := by unfold foldR; rw [if_neg hneg]; rfl
        go_wp2_with (at_builtin; refine push_int rfl _ _ rfl w.heap.size ((l.take k).map (foldR t)) _ rfl OWN.out rfl (by have := HLEN.out; omega) CHG.out.size ?_; intro v' w1 hown1 hgrow; have OWN1 := Lib.hid hown1; clear hown1; have GR := Lib.hid hgrow; clear hgrow)
        go_roundw
        case rel => exact ⟨k + 1, by omega, by go_num, by rw [SN.out, FE.out]; exact OWN1.out, (CHG.out.alloc _).grown GR.out fun j hj => .inr (hblk j hj).1⟩
        case measure => simp [intOf]; omega
    · have e : k = l.length := by omega
      subst e
      have CH := Lib.hid hchg; clear hchg
      go_wp2
      go_ret2
      exact ⟨_, rfl, by simpa using OWN.out, CH.out⟩

end Go.Proofs.Ytldhlkkclmifmaa
