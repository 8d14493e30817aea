import Derived.Test.YtfnfmbfkgfpddaaDoorB1
set_option linter.unusedVariables false
set_option linter.unusedSimpArgs false
namespace Go.Proofs.YtfnfmbfkgfpddaaDoor
open Go.RowKit

/-- The lines that end before place i, and where the next one begins. -/
def linesSt (s : ByteArray) : Nat → List ByteArray × Nat
  | 0 => ([], 0)
  | i + 1 => if bt s i = 10 then ((linesSt s i).1 ++ [s.extract (linesSt s i).2 i], i + 1) else linesSt s i
def lines (s : ByteArray) : List ByteArray :=
  if (linesSt s s.size).2 < s.size then (linesSt s s.size).1 ++ [s.extract (linesSt s s.size).2 s.size] else (linesSt s s.size).1

theorem linesSt_hit {s : ByteArray} {i : Nat} {L : List ByteArray} {f : Nat} (h : linesSt s i = (L, f)) (hb : bt s i = 10) : linesSt s (i + 1) = (L ++ [s.extract f i], i + 1) := by
  simp [linesSt, h, hb]
theorem linesSt_miss {s : ByteArray} {i : Nat} {L : List ByteArray} {f : Nat} (h : linesSt s i = (L, f)) (hb : ¬ bt s i = 10) : linesSt s (i + 1) = (L, f) := by
  simp [linesSt, h, hb]
theorem linesSt_skip {s : ByteArray} {i : Nat} {L : List ByteArray} {f : Nat} (h : linesSt s i = (L, f)) : ∀ n, (∀ j, i ≤ j → j < i + n → ¬ bt s j = 10) → linesSt s (i + n) = (L, f)
  | 0, _ => h
  | n + 1, hb => by
    have := linesSt_skip h n (fun j h1 h2 => hb j h1 (by omega))
    exact linesSt_miss this (hb (i + n) (by omega) (by omega))
theorem linesSt_le (s : ByteArray) : ∀ i L f, linesSt s i = (L, f) → f ≤ i ∧ L.length ≤ i
  | 0, L, f, h => by simp [linesSt] at h; obtain ⟨rfl, rfl⟩ := h; simp
  | i + 1, L, f, h => by
    rcases hq : linesSt s i with ⟨L0, f0⟩
    have ih := linesSt_le s i L0 f0 hq
    by_cases hb : bt s i = 10
    · rw [linesSt_hit hq hb] at h
      simp at h
      obtain ⟨rfl, rfl⟩ := h
      simp; omega
    · rw [linesSt_miss hq hb] at h
      simp at h
      obtain ⟨rfl, rfl⟩ := h
      omega

def LinesPost (w : World) (s : ByteArray) (e : Ending) (w' : World) : Prop := ∃ v, e = .returned v ∧ OwnS w' w.heap.size v (lines s) ∧ Chg [] w w'

set_option maxRecDepth 100000 in
theorem rlines_walk (s : ByteArray) (w : World) (hs : s.size < 1000000000000) : Calls Tryd.prog 27 #[.string s] w (LinesPost w s) := by
  go_enter Tryd.func27, Tryd.ntmps27
  go_wp2
  go_loopw [3, 4, 5] (fun v f n wr => ∃ (i : Nat) (L : List ByteArray) (g : Nat), n = .int .i64 i ∧ f = .int .i64 g ∧ i ≤ s.size ∧ linesSt s i = (L, g) ∧ OwnS wr w.heap.size v L ∧ Chg [] w wr) (fun _ _ n _ => s.size - (intOf n).toNat)
  case atStart => exact ⟨0, [], 0, rfl, rfl, by omega, rfl, OwnS.nil _ _, Chg.refl _ _⟩
  case round =>
    obtain ⟨i, L, g, rfl, rfl, hi, hst, hown, hchg⟩ := hrel
    have hle := linesSt_le s i L g hst
    have OWN := Lib.hid hown; clear hown
    have CHG := Lib.hid hchg; clear hchg
    have hblk := OWN.out.blk
    have ST := Lib.hid hst; clear hst
    by_cases h : i < s.size
    · have h' : (i : Int) < s.size := by omega
      have e := bt_eq h
      by_cases hb : bt s i = 10
      · have E := Lib.hid (linesSt_hit ST.out hb)
        have hb' : ((s[i]'h).toNat : Int) = 10 := by omega
        have hg : (g : Int) ≤ i := by omega
        go_wp2_with (at_builtin; refine push_str rfl _ _ rfl w.heap.size L _ rfl OWN.out rfl (by omega) CHG.out.size ?_; intro v' w1 hown1 hgrow; have OWN1 := Lib.hid hown1; clear hown1; have GR := Lib.hid hgrow; clear hgrow)
        go_roundw
        case rel => exact ⟨i + 1, _, i + 1, by go_num, by go_num, by omega, E.out, OWN1.out, (CHG.out.alloc _).grown GR.out fun j hj => .inr (hblk j hj).1⟩
        case measure => simp [intOf]; omega
      · have E := Lib.hid (linesSt_miss ST.out hb)
        have hb' : ¬ ((s[i]'h).toNat : Int) = 10 := by omega
        go_wp2
        go_roundw
        case rel => exact ⟨i + 1, _, g, by go_num, by go_num, by omega, E.out, OWN.out, CHG.out⟩
        case measure => simp [intOf]; omega
    · obtain rfl : i = s.size := by omega
      by_cases hf : g < s.size
      · have E : lines s = L ++ [s.extract g s.size] := by simp [lines, ST.out, hf]
        have E1 := Lib.hid E; clear E
        have hf' : (g : Int) < s.size := by omega
        go_wp2_with (at_builtin; refine push_str rfl _ _ rfl w.heap.size L _ rfl OWN.out rfl (by omega) CHG.out.size ?_; intro v' w1 hown1 hgrow; have OWN1 := Lib.hid hown1; clear hown1; have GR := Lib.hid hgrow; clear hgrow)
        go_ret
        exact ⟨_, rfl, by rw [E1.out]; exact OWN1.out, (CHG.out.alloc _).grown GR.out fun j hj => .inr (hblk j hj).1⟩
      · have E : lines s = L := by simp [lines, ST.out, hf]
        have E1 := Lib.hid E; clear E
        have hf' : ¬ (g : Int) < s.size := by omega
        go_wp2
        go_ret
        exact ⟨_, rfl, by rw [E1.out]; exact OWN.out, CHG.out⟩

theorem Chg.iterAt {S : List Nat} {a b : World} (h : Chg S a b) {k : Nat} (hk : k ∈ S ∨ a.heap.size ≤ k) (s : ByteArray) (p : Nat) : Chg S a (b.iterAt k s p) :=
  ⟨h.os, h.tape, h.output, by rw [Lib.iterAt_size]; exact h.size, fun j hj hn => by
    rw [Lib.iterAt_other _ _ _ _ _ (by rintro rfl; rcases hk with hk | hk; exact hn hk; omega)]
    exact h.block j hj hn⟩
theorem iterAt_pos (a : World) (k : Nat) (s : ByteArray) (p q : Nat) (h : a.heap[k]? = some (.stringIter s p)) : (a.iterAt k s q).iterPos k = q := by
  simp [World.iterPos, Lib.iterAt_heap _ _ _ _ _ h]
theorem pos_of (a : World) (k : Nat) (s : ByteArray) (p : Nat) (h : a.heap[k]? = some (.stringIter s p)) : a.iterPos k = p := by
  simp [World.iterPos, h]
theorem OwnS.iterAt {a : World} {k : Nat} {v : Value} {L : List ByteArray} (h : OwnS a (k + 1) v L) (s : ByteArray) (p : Nat) : OwnS (a.iterAt k s p) (k + 1) v L :=
  h.keep (S := [k]) ((Chg.refl _ _).iterAt (.inl (by simp)) s p) (fun j hj => by
    have := h.blk j hj
    simp; omega)
theorem run_next_more (a : World) (k : Nat) (s : ByteArray) (i : Nat) (hk : a.heap[k]? = some (.stringIter s i)) (h : i < s.size) :
    ∃ c n, (∀ ty, (Instr.next (.pointer (some ⟨k, 0, none⟩)) true ty).run Tryd.prog a = .ok (.tuple #[.bool true, .int .i64 i, .int .i32 (c : Nat)]) (a.iterAt k s (i + n))) ∧
      1 ≤ n ∧ i + n ≤ s.size ∧ ((c < 128 ∧ n = 1 ∧ bt s i = c) ∨ (128 ≤ c ∧ ∀ j, i ≤ j → j < i + n → 128 ≤ bt s j)) := by
  have hnx := fun ty => Lib.run_next_any_at (P := Tryd.prog) a k s i ty hk h
  by_cases hb : bt s i < 128
  · rw [decode_low h hb] at hnx
    exact ⟨_, _, hnx, by omega, by omega, .inl ⟨hb, rfl, rfl⟩⟩
  · have := decode_hi h (by omega)
    exact ⟨_, _, hnx, this.2.1, this.2.2.1, .inr ⟨this.1, this.2.2.2⟩⟩

theorem step_iter {w wr : World} {v : Value} {L : List ByteArray} {s : ByteArray} {i : Nat} (h : OwnS wr (w.heap.size + 1) v L) (c : Chg [] w wr) (hit : wr.heap[w.heap.size]? = some (.stringIter s i)) (m : Nat) :
    OwnS (wr.iterAt w.heap.size s m) (w.heap.size + 1) v L ∧ Chg [] w (wr.iterAt w.heap.size s m) ∧ (wr.iterAt w.heap.size s m).heap[w.heap.size]? = some (.stringIter s m) :=
  ⟨h.iterAt _ _, c.iterAt (.inr (Nat.le_refl _)) _ _, Lib.iterAt_heap _ _ _ _ _ hit⟩

theorem iter_kept {wi w1 : World} {v : Value} {L : List ByteArray} {s : ByteArray} {m k : Nat} {o : Obj} (hit : wi.heap[k]? = some (.stringIter s m)) (own : OwnS wi (k + 1) v L)
    (g : (wi.alloc o).grownBy w1 v.ownBlock) : w1.heap[k]? = some (.stringIter s m) := by
  rw [g.block _ (by have := lt_of_heap hit; simp; omega) (fun e => by have := (own.blk _ e.symm).1; omega)]
  rw [Below.heap_alloc _ _ _ (lt_of_heap hit)]
  exact hit

set_option maxRecDepth 100000 in
theorem lines_walk (s : ByteArray) (w : World) (hs : s.size < 1000000000000) : Calls Tryd.prog 26 #[.string s] w (LinesPost w s) := by
  go_enter Tryd.func26, Tryd.ntmps26
  go_wp2
  go_loopw [3, 4] (fun v f wr => ∃ (i : Nat) (L : List ByteArray) (g : Nat), f = .int .i64 g ∧ i ≤ s.size ∧ linesSt s i = (L, g) ∧ OwnS wr (w.heap.size + 1) v L ∧ Chg [] w wr ∧ wr.heap[w.heap.size]? = some (.stringIter s i)) (fun _ _ wr => s.size - wr.iterPos w.heap.size)
  case atStart => exact ⟨0, [], 0, rfl, by omega, rfl, OwnS.nil _ _, (Chg.refl _ _).alloc _, World.iter_heap _ _ _⟩
  case round =>
    obtain ⟨i, L, g, rfl, hi, hst, hown, hchg, hit⟩ := hrel
    have hle := linesSt_le s i L g hst
    have hpos := Lib.hid (pos_of _ _ _ _ hit)
    have IT := Lib.hid hit
    have OWN := Lib.hid hown; clear hown
    have CHG := Lib.hid hchg; clear hchg
    have hblk := OWN.out.blk
    have ST := Lib.hid hst; clear hst
    by_cases h : i < s.size
    · obtain ⟨c, n, hnx, h1, h2, h3⟩ := run_next_more _ _ _ _ hit h
      clear hit
      obtain ⟨m, hm⟩ : ∃ m, m = i + n := ⟨_, rfl⟩
      rw [← hm] at hnx
      have HM := Lib.hid hm
      clear hm
      obtain ⟨wi, hwi⟩ : ∃ wi, wi = wr.iterAt w.heap.size s m := ⟨_, rfl⟩
      rw [← hwi] at hnx
      have WI := step_iter OWN.out CHG.out IT.out m
      rw [← hwi] at WI
      have W := Lib.hid WI; clear WI hwi
      have hc0 : (0 : Int) ≤ c := by omega
      by_cases hb : c = 10
      · have hb' : (c : Int) = 10 := by omega
        have E := Lib.hid (linesSt_hit ST.out (show bt s i = 10 by omega))
        have hm1 : m = i + 1 := by have := HM.out; omega
        have HM1 := Lib.hid hm1; clear hm1
        have hg : (g : Int) ≤ i := by omega
        go_wp2_with (at_builtin; refine push_str rfl _ _ rfl (w.heap.size + 1) L _ rfl W.out.1 rfl (by omega) (by have := lt_of_heap W.out.2.2; omega) ?_; intro v' w1 hown1 hgrow; have OWN1 := Lib.hid hown1; clear hown1; have GR := Lib.hid hgrow; clear hgrow)
        have IT1 := Lib.hid (iter_kept W.out.2.2 W.out.1 GR.out)
        go_roundw
        case rel =>
          exact ⟨m, _, i + 1, by go_num, by have := HM1.out; omega, by rw [HM1.out]; exact E.out, OWN1.out, (W.out.2.1.alloc _).grown GR.out fun j hj => .inr (by have := (W.out.1.blk j hj).1; omega), IT1.out⟩
        case measure =>
          rw [hpos.out, pos_of _ _ _ _ IT1.out]
          have := HM1.out
          omega
      · have hb' : ¬ (c : Int) = 10 := by omega
        have E := Lib.hid (linesSt_skip ST.out n (fun j h4 h5 => by
          rcases h3 with h3 | h3
          · obtain rfl : j = i := by omega
            omega
          · have := h3.2 j h4 h5
            omega))
        go_wp2
        go_roundw
        case rel =>
          exact ⟨m, _, g, by go_num, by have := HM.out; omega, by rw [HM.out]; exact E.out, W.out.1, W.out.2.1, W.out.2.2⟩
        case measure =>
          have e1 := hpos.out
          rw [e1, pos_of _ _ _ _ W.out.2.2]
          have := HM.out
          omega
    · obtain rfl : i = s.size := by omega
      have hnx := fun ty => Lib.run_next_end_at (P := Tryd.prog) wr w.heap.size s s.size ty IT.out h
      clear hit
      by_cases hf : g < s.size
      · have E : lines s = L ++ [s.extract g s.size] := by simp [lines, ST.out, hf]
        have E1 := Lib.hid E; clear E
        have hf' : (g : Int) < s.size := by omega
        go_wp2_with (at_builtin; refine push_str rfl _ _ rfl (w.heap.size + 1) L _ rfl OWN.out rfl (by omega) (by have := lt_of_heap IT.out; omega) ?_; intro v' w1 hown1 hgrow; have OWN1 := Lib.hid hown1; clear hown1; have GR := Lib.hid hgrow; clear hgrow)
        go_ret
        exact ⟨_, rfl, by rw [E1.out]; exact OWN1.out.mono (by omega), (CHG.out.alloc _).grown GR.out fun j hj => .inr (by have := (hblk j hj).1; omega)⟩
      · have E : lines s = L := by simp [lines, ST.out, hf]
        have E1 := Lib.hid E; clear E
        have hf' : ¬ (g : Int) < s.size := by omega
        go_wp2
        go_ret
        exact ⟨_, rfl, by rw [E1.out]; exact OWN.out.mono (by omega), CHG.out⟩
end Go.Proofs.YtfnfmbfkgfpddaaDoor
