import Derived.Test.YtfnfmbfkgfpddaaDoorB3
set_option linter.unusedVariables false
set_option linter.unusedSimpArgs false
namespace Go.Proofs.YtfnfmbfkgfpddaaDoor
open Go.RowKit

/-- Where a word begins that is not over at place i; -1: there is none. -/
def fromT (g i : Nat) : Int := if g < i then g else -1
theorem fromT_in {g i : Nat} (h : g < i) : fromT g i = g := by simp [fromT, h]
theorem fromT_out {g i : Nat} (h : ¬ g < i) : fromT g i = -1 := by simp [fromT, h]

set_option maxRecDepth 100000 in
set_option maxHeartbeats 4000000 in
theorem split_walk (s : ByteArray) (w : World) : Calls Tryd.prog 23 #[.string s] w (SplitPost w s) := by
  by_cases hs : 1024 < s.size
  · have e1 : splitL s = [] := by simp [splitL, hs]
    have e2 : splitE s = 2 := by simp [splitE, hs]
    unfold SplitPost
    rw [e1, e2]
    have hs' : (1024 : Int) < s.size := by omega
    go_enter Tryd.func23, Tryd.ntmps23
    go_wp2
    go_ret2
    exact ⟨_, rfl, OwnS.nil _ _, Chg.refl _ _⟩
  · have e1 : splitL s = words s := by simp [splitL, hs]
    have e2 : splitE s = 0 := by simp [splitE, hs]
    unfold SplitPost
    rw [e1, e2]
    clear e1 e2
    have hs' : ¬ (1024 : Int) < s.size := by omega
    go_enter Tryd.func23, Tryd.ntmps23
    go_wp2
    go_loopw [4, 5] (fun v f wr => ∃ (i : Nat) (L : List ByteArray) (g : Nat), f = .int .i64 (fromT g i) ∧ i ≤ s.size ∧ wordsSt s i = (L, g) ∧ OwnS wr (w.heap.size + 1) v L ∧ Chg [] w wr ∧ wr.heap[w.heap.size]? = some (.stringIter s i)) (fun _ _ wr => s.size - wr.iterPos w.heap.size)
    case atStart => exact ⟨0, [], 0, rfl, by omega, rfl, OwnS.nil _ _, (Chg.refl _ _).alloc _, World.iter_heap _ _ _⟩
    case round =>
      obtain ⟨i, L, g, rfl, hi, hst, hown, hchg, hit⟩ := hrel
      have hle := wordsSt_le s i L g hst
      have hpos := Lib.hid (pos_of _ _ _ _ hit)
      have IT := Lib.hid hit
      have OWN := Lib.hid hown; clear hown
      have CHG := Lib.hid hchg; clear hchg
      have hblk := OWN.out.blk
      have ST := Lib.hid hst; clear hst
      by_cases h : i < s.size
      · obtain ⟨c, n, hnx, h1, h2, h3⟩ := run_next_more _ _ _ _ hit h
        clear hit
        obtain ⟨m, hm⟩ : ∃ m, m = i + n := ⟨_, rfl⟩
        rw [← hm] at hnx
        have HM := Lib.hid hm
        clear hm
        obtain ⟨wi, hwi⟩ : ∃ wi, wi = wr.iterAt w.heap.size s m := ⟨_, rfl⟩
        rw [← hwi] at hnx
        have WI := step_iter OWN.out CHG.out IT.out m
        rw [← hwi] at WI
        have W := Lib.hid WI; clear WI hwi
        have hc0 : (0 : Int) ≤ c := by omega
        by_cases hb : blank c
        · have hbs : blank (bt s i) := by unfold blank at hb ⊢; omega
          have hm1 : m = i + 1 := by have := HM.out; unfold blank at hb; omega
          have HM1 := Lib.hid hm1; clear hm1
          have hb' : (c : Int) = 32 ∨ (c : Int) = 9 := by unfold blank at hb; omega
          by_cases hgi : g < i
          · rw [fromT_in hgi]
            have E := Lib.hid (wordsSt_hit ST.out hbs hgi)
            have hg : (g : Int) ≤ i := by omega
            have hg0 : (0 : Int) ≤ g := by omega
            rcases hb' with hb' | hb'
            all_goals
              go_wp2_with (at_builtin; refine push_str rfl _ _ rfl (w.heap.size + 1) L _ rfl W.out.1 rfl (by omega) (by have := lt_of_heap W.out.2.2; omega) ?_; intro v' w1 hown1 hgrow; have OWN1 := Lib.hid hown1; clear hown1; have GR := Lib.hid hgrow; clear hgrow)
              have IT1 := Lib.hid (iter_kept W.out.2.2 W.out.1 GR.out)
              go_roundw
              case rel =>
                exact ⟨m, _, i + 1, by rw [HM1.out, fromT_out (by omega)], by have := HM1.out; omega, by rw [HM1.out]; exact E.out, OWN1.out, (W.out.2.1.alloc _).grown GR.out fun j hj => .inr (by have := (W.out.1.blk j hj).1; omega), IT1.out⟩
              case measure =>
                rw [hpos.out, pos_of _ _ _ _ IT1.out]
                have := HM1.out
                omega
          · rw [fromT_out hgi]
            have E := Lib.hid (wordsSt_gap ST.out hbs hgi)
            rcases hb' with hb' | hb'
            all_goals
              go_wp2
              go_roundw
              case rel =>
                exact ⟨m, _, i + 1, by rw [HM1.out, fromT_out (by omega)], by have := HM1.out; omega, by rw [HM1.out]; exact E.out, W.out.1, W.out.2.1, W.out.2.2⟩
              case measure =>
                rw [hpos.out, pos_of _ _ _ _ W.out.2.2]
                have := HM1.out
                omega
        · have E := Lib.hid (wordsSt_skip ST.out n (fun j h4 h5 => by
            rcases h3 with h3 | h3
            · obtain rfl : j = i := by omega
              rw [h3.2.2]
              exact hb
            · have := h3.2 j h4 h5
              unfold blank
              omega))
          have hb1 : ((c : Int) == 32) = false := by unfold blank at hb; simp only [beq_eq_false_iff_ne, ne_eq]; omega
          have hb2 : ((c : Int) == 9) = false := by unfold blank at hb; simp only [beq_eq_false_iff_ne, ne_eq]; omega
          by_cases hgi : g < i
          · rw [fromT_in hgi]
            have hg0 : ¬ (g : Int) < 0 := by omega
            go_wp2
            go_roundw
            case rel =>
              exact ⟨m, _, g, by rw [fromT_in (by have := HM.out; omega)], by have := HM.out; omega, by rw [HM.out]; exact E.out, W.out.1, W.out.2.1, W.out.2.2⟩
            case measure =>
              rw [hpos.out, pos_of _ _ _ _ W.out.2.2]
              have := HM.out
              omega
          · rw [fromT_out hgi]
            go_wp2
            go_roundw
            case rel =>
              exact ⟨m, _, g, by rw [fromT_in (by have := HM.out; omega)]; congr 2; omega, by have := HM.out; omega, by rw [HM.out]; exact E.out, W.out.1, W.out.2.1, W.out.2.2⟩
            case measure =>
              rw [hpos.out, pos_of _ _ _ _ W.out.2.2]
              have := HM.out
              omega
      · obtain rfl : i = s.size := by omega
        have hnx := fun ty => Lib.run_next_end_at (P := Tryd.prog) wr w.heap.size s s.size ty IT.out h
        clear hit
        by_cases hf : g < s.size
        · rw [fromT_in hf]
          have E1 := Lib.hid (words_add ST.out hf)
          have hf' : (0 : Int) ≤ g := by omega
          have hf2 : (g : Int) ≤ s.size := by omega
          go_wp2_with (at_builtin; refine push_str rfl _ _ rfl (w.heap.size + 1) L _ rfl OWN.out rfl (by omega) (by have := lt_of_heap IT.out; omega) ?_; intro v' w1 hown1 hgrow; have OWN1 := Lib.hid hown1; clear hown1; have GR := Lib.hid hgrow; clear hgrow)
          go_ret2
          exact ⟨_, rfl, by rw [E1.out]; exact OWN1.out.mono (by omega), (CHG.out.alloc _).grown GR.out fun j hj => .inr (by have := (hblk j hj).1; omega)⟩
        · rw [fromT_out hf]
          have E1 := Lib.hid (words_end ST.out hf)
          go_wp2
          go_ret2
          exact ⟨_, rfl, by rw [E1.out]; exact OWN.out.mono (by omega), CHG.out⟩
end Go.Proofs.YtfnfmbfkgfpddaaDoor
