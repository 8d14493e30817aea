import Derived.Test.YtldhlkkclmifmaaE1
import Derived.Test.YtldhlkkclmifmaaD1
set_option linter.unusedVariables false
set_option linter.unusedSimpArgs false
namespace Go.Proofs.Ytldhlkkclmifmaa
open Go.RowKit

set_option maxHeartbeats 800000 in
theorem rdue_any (w : World) (rb : Nat) (n : Int) (s : ST) (g : Nat) (vS : Value) (fl : List Bool) (st : List Int) (h : RefIs w rb n s g vS fl st) (h0 : 0 ≤ n) (hn : n ≤ 8) :
    Calls Try.prog 30 #[.pointer (some ⟨rb, 0, none⟩)] w (DuePost w (dueL s.L s.S n.toNat)) := by
  have hlen := h.len
  have H := Lib.hid h; clear h
  go_enter Try.func30, Try.ntmps30
  go_wp2
  go_loopw [3, 4] (fun v i wr => ∃ k : Nat, (k : Int) ≤ n ∧ i = .int .i64 k ∧ OwnI wr w.heap.size v (dueL s.L s.S k) ∧ Chg [] w wr) (fun _ i _ => n.toNat - (intOf i).toNat)
  case atStart => exact ⟨0, by omega, rfl, OwnI.nil _ _, Chg.refl _ _⟩
  case round =>
    obtain ⟨k, hk, rfl, hown, hchg⟩ := hrel
    have R := Lib.hid (H.out.keep hchg (by simp))
    have hc0 : wr.cell? ⟨rb, 0, none⟩ = some (.slice (some ⟨g, 0, none⟩) fl.length fl.length) := cell_of_row wr rb 0 _ _ _ R.out.head
    have hdl := dueL_le s.L s.S k
    have hblk := hown.blk
    have OW := Lib.hid hown
    have CH := Lib.hid hchg
    clear hown hchg
    by_cases hkn : (k : Int) < n
    · have hkf : (k : Int) < (fl.length : Int) := by omega
      have g1 := R.out.ownF.facts.2.2.2.1 k (by omega)
      rw [R.out.fin k hkn] at g1
      have hS := R.out.stp k hkn
      go_wp2_with fail
      refine (was_any _ rb n s g vS fl st R.out hn _).mono ?_; rintro e w5 ⟨rfl, rfl⟩
      cases hL : s.L k
      · rw [hL] at g1
        have E := Lib.hid (dueL_miss (L := s.L) (S := s.S) (k := k) (by simp [hL]))
        clear hL hS
        go_wp2
        go_roundw
        case rel => exact ⟨k + 1, by omega, by go_num, by rw [E.out]; exact OW.out, CH.out⟩
        case measure => simp [intOf]; omega
      · rw [hL] at g1 hS
        cases hm : decide ((k : Int) ∈ st)
        · rw [hm] at hS
          have E := Lib.hid (dueL_hit hL (by simpa using hS))
          clear hL hS hm
          go_wp2_with (at_builtin; refine push_int rfl _ _ rfl w.heap.size (dueL s.L s.S k) _ rfl OW.out rfl (by omega) CH.out.size ?_; intro v' w1 hown1 hgrow; have OWN1 := Lib.hid hown1; clear hown1; have GR := Lib.hid hgrow; clear hgrow)
          go_roundw
          case rel => exact ⟨k + 1, by omega, by go_num, by rw [E.out]; exact OWN1.out, (CH.out.alloc _).grown GR.out fun j hj => .inr (hblk j hj).1⟩
          case measure => simp [intOf]; omega
        · rw [hm] at hS
          have E := Lib.hid (dueL_miss (L := s.L) (S := s.S) (k := k) (by simp [hS]))
          clear hL hS hm
          go_wp2
          go_roundw
          case rel => exact ⟨k + 1, by omega, by go_num, by rw [E.out]; exact OW.out, CH.out⟩
          case measure => simp [intOf]; omega
    · have e : k = n.toNat := by omega
      have E := Lib.hid e
      clear e
      go_wp2
      go_ret
      exact ⟨_, rfl, by rw [← E.out]; exact OW.out, CH.out⟩

theorem rover_any (w : World) (rb : Nat) (n : Int) (s : ST) (D : List Nat) (h : Ref w rb n s D) :
    Calls Try.prog 31 #[.pointer (some ⟨rb, 0, none⟩)] w fun e w' => e = .returned (.int .i64 s.o) ∧ w = w' := by
  obtain ⟨g, vS, fl, st, h1, _⟩ := h
  have hc := cell_of_row w rb 2 _ _ _ h1.head
  clear h1
  go_enter Try.func31, Try.ntmps31
  go_wp2
  go_ret
  exact ⟨rfl, rfl⟩

def RefUp (w : World) (rb : Nat) (n : Int) (s : ST) (D : List Nat) (r : Value) (e : Ending) (w' : World) : Prop :=
  e = .returned r ∧ ∃ D', Ref w' rb n s D' ∧ Chg D w w' ∧ ∀ x ∈ D', x ∈ D ∨ w.heap.size ≤ x

/-- what look does to the state -/
def ST.look (s : ST) : ST := ⟨s.L, lookS s.L s.S, lookN s.L s.S s.o⟩

set_option maxHeartbeats 800000 in
theorem rlook_any (w : World) (rb : Nat) (n : Int) (s : ST) (g : Nat) (vS : Value) (fl : List Bool) (st : List Int) (h : RefIs w rb n s g vS fl st) (h0 : 0 ≤ n) (hn : n ≤ 8)
    (hin : ∀ i : Nat, s.L i = true → (i : Int) < n) (hsub : ∀ i, s.S i = true → s.L i = true) (o1 : 0 ≤ s.o) (o2 : s.o < 9223372036854775807) :
    Calls Try.prog 39 #[.pointer (some ⟨rb, 0, none⟩)] w (RefUp w rb n s.look (dom rb g vS) (.tuple #[])) := by
  have hlen := h.len
  have H := Lib.hid h; clear h
  have hc0 : w.cell? ⟨rb, 0, none⟩ = some (.slice (some ⟨g, 0, none⟩) fl.length fl.length) := cell_of_row w rb 0 _ _ _ H.out.head
  have HIN := Lib.hid hin; clear hin
  have HSUB := Lib.hid hsub; clear hsub
  go_enter Try.func39, Try.ntmps39
  go_wp2
  go_loop [2, 3] (fun v i => ∃ k : Nat, (k : Int) ≤ n ∧ i = .int .i64 k ∧ v = .bool (decide (0 < liveC s.L k))) (fun _ i => n.toNat - (intOf i).toNat)
  case atStart => exact ⟨0, by omega, rfl, by simp [liveC]⟩
  case round =>
    obtain ⟨k, hk, rfl, rfl⟩ := hrel
    by_cases hkn : (k : Int) < n
    · have hkf : (k : Int) < (fl.length : Int) := by omega
      have g1 := H.out.ownF.facts.2.2.2.1 k (by omega)
      rw [H.out.fin k hkn] at g1
      cases hL : s.L k
      · rw [hL] at g1
        have E := Lib.hid (liveC_no hL)
        clear hL
        generalize hz : decide (0 < liveC s.L k) = z at *
        have HZ := Lib.hid hz; clear hz
        cases z
        all_goals
          go_wp2
          go_round
          case rel => exact ⟨k + 1, by omega, by go_num, by rw [E.out, HZ.out]⟩
          case measure => simp [intOf]; omega
      · rw [hL] at g1
        have E := Lib.hid (liveC_yes hL)
        clear hL
        generalize hz : decide (0 < liveC s.L k) = z at *
        have HZ := Lib.hid hz; clear hz
        cases z
        all_goals
          go_wp2
          go_round
          case rel => exact ⟨k + 1, by omega, by go_num, by rw [E.out]; simp⟩
          case measure => simp [intOf]; omega
    · have e : k = n.toNat := by omega
      have E := Lib.hid e
      clear e
      go_wp2_with fail
      refine (rdue_any _ rb n s g vS fl st H.out h0 hn).mono ?_; rintro e w5 ⟨v, rfl, own, c5⟩
      have C5 := Lib.hid c5
      have R5 := Lib.hid (H.out.keep c5 (by simp))
      have c0 := cell_of_row w5 rb 0 _ _ _ R5.out.head
      have c1 := cell_of_row w5 rb 1 _ _ _ R5.out.head
      have c2 := cell_of_row w5 rb 2 _ _ _ R5.out.head
      have f5 : ∀ o, w5.frozen? ⟨rb, o, none⟩ = false := fun o => frozen_of_row w5 rb o _ _ R5.out.head
      obtain ⟨a5, cc5, rfl⟩ := own.rd.slice
      have hdl := dueL_le s.L s.S n.toNat
      rw [E.out]
      clear own c5 hc0
      rcases look_cases hn (o := s.o) HIN.out HSUB.out with ⟨e1, e2, h3⟩ | ⟨e1, e2, h3, h4⟩
      · have LK := Lib.hid (show s.look = s from by unfold ST.look; rw [e1, e2])
        by_cases hl : 0 < liveC s.L n.toNat
        · obtain ⟨x, hx⟩ := List.exists_mem_of_length_pos hl
          have hx := (List.mem_filter.1 hx).2
          obtain ⟨j, j1, j2⟩ := h3 x hx
          have hpos : 0 < (dueL s.L s.S n.toNat).length := List.length_pos_of_mem (a := (j : Int)) (dueL_mem.2 ⟨by omega, by have := HIN.out j j1; omega, by simpa using j1, by simpa using j2⟩)
          have z1 : decide (0 < liveC s.L n.toNat) = true := decide_eq_true hl
          have z2 : (((dueL s.L s.S n.toNat).length : Int) == 0) = false := by rw [beq_eq_false_iff_ne]; omega
          rw [z1]
          clear hl hx j1 j2 h3 e1 e2 hpos z1
          go_wp2
          go_end0
          exact ⟨rfl, dom rb g vS, by rw [LK.out]; exact ⟨g, vS, fl, st, R5.out, rfl⟩, C5.out.mono (by simp), fun x hx => .inl hx⟩
        · have z1 : decide (0 < liveC s.L n.toNat) = false := decide_eq_false hl
          rw [z1]
          clear hl h3 e1 e2 z1
          go_wp2
          go_end0
          exact ⟨rfl, dom rb g vS, by rw [LK.out]; exact ⟨g, vS, fl, st, R5.out, rfl⟩, C5.out.mono (by simp), fun x hx => .inl hx⟩
      · have LK := Lib.hid (show s.look = ⟨s.L, fun _ => false, s.o + 1⟩ from by unfold ST.look; rw [e1, e2])
        have hl : 0 < liveC s.L n.toNat := by
          obtain ⟨i, hi⟩ := h3
          exact List.length_pos_of_mem (a := i) (List.mem_filter.2 ⟨List.mem_range.2 (by have := HIN.out i hi; omega), hi⟩)
        have hd : (dueL s.L s.S n.toNat).length = 0 := by
          rcases Nat.eq_zero_or_pos (dueL s.L s.S n.toNat).length with h | h
          · exact h
          · obtain ⟨x, hx⟩ := List.exists_mem_of_length_pos h
            have hx := dueL_mem.1 hx
            rw [h4, hx.2.2.1] at hx
            simp at hx
        rw [hd] at *
        have z1 : decide (0 < liveC s.L n.toNat) = true := decide_eq_true hl
        rw [z1]
        have k0 := heap_setCell_same w5 rb 2 _ _ (.int .i64 (s.o + 1)) R5.out.head
        have k1 := heap_setCell_same _ rb 1 _ _ (.slice none 0 0) k0
        have K1 := Lib.hid k1
        have CX := Lib.hid (show Chg [rb] w5 ((w5.setCell ⟨rb, 2, none⟩ (.int .i64 (s.o + 1))).setCell ⟨rb, 1, none⟩ (.slice none 0 0)) from ((Chg.refl _ _).setCell (by simp) _).setCell (by simp) _)
        clear hl h3 h4 e1 e2 z1 hd k0 k1 hdl
        go_wp2
        go_end0
        refine ⟨rfl, dom rb g (.slice none 0 0), ?_, (C5.out.mono (by simp)).trans (CX.out.mono (by simp [dom])), fun x hx => .inl (by simp [dom, Value.ownBlock] at hx ⊢; rcases hx with h | h <;> simp [h])⟩
        rw [LK.out]
        have hne := R5.out.rb_ne
        refine ⟨g, .slice none 0 0, fl, [], ⟨by simpa using K1.out, R5.out.ownF.keep CX.out (by simp [Value.ownBlock]; exact fun e => hne.1 e.symm), OwnI.nil _ _, R5.out.len, R5.out.fin, fun i hi => by simp, by simp, by simp⟩, rfl⟩

end Go.Proofs.Ytldhlkkclmifmaa
