import Derived.Test.YtldhlkkclmifmaaE3
import Derived.Test.YtldhlkkclmifmaaOps
set_option linter.unusedVariables false
set_option linter.unusedSimpArgs false
namespace Go.Proofs.Ytldhlkkclmifmaa
open Go.RowKit

theorem info4 : (Try.prog.info? 4).map (fun i => (i.zero, i.size, i.bytes)) = some (some (.bool false), 1, 1) := by kernel_rfl
theorem under71 : Try.prog.underlying 71 = some (.slice 4) := by kernel_rfl

set_option maxHeartbeats 400000 in
theorem rnew_bad (n : Int) (w : World) (h : n < 1 ∨ 8 < n) :
    Calls Try.prog 27 #[.int .i64 n] w fun e w' => e = .returned (.tuple #[.pointer none, .int .i64 1]) ∧ w = w' := by
  by_cases h0 : n < 1
  · go_enter Try.func27, Try.ntmps27
    go_wp2
    go_ret2
    exact ⟨rfl, rfl⟩
  · have h1 : 8 < n := by omega
    clear h
    go_enter Try.func27, Try.ntmps27
    go_wp2
    go_ret2
    exact ⟨rfl, rfl⟩

def RNew (w : World) (n : Int) (e : Ending) (w' : World) : Prop := ∃ rb D, e = .returned (.tuple #[.pointer (some ⟨rb, 0, none⟩), .int .i64 0]) ∧ Chg [] w w' ∧ Ref w' rb n ⟨liveN n, none8, 0⟩ D ∧ ∀ x ∈ D, w.heap.size ≤ x

set_option maxHeartbeats 400000 in
theorem rnew_any (n : Nat) (w : World) (h : 1 ≤ n) (h1 : n ≤ 8) : Calls Try.prog 27 #[.int .i64 n] w (RNew w n) := by
  obtain ⟨i0, hi, hz0, hz1, hz2⟩ := info_parts info4
  have HI := Lib.hid hi; clear hi
  have HZ0 := Lib.hid hz0; clear hz0
  have HZ1 := Lib.hid hz1; clear hz1
  have HZ2 := Lib.hid hz2; clear hz2
  go_enter Try.func27, Try.ntmps27
  go_wp2_with (at_make; refine wpList_make_full _ rfl _ _ 71 rfl w.heap.size 4 i0 (.bool false) 1 under71 HI.out HZ0.out HZ1.out _ _ _ _ n rfl rfl rfl rfl (by rw [HZ2.out]; omega) (by unfold maxLen; omega) (Nat.le_refl _) ?_; intro w1 hown hgr; have OWN := Lib.hid hown; clear hown; have GR := Lib.hid hgr; clear hgr)
  go_ret2
  have own1 : OwnB w1 w.heap.size (.slice (some ⟨w.heap.size, 0, none⟩) n n) (List.replicate n false) := by
    have := OWN.out
    rw [show (madeCells (Value.bool false).cells (n * 1)).toList = List.replicate n (Value.bool false) from by rw [Nat.mul_one]; exact toList_madeCells_one _ _] at this
    simpa [OwnB] using this
  have c1 : Chg [] w w1 := (Chg.refl _ _).grown GR.out (by simp)
  have hlt := own1.facts.2.2.1
  refine ⟨w1.heap.size, dom w1.heap.size w.heap.size (.slice none 0 0), rfl, c1.alloc _, ⟨w.heap.size, .slice none 0 0, List.replicate n false, [], ⟨?_, ?_, OwnI.nil _ _, by simp, fun i hi => ?_, fun i hi => ?_, by simp, by simp⟩, rfl⟩, ?_⟩
  · simpa using heap_alloc_new w1 _
  · have : OwnB w1 0 (.slice (some ⟨w.heap.size, 0, none⟩) (List.replicate n false).length (List.replicate n false).length) (List.replicate n false) := by
      rw [List.length_replicate]
      refine ⟨own1.1, ?_⟩
      rcases own1.2 with h | ⟨g, cap, cur, e1, _, e3⟩
      · exact .inl h
      · exact .inr ⟨g, cap, cur, e1, Nat.zero_le _, e3⟩
    exact this.keep0 ((Chg.refl [] w1).alloc _)
  · have : i < n := by omega
    simp [liveN, List.getD, this]
  · have : i < n := by omega
    simp [none8]
  · intro x hx
    simp [dom, Value.ownBlock] at hx
    rcases hx with rfl | rfl <;> omega
theorem rnew_at (m : Int) (w : World) (h : 1 ≤ m) (h1 : m ≤ 8) : Calls Try.prog 27 #[.int .i64 m] w (RNew w m) := by
  obtain ⟨n, rfl⟩ := Int.eq_ofNat_of_zero_le (show 0 ≤ m by omega)
  exact rnew_any n w (by omega) (by omega)

/-! stir: one that was left is changed -/
def StirPost (w : World) (b : Nat) (e : Ending) (w' : World) : Prop := e = .returned (.tuple #[]) ∧ Chg [b] w w'
set_option maxHeartbeats 1000000 in
theorem stir_any (w : World) (b : Nat) (n : Int) (s : ST) (h : RIst w b n s) (hi : s.Inv n) (hn : n ≤ 8) (o1 : 0 ≤ s.o) (o2 : s.o < 1000000000000000) :
    Calls Try.prog 33 #[.pointer (some ⟨b, 0, none⟩)] w (StirPost w b) := by
  have START := Lib.hid (show ∃ s' : ST, RIst w b n s' ∧ s'.Inv n ∧ 0 ≤ s'.o ∧ s'.o ≤ 1000000000000000 + (0 : Nat) from ⟨s, h, hi, o1, by omega⟩)
  clear h hi o1 o2
  go_enter Try.func33, Try.ntmps33
  go_wp2_with fail
  go_loopw [2] (fun i wr => ∃ k : Nat, k ≤ 8 ∧ i = .int .i64 k ∧ Chg [b] w wr ∧ ∃ s' : ST, RIst wr b n s' ∧ s'.Inv n ∧ 0 ≤ s'.o ∧ s'.o ≤ 1000000000000000 + k) (fun i _ => 8 - (intOf i).toNat)
  case atStart => exact ⟨0, by omega, rfl, Chg.refl _ _, START.out⟩
  case round =>
    obtain ⟨k, hk, rfl, hch, s1, hr, hi1, p1, p2⟩ := hrel
    have CH := Lib.hid hch
    have R := Lib.hid hr
    have INV := Lib.hid hi1
    clear hch hr hi1
    by_cases hkn : k < 8
    · go_wp2_with fail
      refine (step_st _ _ _ _ _ R.out hn p1 (by omega)).mono ?_; rintro e w1 ⟨rfl, c1, r1⟩
      have st := INV.out.step hn k
      have NX := Lib.hid (show ∃ s' : ST, RIst w1 b n s' ∧ s'.Inv n ∧ 0 ≤ s'.o ∧ s'.o ≤ 1000000000000000 + ((k + 1 : Nat) : Int) from ⟨_, r1, st.1, by omega, by omega⟩)
      have C1 := Lib.hid (CH.out.trans c1)
      clear c1 r1 st
      go_wp2
      go_roundw
      case rel => exact ⟨k + 1, by omega, by go_num, C1.out, NX.out⟩
      case measure => simp [intOf]; omega
    · go_wp2_with fail
      refine (fin_st _ _ _ _ 0 R.out hn p1 (by omega)).mono ?_; rintro e w1 ⟨rfl, c1, r1⟩
      have st := INV.out.fin hn 0
      have C1 := Lib.hid (CH.out.trans c1)
      have R1 := Lib.hid r1
      have ST1 := Lib.hid st
      have q1 : 0 ≤ (s1.fin n 0).o := by omega
      have q2 : (s1.fin n 0).o < 9223372036854775807 := by omega
      clear c1 r1 st
      go_wp2_with fail
      refine (fin_st _ _ _ _ 1 R1.out hn q1 q2).mono ?_; rintro e w2 ⟨rfl, c2, r2⟩
      have C2 := Lib.hid (C1.out.trans c2)
      clear c2 r2
      go_wp2
      go_end0
      exact ⟨rfl, C2.out⟩

end Go.Proofs.Ytldhlkkclmifmaa
