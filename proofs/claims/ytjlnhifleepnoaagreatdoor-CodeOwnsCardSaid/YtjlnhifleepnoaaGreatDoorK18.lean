import Derived.Test.YtjlnhifleepnoaaGreatDoorJ1
import Derived.Test.YtjlnhifleepnoaaGreatDoorK17
set_option linter.unusedVariables false
set_option linter.unusedSimpArgs false
namespace Go.Proofs.YtjlnhifleepnoaaGreatDoor
open Go.RowKit

set_option maxRecDepth 100000 in
set_option maxHeartbeats 2000000 in
theorem code_long (s : List UInt8) (w : World) (h : 65536 < s.length) : Calls Tryz.prog 6 #[.string (S s)] w (CodePost w (.error (2, 0))) := by
  have hmf : ∀ (fn : Fn) (first cap : Array Value) (w : World), (Instr.makeFunc fn first cap).run Tryz.prog w = .ok (.func fn first cap) w := fun _ _ _ _ => rfl
  obtain ⟨b, hb⟩ : ∃ b, b = S s := ⟨_, rfl⟩
  have h1 : (65536 : Int) < (b.size : Int) := by rw [hb, S_size]; omega
  rw [← hb]
  clear hb
  go_enter_defers Tryz.func6, Tryz.ntmps6
  go_wp2
  exact ⟨_, res_out (res_new w (.int .i64 0) (.slice none 0 0) (.int .i64 2) (.int .i64 0) 25 26 3) rfl rfl rfl, rfl, below_of_chg ((((Chg.refl _ _).alloc _).alloc _).alloc _)⟩

set_option maxRecDepth 100000 in
set_option maxHeartbeats 2000000 in
theorem code_from (s : List UInt8) (w : World) (R : Except (Int × Int) (Int × List Ins)) (h : ¬ 65536 < s.length) (RW : ∀ W, Below w.heap.size w W → Calls Tryz.prog 13 #[.string (S s)] W (ReadPost W R)) : Calls Tryz.prog 6 #[.string (S s)] w (CodePost w R) := by
  have hmf : ∀ (fn : Fn) (first cap : Array Value) (w : World), (Instr.makeFunc fn first cap).run Tryz.prog w = .ok (.func fn first cap) w := fun _ _ _ _ => rfl
  obtain ⟨b, hb⟩ : ∃ b, b = S s := ⟨_, rfl⟩
  have h1 : ¬ (65536 : Int) < (b.size : Int) := by rw [hb, S_size]; omega
  rw [← hb] at RW ⊢
  clear hb
  cases R with
  | error x =>
    obtain ⟨c, n⟩ := x
    go_enter_defers Tryz.func6, Tryz.ntmps6
    go_wp2_with (first | (go_at_call 13; refine (RW _ (((((Below.refl _ _).alloc (Nat.le_refl _) _).alloc (by simp) _).alloc (by simp; omega) _))).mono ?_; rintro e w4 ⟨he, b4⟩; unfold wrongE at he; subst he; have RS := Lib.hid ((res_new w _ _ _ _ _ _ _).below (b4.mono (by simp))); have B4 := Lib.hid b4; clear b4))
    change Leaves Tryz.prog Tryz.f6 _ _ _ _ _
    refine leaves_cons (f := 12) (args := #[.pointer (some ⟨w.heap.size, 0, none⟩), .pointer (some ⟨w.heap.size + 1, 0, none⟩), .pointer (some ⟨w.heap.size + 2, 0, none⟩)]) (by simp) (by simp [go_sem]) ?_
    refine (catch_wrong w.heap.size c n [] w4 _ _ _ _ RS.out).mono ?_
    rintro e u' w5 ⟨rfl, rfl, rs, b5⟩
    exact ⟨_, res_out rs rfl rfl rfl, rfl, ((((Below.refl _ _).alloc (Nat.le_refl _) _).alloc (by simp) _).alloc (by simp; omega) _).trans ((B4.out.mono (by simp; omega)).trans b5)⟩
  | ok x =>
    obtain ⟨tag, l⟩ := x
    go_enter_defers Tryz.func6, Tryz.ntmps6
    go_wp2_with (first | (go_at_call 13; refine (RW _ (((((Below.refl _ _).alloc (Nat.le_refl _) _).alloc (by simp) _).alloc (by simp; omega) _))).mono ?_; rintro e w4 ⟨v, rfl, o4, b4⟩; obtain ⟨a, cp, rfl⟩ := o4.form; obtain ⟨p0, p1, q, r, f0, f1, f2, f3⟩ := (res_new w _ _ _ _ _ _ _).below (b4.mono (by simp)); have RS := Lib.hid (show Res w4 w.heap.size _ _ _ _ from ⟨p0, p1, q, r, f0, f1, f2, f3⟩); have B4 := Lib.hid b4; have O4 := Lib.hid o4; clear b4 o4))
    change Leaves Tryz.prog Tryz.f6 _ _ _ _ _
    refine leaves_cons (f := 12) (args := #[.pointer (some ⟨w.heap.size, 0, none⟩), .pointer (some ⟨w.heap.size + 1, 0, none⟩), .pointer (some ⟨w.heap.size + 2, 0, none⟩)]) (by simp) (by simp [go_sem]) ?_
    refine (catch_idle _ _ _ _).mono ?_
    rintro e u' w5 ⟨rfl, rfl, rfl⟩
    have hg : ∀ S, w.heap.size ∈ S → w.heap.size + 1 ∈ S → w.heap.size + 2 ∈ S → Chg S w4 ((((w4.setCell ⟨w.heap.size, 0, none⟩ (.int .i64 tag)).setCell ⟨w.heap.size, 1, none⟩ (.slice a l.length cp)).setCell ⟨w.heap.size + 1, 0, none⟩ (.int .i64 0)).setCell ⟨w.heap.size + 2, 0, none⟩ (.int .i64 0)) := fun S h0 h1 h2 =>
      ((((Chg.refl _ _).setCell (.inl h0) _).setCell (.inl h0) _).setCell (.inl h1) _).setCell (.inl h2) _
    refine ⟨_, res_out (res_set RS.out) rfl rfl rfl, _, rfl, ?_, ?_⟩
    · refine (O4.out.keep (hg [w.heap.size, w.heap.size + 1, w.heap.size + 2] (by simp) (by simp) (by simp)) fun k hk => ?_).mono (by simp; omega)
      have := (O4.out.blk k hk).1
      simp at this ⊢
      omega
    · refine ((((Below.refl _ _).alloc (Nat.le_refl _) _).alloc (by simp) _).alloc (by simp; omega) _).trans ((B4.out.mono (by simp; omega)).trans ?_)
      refine Chg.below (hg [w.heap.size, w.heap.size + 1, w.heap.size + 2] (by simp) (by simp) (by simp)) ?_ ?_
      · have := B4.out.size; simp at this; omega
      · simp

/-- What Parse makes of a text: the tag and the instructions, or the error and its line. -/
def codeS (s : List UInt8) : Except (Int × Int) (Int × List Ins) := if 65536 < s.length then .error (2, 0) else readS s
theorem code_walk (s : List UInt8) (w : World) (L : Laid2 w) : Calls Tryz.prog 6 #[.string (S s)] w (CodePost w (codeS s)) := by
  unfold codeS
  split
  · exact code_long s w (by assumption)
  · exact code_from s w _ (by assumption) fun W b => read_walk s W (L.below b) (by omega)
end Go.Proofs.YtjlnhifleepnoaaGreatDoor
