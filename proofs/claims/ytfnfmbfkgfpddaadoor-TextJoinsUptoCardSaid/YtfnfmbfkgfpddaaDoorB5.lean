import Derived.Test.YtfnfmbfkgfpddaaDoorB4
set_option linter.unusedVariables false
set_option linter.unusedSimpArgs false
namespace Go.Proofs.YtfnfmbfkgfpddaaDoor
open Go.RowKit

theorem bytes_ext {x y : ByteArray} (h : x.toList = y.toList) : x = y := by
  rw [ByteArray.toList_eq, ByteArray.toList_eq] at h
  exact ByteArray.ext (Array.ext' h)

def SamePost (w : World) (r : Bool) (e : Ending) (w' : World) : Prop := e = .returned (.bool r) ∧ ∃ n, w' = w.drewN n
set_option maxHeartbeats 400000 in
theorem same_len (w : World) (a1 a2 : Option Addr) (n1 c1 n2 c2 : Nat) (h : n1 ≠ n2) (b1 : n1 ≤ 9223372036854775807) (b2 : n2 ≤ 9223372036854775807) :
    Calls Tryd.prog 25 #[.slice a1 n1 c1, .slice a2 n2 c2] w (SamePost w false) := by
  have hb : ((n1 : Int) == (n2 : Int)) = false := by simp; omega
  have hb2 : ((n1 : Int) != (n2 : Int)) = true := by simp; omega
  clear h
  go_enter Tryd.func25, Tryd.ntmps25
  go_wp2
  go_ret
  exact ⟨rfl, 0, rfl⟩

set_option maxHeartbeats 400000 in
theorem same_nil (w : World) (a1 a2 : Option Addr) (c1 c2 : Nat) :
    Calls Tryd.prog 25 #[.slice a1 0 c1, .slice a2 0 c2] w (SamePost w true) := by
  go_enter Tryd.func25, Tryd.ntmps25
  go_wp2
  refine wp_loop_rounds 1 ?_
  rw [rounds_succ]
  go_wp2
  go_ret
  exact ⟨rfl, 0, rfl⟩

set_option maxHeartbeats 800000 in
theorem same_pos (w : World) (b1 o1 c1 b2 o2 c2 n : Nat) (l m : List ByteArray) (hl : l.length = n) (hm : m.length = n) (hn : n ≤ 9223372036854775807)
    (h1 : ∀ i, i < n → w.cell? ⟨b1, o1 + i, none⟩ = some (.string (l.getD i ⟨#[]⟩))) (h2 : ∀ i, i < n → w.cell? ⟨b2, o2 + i, none⟩ = some (.string (m.getD i ⟨#[]⟩))) :
    Calls Tryd.prog 25 #[.slice (some ⟨b1, o1, none⟩) n c1, .slice (some ⟨b2, o2, none⟩) n c2] w (SamePost w (decide (l = m))) := by
  have hb : ((n : Int) != (n : Int)) = false := by simp
  have HL := Lib.hid hl; clear hl
  have HM := Lib.hid hm; clear hm
  have H1 := Lib.hid h1; clear h1
  have H2 := Lib.hid h2; clear h2
  go_enter Tryd.func25, Tryd.ntmps25
  go_wp2
  go_loopw [5] (fun i wr => ∃ k : Nat, k ≤ n ∧ i = .int .i64 k ∧ (∀ j < k, l.getD j ⟨#[]⟩ = m.getD j ⟨#[]⟩) ∧ ∃ d, wr = w.drewN d) (fun i _ => n - (intOf i).toNat)
  case atStart => exact ⟨0, Nat.zero_le _, rfl, by omega, 0, rfl⟩
  case round =>
    obtain ⟨k, hk, rfl, heq, d, rfl⟩ := hrel
    have HEQ := Lib.hid heq; clear heq
    by_cases hkn : k < n
    · obtain ⟨x, X, g1⟩ : ∃ x, Hid (l.getD k ⟨#[]⟩ = x) ∧ w.cell? ⟨b1, o1 + k, none⟩ = some (.string x) := ⟨_, rfl, H1.out k hkn⟩
      obtain ⟨y, Y, g2⟩ : ∃ y, Hid (m.getD k ⟨#[]⟩ = y) ∧ w.cell? ⟨b2, o2 + k, none⟩ = some (.string y) := ⟨_, rfl, H2.out k hkn⟩
      have i1 : (0 : Int) ≤ k := by omega
      have i2 : (k : Int) < n := by omega
      by_cases he : x = y
      · have HE := Lib.hid he
        have t1 : (x.toList == y.toList) = true := by simp [he]
        clear he
        go_wp2
        go_quiet (fail)
        go_wp2
        go_roundw
        case rel => exact ⟨k + 1, by omega, by go_num, fun j hj => by rcases Nat.lt_succ_iff_lt_or_eq.1 hj with h | rfl; exact HEQ.out j h; rw [X.out, Y.out]; exact HE.out, _, rfl⟩
        case measure => simp [intOf]; omega
      · have t1 : (x.toList == y.toList) = false := by rw [beq_eq_false_iff_ne]; exact fun h => he (bytes_ext h)
        have HE := Lib.hid he
        clear he
        go_wp2
        go_quiet (fail)
        go_wp2
        go_ret
        refine ⟨?_, _, World.drewN_drewN _ _ _⟩
        have : ¬ l = m := fun h => HE.out (by rw [← X.out, ← Y.out, h])
        simp [this]
    · have hkn' : k = n := by omega
      subst hkn'
      go_wp2
      go_ret
      refine ⟨?_, _, rfl⟩
      have : l = m := List.ext_getElem (by rw [HL.out, HM.out]) fun i h1 h2 => by
        have := HEQ.out i (by rw [← HL.out]; exact h1)
        simpa [List.getD, List.getElem?_eq_getElem h1, List.getElem?_eq_getElem h2] using this
      simp [this]

theorem drewN_chg {S : List Nat} {w : World} {n : Nat} : Chg S w (w.drewN n) := (Chg.refl S w).drewN n

theorem same_any (w : World) (u v : Value) (l m : List ByteArray) (h1 : RdS w u l) (h2 : RdS w v m) (b1 : l.length ≤ 9223372036854775807) (b2 : m.length ≤ 9223372036854775807) :
    Calls Tryd.prog 25 #[u, v] w (SamePost w (decide (l = m))) := by
  by_cases hlen : l.length = m.length
  · rcases Nat.eq_zero_or_pos l.length with h0 | h0
    · have e1 : l = [] := List.eq_nil_of_length_eq_zero h0
      have e2 : m = [] := List.eq_nil_of_length_eq_zero (by omega)
      obtain ⟨a, c, rfl⟩ := h1.slice
      obtain ⟨a', c', rfl⟩ := h2.slice
      subst e1 e2
      exact same_nil w a a' c c'
    · obtain ⟨b, off, c, rfl, _, hc⟩ := h1.blk h0
      obtain ⟨b', off', c', rfl, _, hc'⟩ := h2.blk (by omega)
      rw [← hlen] at hc' ⊢
      exact same_pos w b off c b' off' c' l.length l m rfl hlen.symm b1 hc hc'
  · obtain ⟨a, c, rfl⟩ := h1.slice
    obtain ⟨a', c', rfl⟩ := h2.slice
    have : ¬ l = m := fun h => hlen (by rw [h])
    simp only [this, decide_false]
    exact same_len w a a' _ c _ c' hlen b1 b2

end Go.Proofs.YtfnfmbfkgfpddaaDoor
