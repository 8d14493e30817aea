import Derived.Test.YtfnfmbfkgfpddaaDoorB2
set_option linter.unusedVariables false
set_option linter.unusedSimpArgs false
namespace Go.Proofs.YtfnfmbfkgfpddaaDoor
open Go.RowKit

def blank (c : Nat) : Prop := c = 32 ∨ c = 9
instance (c : Nat) : Decidable (blank c) := inferInstanceAs (Decidable (_ ∨ _))
/-- The words that end before place i, and behind which place the next one begins. -/
def wordsSt (s : ByteArray) : Nat → List ByteArray × Nat
  | 0 => ([], 0)
  | i + 1 => if blank (bt s i) then (if (wordsSt s i).2 < i then (wordsSt s i).1 ++ [s.extract (wordsSt s i).2 i] else (wordsSt s i).1, i + 1) else wordsSt s i
def words (s : ByteArray) : List ByteArray :=
  if (wordsSt s s.size).2 < s.size then (wordsSt s s.size).1 ++ [s.extract (wordsSt s s.size).2 s.size] else (wordsSt s s.size).1
def splitL (s : ByteArray) : List ByteArray := if 1024 < s.size then [] else words s
def splitE (s : ByteArray) : Int := if 1024 < s.size then 2 else 0

theorem wordsSt_hit {s : ByteArray} {i : Nat} {L : List ByteArray} {f : Nat} (h : wordsSt s i = (L, f)) (hb : blank (bt s i)) (hf : f < i) : wordsSt s (i + 1) = (L ++ [s.extract f i], i + 1) := by
  simp [wordsSt, h, hb, hf]
theorem wordsSt_gap {s : ByteArray} {i : Nat} {L : List ByteArray} {f : Nat} (h : wordsSt s i = (L, f)) (hb : blank (bt s i)) (hf : ¬ f < i) : wordsSt s (i + 1) = (L, i + 1) := by
  simp [wordsSt, h, hb, hf]
theorem wordsSt_miss {s : ByteArray} {i : Nat} {L : List ByteArray} {f : Nat} (h : wordsSt s i = (L, f)) (hb : ¬ blank (bt s i)) : wordsSt s (i + 1) = (L, f) := by
  simp [wordsSt, h, hb]
theorem wordsSt_skip {s : ByteArray} {i : Nat} {L : List ByteArray} {f : Nat} (h : wordsSt s i = (L, f)) : ∀ n, (∀ j, i ≤ j → j < i + n → ¬ blank (bt s j)) → wordsSt s (i + n) = (L, f)
  | 0, _ => h
  | n + 1, hb => by
    have := wordsSt_skip h n (fun j h1 h2 => hb j h1 (by omega))
    exact wordsSt_miss this (hb (i + n) (by omega) (by omega))
theorem wordsSt_le (s : ByteArray) : ∀ i L f, wordsSt s i = (L, f) → f ≤ i ∧ L.length ≤ i
  | 0, L, f, h => by simp [wordsSt] at h; obtain ⟨rfl, rfl⟩ := h; simp
  | i + 1, L, f, h => by
    rcases hq : wordsSt s i with ⟨L0, f0⟩
    have ih := wordsSt_le s i L0 f0 hq
    by_cases hb : blank (bt s i)
    · by_cases hf : f0 < i
      · rw [wordsSt_hit hq hb hf] at h
        simp at h
        obtain ⟨rfl, rfl⟩ := h
        simp; omega
      · rw [wordsSt_gap hq hb hf] at h
        simp at h
        obtain ⟨rfl, rfl⟩ := h
        omega
    · rw [wordsSt_miss hq hb] at h
      simp at h
      obtain ⟨rfl, rfl⟩ := h
      omega
theorem words_add {s : ByteArray} {L : List ByteArray} {f : Nat} (h : wordsSt s s.size = (L, f)) (hf : f < s.size) : words s = L ++ [s.extract f s.size] := by simp [words, h, hf]
theorem words_end {s : ByteArray} {L : List ByteArray} {f : Nat} (h : wordsSt s s.size = (L, f)) (hf : ¬ f < s.size) : words s = L := by simp [words, h, hf]

def SplitPost (w : World) (s : ByteArray) (e : Ending) (w' : World) : Prop := ∃ v, e = .returned (.tuple #[v, .int .i64 (splitE s)]) ∧ OwnS w' w.heap.size v (splitL s) ∧ Chg [] w w'

set_option maxRecDepth 100000 in
set_option maxHeartbeats 4000000 in
theorem rsplit_walk (s : ByteArray) (w : World) : Calls Tryd.prog 24 #[.string s] w (SplitPost w s) := by
  by_cases hs : 1024 < s.size
  · have e1 : splitL s = [] := by simp [splitL, hs]
    have e2 : splitE s = 2 := by simp [splitE, hs]
    unfold SplitPost
    rw [e1, e2]
    have hs' : (1024 : Int) < s.size := by omega
    go_enter Tryd.func24, Tryd.ntmps24
    go_wp2
    go_ret2
    exact ⟨_, rfl, OwnS.nil _ _, Chg.refl _ _⟩
  · have e1 : splitL s = words s := by simp [splitL, hs]
    have e2 : splitE s = 0 := by simp [splitE, hs]
    unfold SplitPost
    rw [e1, e2]
    clear e1 e2
    have hs' : ¬ (1024 : Int) < s.size := by omega
    go_enter Tryd.func24, Tryd.ntmps24
    go_wp2
    go_loopw [4, 5, 6] (fun v f n wr => ∃ (i : Nat) (L : List ByteArray) (g : Nat), n = .int .i64 i ∧ f = .int .i64 g ∧ i ≤ s.size + 1 ∧ g ≤ i ∧ L.length ≤ i ∧ (i ≤ s.size → wordsSt s i = (L, g)) ∧ (i = s.size + 1 → words s = L) ∧ OwnS wr w.heap.size v L ∧ Chg [] w wr) (fun _ _ n _ => s.size + 1 - (intOf n).toNat)
    case atStart => exact ⟨0, [], 0, rfl, rfl, by omega, by omega, by simp, fun _ => rfl, fun h => by omega, OwnS.nil _ _, Chg.refl _ _⟩
    case round =>
      obtain ⟨i, L, g, rfl, rfl, hi, hg, hL, hst, hend, hown, hchg⟩ := hrel
      have OWN := Lib.hid hown; clear hown
      have CHG := Lib.hid hchg; clear hchg
      have hblk := OWN.out.blk
      have ST := Lib.hid hst; clear hst
      have EN := Lib.hid hend; clear hend
      by_cases h : i < s.size
      · have h' : (i : Int) ≤ s.size := by omega
        have h'' : ((i : Int) == (s.size : Int)) = false := by simp only [beq_eq_false_iff_ne, ne_eq]; omega
        have e := bt_eq h
        have hst := Lib.hid (ST.out (by omega))
        by_cases hb : blank (bt s i)
        · have hb' : ((s[i]'h).toNat : Int) = 32 ∨ ((s[i]'h).toNat : Int) = 9 := by unfold blank at hb; omega
          by_cases hgi : g < i
          · have E := Lib.hid (wordsSt_hit hst.out hb hgi)
            have hgi' : (g : Int) < i := by omega
            rcases hb' with hb' | hb'
            all_goals
              go_wp2_with (at_builtin; refine push_str rfl _ _ rfl w.heap.size L _ rfl OWN.out rfl (by omega) CHG.out.size ?_; intro v' w1 hown1 hgrow; have OWN1 := Lib.hid hown1; clear hown1; have GR := Lib.hid hgrow; clear hgrow)
              go_roundw
              case rel => exact ⟨i + 1, _, i + 1, by go_num, by go_num, by omega, by omega, by simp; omega, fun _ => E.out, fun h => by omega, OWN1.out, (CHG.out.alloc _).grown GR.out fun j hj => .inr (hblk j hj).1⟩
              case measure => simp [intOf] <;> omega
          · have E := Lib.hid (wordsSt_gap hst.out hb hgi)
            have hgi' : ¬ (g : Int) < i := by omega
            rcases hb' with hb' | hb'
            all_goals
              go_wp2
              go_roundw
              case rel => exact ⟨i + 1, _, i + 1, by go_num, by go_num, by omega, by omega, by omega, fun _ => E.out, fun h => by omega, OWN.out, CHG.out⟩
              case measure => simp [intOf] <;> omega
        · have E := Lib.hid (wordsSt_miss hst.out hb)
          have hb1 : (((s[i]'h).toNat : Int) == 32) = false := by unfold blank at hb; simp only [beq_eq_false_iff_ne, ne_eq]; omega
          have hb2 : (((s[i]'h).toNat : Int) == 9) = false := by unfold blank at hb; simp only [beq_eq_false_iff_ne, ne_eq]; omega
          go_wp2
          go_roundw
          case rel => exact ⟨i + 1, _, g, by go_num, by go_num, by omega, by omega, by omega, fun _ => E.out, fun h => by omega, OWN.out, CHG.out⟩
          case measure => simp [intOf] <;> omega
      · by_cases hi2 : i = s.size
        · subst hi2
          have hst := Lib.hid (ST.out (by omega))
          by_cases hgi : g < s.size
          · have E := Lib.hid (words_add hst.out hgi)
            have hgi' : (g : Int) < s.size := by omega
            go_wp2_with (at_builtin; refine push_str rfl _ _ rfl w.heap.size L _ rfl OWN.out rfl (by omega) CHG.out.size ?_; intro v' w1 hown1 hgrow; have OWN1 := Lib.hid hown1; clear hown1; have GR := Lib.hid hgrow; clear hgrow)
            go_roundw
            case rel => exact ⟨s.size + 1, _, s.size + 1, by go_num, by go_num, by omega, by omega, by simp; omega, fun h => by omega, fun _ => E.out, OWN1.out, (CHG.out.alloc _).grown GR.out fun j hj => .inr (hblk j hj).1⟩
            case measure => simp [intOf] <;> omega
          · have E := Lib.hid (words_end hst.out hgi)
            have hgi' : ¬ (g : Int) < s.size := by omega
            go_wp2
            go_roundw
            case rel => exact ⟨s.size + 1, _, s.size + 1, by go_num, by go_num, by omega, by omega, by omega, fun h => by omega, fun _ => E.out, OWN.out, CHG.out⟩
            case measure => simp [intOf] <;> omega
        · have hi3 : i = s.size + 1 := by omega
          have E := Lib.hid (EN.out hi3)
          have h' : ¬ (i : Int) ≤ s.size := by omega
          go_wp2
          go_ret2
          exact ⟨_, rfl, by rw [E.out]; exact OWN.out, CHG.out⟩
end Go.Proofs.YtfnfmbfkgfpddaaDoor
