import Derived.Test.YtjlnhifleepnoaaGreatDoorK7
import Derived.Test.YtjlnhifleepnoaaGreatDoorU1
set_option linter.unusedVariables false
set_option linter.unusedSimpArgs false
namespace Go.Proofs.YtjlnhifleepnoaaGreatDoor
open Go.RowKit

set_option maxRecDepth 100000 in
theorem rones_walk (w : World) : Calls Tryz.prog 27 #[] w fun e w' => e = .returned (.slice (some ⟨w.heap.size, 0, none⟩) 9 9) ∧ ∃ T, w' = w.alloc (.cells (strs onesB) T) := by
  go_enter Tryz.func27, Tryz.ntmps27
  go_wp2
  go_ret
  exact ⟨rfl, _, rfl⟩
set_option maxRecDepth 100000 in
theorem rtwos_walk (w : World) : Calls Tryz.prog 28 #[] w fun e w' => e = .returned (.slice (some ⟨w.heap.size, 0, none⟩) 13 13) ∧ ∃ T, w' = w.alloc (.cells (strs twosB) T) := by
  go_enter Tryz.func28, Tryz.ntmps28
  go_wp2
  go_ret
  exact ⟨rfl, _, rfl⟩

/-- The place of a word among some, from place i on. -/
def atS (L : List ByteArray) (s : List UInt8) : Nat → Nat → Nat
  | 0, _ => 0
  | k + 1, i => if (L.getD i ⟨#[]⟩).toList = s then i else atS L s k (i + 1)

set_option maxRecDepth 100000 in
set_option maxHeartbeats 1000000 in
theorem at_walk (L : List ByteArray) (n b : Nat) (hn : n = L.length) (s : ByteArray) (w : World) (hc : ∀ i, i < n → w.cell? ⟨b, i, none⟩ = some (.string (L.getD i ⟨#[]⟩))) (hmax : n ≤ 100) : Calls Tryz.prog 26 #[.slice (some ⟨b, 0, none⟩) n n, .string s] w fun e w' => e = .returned (.int .i64 (atS L s.toList (n - 1) 1)) ∧ w' = w := by
  obtain ⟨R, hR⟩ : ∃ R, R = atS L s.toList (n - 1) 1 := ⟨_, rfl⟩
  have HR := Lib.hid hR
  rw [← hR]
  have HC := Lib.hid hc
  clear hR hc hn
  go_enter Tryz.func26, Tryz.ntmps26
  go_wp2
  go_loopw [5] (fun i wr => ∃ k : Nat, wr = w ∧ i = .int .i64 k ∧ 1 ≤ k ∧ (n ≤ k → R = 0) ∧ (k < n → atS L s.toList (n - k) k = R) ∧ k ≤ n + 1) (fun i _ => n + 1 - (intOf i).toNat)
  case atStart =>
    refine ⟨1, rfl, rfl, by omega, fun h => ?_, fun h => HR.out.symm, by omega⟩
    rw [HR.out, show n - 1 = 0 by omega]; rfl
  case round =>
    obtain ⟨k, rfl, rfl, hk, h0, hs, hkn⟩ := hrel
    have H0 := Lib.hid h0
    have HS := Lib.hid hs
    clear h0 hs
    by_cases h : k < n
    · have h' : (k : Int) < n := by omega
      have c1 := HC.out k h
      obtain ⟨x, hx⟩ : ∃ x, x = L.getD k ⟨#[]⟩ := ⟨_, rfl⟩
      rw [← hx] at c1
      have h2 := HS.out h
      rw [show n - k = (n - (k + 1)) + 1 by omega, atS, ← hx] at h2
      by_cases e : x.toList = s.toList
      · rw [if_pos e] at h2
        have t1 : (x.toList == s.toList) = true := by simp [e]
        have H2 := Lib.hid h2
        clear h2 e hx
        go_wp2
        go_ret
        exact ⟨congrArg (fun z : Nat => Ending.returned (Value.int .i64 (z : Int))) H2.out, rfl⟩
      · rw [if_neg e] at h2
        have t1 : (x.toList == s.toList) = false := by rw [beq_eq_false_iff_ne]; exact e
        have H2 := Lib.hid h2
        clear h2 e hx
        go_wp2
        go_roundw
        case rel =>
          refine ⟨k + 1, trivial, by go_num, by omega, fun h3 => ?_, fun h3 => H2.out, by omega⟩
          rw [← H2.out, show n - (k + 1) = 0 by omega]; rfl
        case measure => simp [intOf]; omega
    · have h' : ¬ (k : Int) < n := by omega
      have H2 := Lib.hid (H0.out (by omega))
      go_wp2
      go_ret
      exact ⟨congrArg (fun z : Nat => Ending.returned (Value.int .i64 (z : Int))) H2.out.symm, rfl⟩

theorem ext_S (s : ByteArray) (a b : Nat) : s.extract a b = S ((s.data.toList.drop a).take (b - a)) := by
  have h : (s.extract a b).data.toList = (s.data.toList.drop a).take (b - a) := by rw [← ByteArray.toList_eq]; exact Lib.extract_toList s a b
  have e : ∀ x : ByteArray, x = S x.data.toList := fun x => by simp [S]
  rw [e (s.extract a b), h]
theorem split_get (s : ByteArray) (k : Nat) (h : k < s.size) : s.data.toList = s.data.toList.take k ++ (s[k]'h) :: s.data.toList.drop (k + 1) := by
  have hl : k < s.data.toList.length := by rw [← Lib.size_eq]; exact h
  have e : s.data.toList[k]'hl = s[k]'h := rfl
  rw [← e, List.getElem_cons_drop, List.take_append_drop]
theorem not_take {s : ByteArray} {k : Nat} {c : UInt8} (h : ∀ j (hj : j < s.size), j < k → s[j]'hj ≠ c) : c ∉ s.data.toList.take k := by
  intro hc
  obtain ⟨j, hj, e⟩ := List.getElem_of_mem hc
  have hj1 : j < k ∧ j < s.data.toList.length := by rw [List.length_take] at hj; omega
  have hj2 : j < s.size := by rw [Lib.size_eq]; exact hj1.2
  rw [List.getElem_take] at e
  exact h j hj2 hj1.1 e

set_option maxRecDepth 100000 in
set_option maxHeartbeats 1000000 in
/-- The document's cut. -/
theorem dcut_walk (s : ByteArray) (w : World) (hs : s.size < 4294967281) : Calls Tryz.prog 25 #[.string s] w fun e w' => e = .returned (.tuple #[.string (S (Lib.cut s.data.toList [32]).1), .string (S (Lib.cut s.data.toList [32]).2.1), .bool (Lib.cut s.data.toList [32]).2.2]) ∧ Below w.heap.size w w' := by
  go_enter Tryz.func25, Tryz.ntmps25
  go_wp2
  go_loopw [5] (fun n wr => ∃ k : Nat, wr = w ∧ n = .int .i64 k ∧ k ≤ s.size ∧ ∀ j (hj : j < s.size), j < k → s[j]'hj ≠ 32) (fun n _ => s.size - (intOf n).toNat)
  case atStart => exact ⟨0, rfl, rfl, by omega, fun j _ h => by omega⟩
  case round =>
    obtain ⟨k, rfl, rfl, hk, hn⟩ := hrel
    have HN := Lib.hid hn
    clear hn
    by_cases h : k < s.size
    · have h' : (k : Int) < s.size := by omega
      have hk0 : k ≤ s.size := hk
      have hk1 : (k : Int) ≤ s.size := by omega
      have hk2 : (k : Int) + 1 ≤ s.size := by omega
      by_cases e : s[k]'h = 32
      · have t1 : (((s[k]'h).toNat : Int) == 32) = true := by rw [e]; rfl
        have hc : Lib.cut s.data.toList [32] = (s.data.toList.take k, s.data.toList.drop (k + 1), true) := by
          have hsp := split_get s k h
          rw [e] at hsp
          conv => lhs; rw [hsp]
          exact cut_mk 32 _ _ (not_take HN.out)
        have e1 : s.extract 0 k = S (Lib.cut s.data.toList [32]).1 := by rw [hc, ext_S]; simp
        have e2 : s.extract (k + 1) s.size = S (Lib.cut s.data.toList [32]).2.1 := by
          rw [hc, ext_S, List.take_of_length_le (by rw [List.length_drop, Lib.size_eq]; exact Nat.le_refl _)]
        have E1 := Lib.hid e1
        have E2 := Lib.hid e2
        have E3 := Lib.hid (show true = (Lib.cut s.data.toList [32]).2.2 from by rw [hc])
        clear e e1 e2 hc
        have EQ := Lib.hid (show Value.tuple #[.string (s.extract 0 k), .string (s.extract (k + 1) s.size), .bool true] = .tuple #[.string (S (Lib.cut s.data.toList [32]).1), .string (S (Lib.cut s.data.toList [32]).2.1), .bool (Lib.cut s.data.toList [32]).2.2] from by rw [← E1.out, ← E2.out, ← E3.out])
        go_wp2
        go_region
        go_wp2
        go_ret3
        exact ⟨congrArg Ending.returned EQ.out, (Below.refl _ _).drew⟩
      · have t1 : (((s[k]'h).toNat : Int) == 32) = false := by
          rw [beq_eq_false_iff_ne]
          intro h2
          exact e (UInt8.toNat_inj.1 (by have : (s[k]'h).toNat = 32 := by omega
                                         exact this))
        have E := Lib.hid e
        clear e
        go_wp2
        go_roundw
        case rel => exact ⟨k + 1, trivial, by go_num, by omega, fun j hj hjk => by rcases Nat.lt_succ_iff_lt_or_eq.1 hjk with h5 | rfl; exact HN.out j hj h5; exact E.out⟩
        case measure => simp [intOf]; omega
    · obtain rfl : k = s.size := by omega
      have h' : ¬ ((s.size : Int)) < s.size := by omega
      have hno : 32 ∉ s.data.toList := by
        have := not_take (k := s.size) HN.out
        rwa [List.take_of_length_le (by rw [Lib.size_eq]; exact Nat.le_refl _)] at this
      have hc := cut_no 32 s.data.toList hno
      have e1 : s = S (Lib.cut s.data.toList [32]).1 := by rw [hc]; simp [S]
      have E1 := Lib.hid e1
      have E2 := Lib.hid (show (⟨#[]⟩ : ByteArray) = S (Lib.cut s.data.toList [32]).2.1 from by rw [hc]; rfl)
      have E3 := Lib.hid (show false = (Lib.cut s.data.toList [32]).2.2 from by rw [hc])
      have EQ := Lib.hid (show Value.tuple #[.string s, .string ⟨#[]⟩, .bool false] = .tuple #[.string (S (Lib.cut s.data.toList [32]).1), .string (S (Lib.cut s.data.toList [32]).2.1), .bool (Lib.cut s.data.toList [32]).2.2] from by rw [← E1.out, ← E2.out, ← E3.out])
      clear e1 hc hno
      go_wp2
      go_ret3
      exact ⟨congrArg Ending.returned EQ.out, Below.refl _ _⟩
end Go.Proofs.YtjlnhifleepnoaaGreatDoor
