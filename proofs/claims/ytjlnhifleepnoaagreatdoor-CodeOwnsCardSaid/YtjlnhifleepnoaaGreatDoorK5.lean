import Derived.Test.YtjlnhifleepnoaaGreatDoorK4
set_option linter.unusedVariables false
set_option linter.unusedSimpArgs false
namespace Go.Proofs.YtjlnhifleepnoaaGreatDoor
open Go.RowKit

set_option maxRecDepth 100000 in
set_option maxHeartbeats 2000000 in
theorem rsame_walk (ta tb : Int) (u v : Value) (l m : List Ins) (w : World) (r : Bool) (hu : RdC w u l) (hv : RdC w v m) (hmax : l.length ≤ 9223372036854775807) (hr : r = true ↔ SameP ta tb l m) : Calls Tryz.prog 8 #[.agg #[.int .i64 ta, u], .agg #[.int .i64 tb, v]] w fun e w' => e = .returned (.bool r) ∧ Below w.heap.size w w' := by
  obtain ⟨a, c, rfl⟩ := hu.slice
  obtain ⟨a', c', rfl⟩ := hv.slice
  have NO := Lib.hid (show ∀ w', Chg [] w w' → ¬ SameP ta tb l m → Ending.returned (.bool false) = Ending.returned (.bool r) ∧ Below w.heap.size w w' from fun w' c hn => by
    refine ⟨?_, below_of_chg c⟩
    cases r
    · rfl
    · exact absurd (hr.1 rfl) hn)
  have YES := Lib.hid (show ∀ w', Chg [] w w' → SameP ta tb l m → Ending.returned (.bool true) = Ending.returned (.bool r) ∧ Below w.heap.size w w' from fun w' c hn => by
    refine ⟨?_, below_of_chg c⟩
    rw [hr.2 hn])
  clear hr
  obtain ⟨n, hn⟩ : ∃ n, n = l.length := ⟨_, rfl⟩
  obtain ⟨n', hn'⟩ : ∃ n', n' = m.length := ⟨_, rfl⟩
  rw [← hn] at hu hmax
  rw [← hn'] at hv
  rw [← hn, ← hn']
  by_cases ht : ta = tb
  case neg =>
    have HNO := Lib.hid (show ¬ SameP ta tb l m from fun q => ht q.1)
    have t1 : (ta == tb) = false := by simpa using ht
    clear hn hn' hu hv
    go_enter Tryz.func8, Tryz.ntmps8
    go_wp2
    go_ret
    exact NO.out _ (((Chg.refl _ _).alloc _).alloc _) HNO.out
  by_cases hl : n = n'
  case neg =>
    have HNO := Lib.hid (show ¬ SameP ta tb l m from fun q => hl (by rw [hn, hn']; exact q.2.1))
    have t1 : (ta == tb) = true := by simpa using ht
    have t2 : ((n : Int) == (n' : Int)) = false := by simpa [Int.ofNat_inj] using hl
    clear hn hn' hu hv
    go_enter Tryz.func8, Tryz.ntmps8
    go_wp2
    go_ret
    exact NO.out _ (((Chg.refl _ _).alloc _).alloc _) HNO.out
  have hmax' : (n : Int) ≤ 9223372036854775807 := by omega
  subst ht
  have HL := Lib.hid hn
  have HM := Lib.hid (hl ▸ hn' : n = m.length)
  clear hn hn'
  subst hl
  have U := Lib.hid hu
  have V := Lib.hid hv
  clear hu hv
  have t1 : (ta == ta) = true := by simp
  have t2 : ((n : Int) == (n : Int)) = true := by simp
  go_enter Tryz.func8, Tryz.ntmps8
  go_wp2
  go_loopw [25] (fun i wr => ∃ k : Nat, i = .int .i64 k ∧ k ≤ n ∧ Chg [] w wr ∧ wr.cell? ⟨w.heap.size + 1, 1, none⟩ = some (.slice a' n c') ∧ ∀ j (hj : j < l.length) (hj' : j < m.length), j < k → SameI l[j] m[j]) (fun i _ => n - (intOf i).toNat)
  case atStart =>
    refine ⟨0, rfl, by omega, ((Chg.refl _ _).alloc _).alloc _, ?_, fun j _ _ h => by omega⟩
    simp
  case round =>
    obtain ⟨k, rfl, hk, hchg, hbox, hall⟩ := hrel
    have CH := Lib.hid hchg
    have ALL := Lib.hid hall
    clear hchg hall
    by_cases h : k < n
    · have h' : (k : Int) < n := by omega
      have hkl : k < l.length := by have := HL.out; omega
      have hkm : k < m.length := by have := HM.out; omega
      obtain ⟨b, off, rfl, -, c0, c1, c2⟩ := (U.out.keep0 CH.out).at hkl
      obtain ⟨b', off', rfl, -, d0, d1, d2⟩ := (V.out.keep0 CH.out).at hkm
      have hlb := block_lt_of_cell c0
      have hlb' := block_lt_of_cell d0
      obtain ⟨p, hp⟩ : ∃ p, p = l[k] := ⟨_, rfl⟩
      obtain ⟨q, hq⟩ : ∃ q, q = m[k] := ⟨_, rfl⟩
      rw [← hp] at c0 c1 c2
      rw [← hq] at d0 d1 d2
      have HP := Lib.hid hp
      have HQ := Lib.hid hq
      clear hp hq
      obtain ⟨o1, n1, x1⟩ := p
      obtain ⟨o2, n2, x2⟩ := q
      simp only at c0 c1 c2 d0 d1 d2
      have BX := Lib.hid hbox
      have hlt := block_lt_of_cell hbox
      have sf := run_store_float
      have NOK := Lib.hid (show ¬ SameI ⟨o1, n1, x1⟩ ⟨o2, n2, x2⟩ → ¬ SameP ta ta l m from fun hh q => hh (by rw [HP.out, HQ.out]; exact q.2.2 k hkl hkm))
      by_cases e1 : o1 = o2
      case neg =>
        have s1 : (o1 == o2) = false := by simpa using e1
        have HH := Lib.hid (show ¬ SameI ⟨o1, n1, x1⟩ ⟨o2, n2, x2⟩ from fun q => e1 q.1)
        go_wp2
        go_quiet ((go_at_call 16; refine Calls.quiet_of_same (rbits_walk _ _)))
        go_wp2
        go_ret
        exact NO.out _ (by first | exact ((CH.out.alloc _).alloc _) | exact ((CH.out.alloc _).alloc _).drew | exact ((CH.out.alloc _).alloc _).drewN _) (NOK.out HH.out)
      subst e1
      by_cases e2 : n1 = n2
      case neg =>
        have s2 : (n1 == n2) = false := by simpa using e2
        have HH := Lib.hid (show ¬ SameI ⟨o1, n1, x1⟩ ⟨o1, n2, x2⟩ from fun q => e2 q.2.1)
        go_wp2
        go_quiet ((go_at_call 16; refine Calls.quiet_of_same (rbits_walk _ _)))
        go_wp2
        go_ret
        exact NO.out _ (by first | exact ((CH.out.alloc _).alloc _) | exact ((CH.out.alloc _).alloc _).drew | exact ((CH.out.alloc _).alloc _).drewN _) (NOK.out HH.out)
      subst e2
      by_cases e3 : fx x1 = fx x2
      case neg =>
        have s3 : (fx x1 == fx x2) = false := by simpa using e3
        have s4 : ((fx x1 : Int) == (fx x2 : Int)) = false := by rw [cast_beq]; exact s3
        have HH := Lib.hid (show ¬ SameI ⟨o1, n1, x1⟩ ⟨o1, n1, x2⟩ from fun q => e3 q.2.2)
        clear e3
        go_wp2
        go_quiet ((go_at_call 16; refine Calls.quiet_of_same (rbits_walk _ _)))
        go_wp2
        go_ret
        exact NO.out _ (by first | exact ((CH.out.alloc _).alloc _) | exact ((CH.out.alloc _).alloc _).drew | exact ((CH.out.alloc _).alloc _).drewN _) (NOK.out HH.out)
      have s3 : (fx x1 == fx x2) = true := by simpa using e3
      have s4 : ((fx x1 : Int) == (fx x2 : Int)) = true := by rw [cast_beq]; exact s3
      have HH := Lib.hid (show SameI ⟨o1, n1, x1⟩ ⟨o1, n1, x2⟩ from ⟨rfl, rfl, e3⟩)
      clear e3
      go_wp2
      go_quiet ((go_at_call 16; refine Calls.quiet_of_same (rbits_walk _ _)))
      go_wp2
      go_roundw
      case rel =>
        refine ⟨k + 1, by go_num, by omega, (by first | exact ((CH.out.alloc _).alloc _) | exact ((CH.out.alloc _).alloc _).drew | exact ((CH.out.alloc _).alloc _).drewN _), ?_, fun j hj hj' hjk => ?_⟩
        · rw [World.cell?_of_block (w := wr)]
          · exact BX.out
          · refine Chg.block (S := []) ?_ _ hlt (by simp)
            first | exact (((Chg.refl [] wr).alloc _).alloc _) | exact (((Chg.refl [] wr).alloc _).alloc _).drew | exact (((Chg.refl [] wr).alloc _).alloc _).drewN _
        · rcases Nat.lt_succ_iff_lt_or_eq.1 hjk with h5 | rfl
          · exact ALL.out j hj hj' h5
          · rw [← HP.out, ← HQ.out]; exact HH.out
      case measure => simp [intOf]; omega
    · obtain rfl : k = n := by omega
      have h' : ¬ (k : Int) < k := by omega
      go_wp2
      go_ret
      refine YES.out _ CH.out ⟨rfl, by rw [← HL.out, ← HM.out], fun j hj hj' => ALL.out j hj hj' (by rw [HL.out]; exact hj)⟩
end Go.Proofs.YtjlnhifleepnoaaGreatDoor
