import Derived.Test.YtphaeodcomgffaaGreatK13
set_option linter.unusedVariables false
set_option linter.unusedSimpArgs false
namespace Go.Proofs.YtphaeodcomgffaaGreat
open Go.RowKit

theorem rmay_at (op n len : Int) (x : Nat) (w : World) (r : Bool) (h : mayS ⟨op, n, x⟩ len = r) : Calls Tryz.prog 172 #[.agg #[.int .i64 op, .int .i64 n, .float .f64 x], .int .i64 len] w fun e w' => e = .returned (.bool r) ∧ Below w.heap.size w w' := by
  subst h
  exact rmay_walk ⟨op, n, x⟩ len w

set_option maxRecDepth 100000 in
set_option maxHeartbeats 1000000 in
theorem rcheck_walk (tag : Int) (v : Value) (l : List Ins) (w : World) (h : RdC w v l) : Calls Tryz.prog 136 #[.agg #[.int .i64 tag, v]] w fun e w' => e = .returned (.int .i64 (checkS tag l)) ∧ Below w.heap.size w w' := by
  obtain ⟨a, c, rfl⟩ := h.slice
  obtain ⟨r, hr⟩ : ∃ r, r = checkS tag l := ⟨_, rfl⟩
  rw [← hr]
  have fin : ∀ w', Chg [] w w' → ¬ okP tag l → Ending.returned (.int .i64 50) = Ending.returned (.int .i64 r) ∧ Below w.heap.size w w' := fun w' c hn => by
    refine ⟨?_, below_of_chg c⟩
    rw [hr]
    unfold checkS
    rw [if_neg hn]
  have good : ∀ w', Chg [] w w' → okP tag l → Ending.returned (.int .i64 0) = Ending.returned (.int .i64 r) ∧ Below w.heap.size w w' := fun w' c hn => by
    refine ⟨?_, below_of_chg c⟩
    rw [hr]
    unfold checkS
    rw [if_pos hn]
  clear hr
  by_cases h1 : tag = 1 ∨ tag = 2
  case neg =>
    have k1 : ¬ tag = 1 := fun e => h1 (.inl e)
    have k2 : ¬ tag = 2 := fun e => h1 (.inr e)
    go_enter Tryz.func136, Tryz.ntmps136
    go_wp2
    go_ret
    exact fin _ ((Chg.refl _ _).alloc _) (fun q => h1 q.1)
  by_cases h2 : 1 ≤ l.length ∧ l.length ≤ 1024
  case neg =>
    have hno : ¬ okP tag l := fun q => h2 ⟨q.2.1, q.2.2.1⟩
    obtain ⟨n, hn⟩ : ∃ n, n = l.length := ⟨_, rfl⟩
    rw [← hn] at h h2 ⊢
    have FIN := Lib.hid fin
    have HNO := Lib.hid hno
    clear fin good hno hn
    rcases (by omega : n = 0 ∨ 1024 < n) with rfl | h3
    · rcases h1 with rfl | rfl
      all_goals
        go_enter Tryz.func136, Tryz.ntmps136
        go_wp2
        go_ret
        exact FIN.out _ ((Chg.refl _ _).alloc _) HNO.out
    · have h3' : (1024 : Int) < n := by omega
      have h4' : ¬ (n : Int) < 1 := by omega
      rcases h1 with rfl | rfl
      all_goals
        go_enter Tryz.func136, Tryz.ntmps136
        go_wp2
        go_ret
        exact FIN.out _ ((Chg.refl _ _).alloc _) HNO.out
  obtain ⟨n, hn⟩ : ∃ n, n = l.length := ⟨_, rfl⟩
  have HN := Lib.hid hn
  rw [← hn] at h h2 ⊢
  obtain ⟨h2, h3⟩ := h2
  have h3' : ¬ (1024 : Int) < n := by omega
  have h4' : ¬ (n : Int) < 1 := by omega
  have RD := Lib.hid h
  have FIN := Lib.hid fin
  have GOOD := Lib.hid good
  have H1 := Lib.hid h1
  have H2 := Lib.hid h2
  have H3 := Lib.hid h3
  clear h fin good hn h2 h3
  rcases h1 with rfl | rfl
  all_goals
    go_enter Tryz.func136, Tryz.ntmps136
    go_wp2
    go_loopw [28] (fun i wr => ∃ k : Nat, i = .int .i64 k ∧ k ≤ n ∧ Chg [] w wr ∧ wr.cell? ⟨w.heap.size, 1, none⟩ = some (.slice a n c) ∧ ∀ j (hj : j < l.length), j < k → mayS l[j] n = true) (fun i _ => n - (intOf i).toNat)
    case atStart => exact ⟨0, rfl, by omega, (Chg.refl _ _).alloc _, cell_of_row _ _ _ _ _ _ (heap_alloc_new _ _), fun j _ h => by omega⟩
    case round =>
      obtain ⟨k, rfl, hk, hchg, hbox, hall⟩ := hrel
      have CH := Lib.hid hchg
      have ALL := Lib.hid hall
      clear hchg hall
      by_cases h : k < n
      · have h' : (k : Int) < n := by omega
        have hkl : k < l.length := by have := HN.out; omega
        obtain ⟨b, off, rfl, -, c0, c1, c2⟩ := (RD.out.keep0 CH.out).at hkl
        obtain ⟨q, hq⟩ : ∃ q, q = l[k] := ⟨_, rfl⟩
        rw [← hq] at c0 c1 c2
        have HQ := Lib.hid hq
        clear hq
        obtain ⟨op, nn, x⟩ := q
        simp only at c0 c1 c2
        have BX := Lib.hid hbox
        have hlt := block_lt_of_cell hbox
        have sf := run_store_float
        cases hm : mayS ⟨op, nn, x⟩ n
        · go_wp2_with (go_at_call 172; refine (rmay_at _ _ _ _ _ _ hm).mono ?_; rintro e w3 ⟨rfl, b3⟩; have B3 := Lib.hid b3; clear b3)
          go_ret
          refine FIN.out _ ((CH.out.alloc _).trans (Chg.of_below B3.out)) (fun ok => ?_)
          have := ok.2.2.2 l[k] (List.getElem_mem hkl)
          rw [← HQ.out, ← HN.out, hm] at this
          cases this
        · go_wp2_with (go_at_call 172; refine (rmay_at _ _ _ _ _ _ hm).mono ?_; rintro e w3 ⟨rfl, b3⟩; have B3 := Lib.hid b3; clear b3)
          go_roundw
          case rel =>
            refine ⟨k + 1, by go_num, by omega, (CH.out.alloc _).trans (Chg.of_below B3.out), ?_, fun j hj hjk => ?_⟩
            · rw [World.cell?_of_block (w := wr) ((((Chg.refl [] wr).alloc _).trans (Chg.of_below B3.out)).block _ hlt (by simp))]
              exact BX.out
            · rcases Nat.lt_succ_iff_lt_or_eq.1 hjk with h5 | rfl
              · exact ALL.out j hj h5
              · rw [← HQ.out]; exact hm
          case measure => simp [intOf]; omega
      · obtain rfl : k = n := by omega
        have h' : ¬ (k : Int) < k := by omega
        go_wp2
        go_ret
        refine GOOD.out _ CH.out ⟨by simp, by rw [← HN.out]; exact H2.out, by rw [← HN.out]; exact H3.out, fun p hp => ?_⟩
        obtain ⟨j, hj, rfl⟩ := List.getElem_of_mem hp
        rw [← HN.out]
        exact ALL.out j hj (by rw [HN.out]; exact hj)
end Go.Proofs.YtphaeodcomgffaaGreat
