import Derived.Test.YtphaeodcomgffaaGreatMO
set_option linter.unusedVariables false
set_option linter.unusedSimpArgs false
namespace Go.Proofs.YtphaeodcomgffaaGreat
open Go.RowKit

theorem eff_bd (op : Int) : 0 ≤ effT op ∧ effT op ≤ 2 ∧ 0 ≤ effL op ∧ effL op ≤ 2 := by
  unfold effT effL
  by_cases h : inOp op
  · rw [if_pos h, if_pos h]
    obtain ⟨h1, h2⟩ := h
    rcases (by omega : op = 1 ∨ op = 2 ∨ op = 3 ∨ op = 4 ∨ op = 5 ∨ op = 6 ∨ op = 7 ∨ op = 8 ∨ op = 9 ∨ op = 10 ∨ op = 11 ∨ op = 12 ∨ op = 13 ∨ op = 14 ∨ op = 15 ∨ op = 16 ∨ op = 17 ∨ op = 18 ∨ op = 19 ∨ op = 20) with rfl | rfl | rfl | rfl | rfl | rfl | rfl | rfl | rfl | rfl | rfl | rfl | rfl | rfl | rfl | rfl | rfl | rfl | rfl | rfl <;> decide
  · rw [if_neg h, if_neg h]; omega

/-- How ready ends. -/
def RdyE (b : Bool) : Ending := if b then .returned (.tuple #[]) else faultE 82
set_option maxRecDepth 100000 in
set_option maxHeartbeats 2000000 in
theorem ready_core {ro : Nat → Nat} {r : Nat} {w : World} {M C tag code m p} (h : MIs ro r w M C tag code m p) (op n : Int) (x : Nat) (t l : Int) (hE : ∀ w, Calls Tryz.prog 161 #[.int .i64 op] w fun e w' => e = .returned (.tuple #[.int .i64 t, .int .i64 l, .int .i64 (effE op)]) ∧ Below w.heap.size w w')
    (ht : 0 ≤ t ∧ t ≤ 2 ∧ 0 ≤ l ∧ l ≤ 2) (h5 : op = 5 → 0 ≤ n ∧ n ≤ 63) (hs : m.stack.length ≤ 64) (hk : m.calls.length ≤ 16) (need : Int) (hneed : need = if op = 5 then n + 1 else t) (A B K : Bool) (hA : A = decide ((m.stack.length : Int) < need)) (hB : B = decide (64 < (m.stack.length : Int) - t + l)) (hK : K = (op == 14 && m.calls.length == 16)) :
    Calls Tryz.prog 130 #[ptr M, .agg #[.int .i64 op, .int .i64 n, .float .f64 x]] w fun e w' => e = RdyE (!(A || B || K)) ∧ Mv ro [] w ro w' := by
  obtain ⟨t1, t2, t3, t4⟩ := ht
  have m0 : Mv ro [] w ro (w.alloc (.cells #[.int .i64 op, .int .i64 n, .float .f64 x] 117)) := (Mv.refl ro [] w).alloc _
  have bx : ∀ W, Below (w.alloc (.cells #[.int .i64 op, .int .i64 n, .float .f64 x] 117)).heap.size (w.alloc (.cells #[.int .i64 op, .int .i64 n, .float .f64 x] 117)) W → ∀ o, W.cell? ⟨w.heap.size, o, none⟩ = (#[.int .i64 op, .int .i64 n, .float .f64 x] : Array Value)[o]? := fun W b o => (b.cell (p := ⟨w.heap.size, o, none⟩) (by simp)).trans (cell_of_row _ _ _ _ _ _ (heap_alloc_new _ _))
  have M0 := Lib.hid m0
  have sf := run_store_float
  have hm := must_bad 82 (by decide)
  unfold faultE at hm
  obtain ⟨sl, hsl⟩ : ∃ k, k = m.stack.length := ⟨_, rfl⟩
  obtain ⟨kl, hkl⟩ : ∃ k, k = m.calls.length := ⟨_, rfl⟩
  have SL : ∀ W, Mv ro [] w ro W → Calls Tryz.prog 162 #[.pointer (some ⟨p.N, 0, none⟩)] W fun e w' => e = .returned (.int .i64 sl) ∧ w' = W := fun W mv => by
    rw [hsl]; exact slen_walk _ _ _ W p.N p.vn m.stack 64 (h.keep0 mv).num
  have IL : ∀ W, Mv ro [] w ro W → Calls Tryz.prog 163 #[.pointer (some ⟨p.K, 0, none⟩)] W fun e w' => e = .returned (.int .i64 kl) ∧ w' = W := fun W mv => by
    rw [hkl]; exact ilen_walk _ _ _ W p.K p.vk m.calls 16 (h.keep0 mv).cal
  rw [← hsl] at hA hB hs
  rw [← hkl] at hK hk
  have cM : ∀ W, Mv ro [] w ro W → W.cell? ⟨M, 23, none⟩ = some (.pointer (some ⟨p.N, 0, none⟩)) ∧ W.cell? ⟨M, 24, none⟩ = some (.pointer (some ⟨p.K, 0, none⟩)) := fun W mv => by
    have hc := (h.keep0 mv).blk.cell
    unfold mcells at hc
    exact ⟨hc 23, hc 24⟩
  clear hsl hkl m0 h
  have fin : ∀ W, Mv ro [] w ro W → ∀ e, e = RdyE (!(A || B || K)) → e = RdyE (!(A || B || K)) ∧ Mv ro [] w ro W := fun W mv e he => ⟨he, mv⟩
  simp only [ptr]
  by_cases o5 : op = 5
  · subst o5
    obtain ⟨n0, n1⟩ := h5 rfl
    rw [if_pos rfl] at hneed
    subst hneed
    have hK' : K = false := hK
    subst hK'
    clear hK h5
    cases A
    · have hA' : ¬ (sl : Int) < n + 1 := of_decide_eq_false hA.symm
      cases B
      · have hB' : ¬ 64 < (sl : Int) - t + l := of_decide_eq_false hB.symm
        clear hA hB fin
        go_enter Tryz.func130, Tryz.ntmps130
        go_wp2_with (first
          | (go_at_call 161; refine (hE _).mono ?_; rintro e w1 ⟨rfl, b1⟩; have bc := bx _ b1; have m1 := M0.out.then_below b1; obtain ⟨c1, c2⟩ := cM _ m1; clear b1)
          | (go_at_call 162; refine (SL _ m1).mono ?_; rintro e w2 ⟨rfl, rfl⟩)
          | (go_at_call 163; refine (IL _ m1).mono ?_; rintro e w2 ⟨rfl, rfl⟩))
        go_end0
        exact ⟨rfl, m1⟩
      · have hB' : 64 < (sl : Int) - t + l := of_decide_eq_true hB.symm
        clear hA hB fin
        go_enter Tryz.func130, Tryz.ntmps130
        go_wp2_with (first
          | (go_at_call 161; refine (hE _).mono ?_; rintro e w1 ⟨rfl, b1⟩; have bc := bx _ b1; have m1 := M0.out.then_below b1; obtain ⟨c1, c2⟩ := cM _ m1; clear b1)
          | (go_at_call 162; refine (SL _ m1).mono ?_; rintro e w2 ⟨rfl, rfl⟩)
          | (go_at_call 129; refine (hm _).mono ?_; rintro e w2 ⟨rfl, rfl⟩))
        exact ⟨rfl, rfl, m1⟩
    · have hA' : (sl : Int) < n + 1 := of_decide_eq_true hA.symm
      clear hA hB fin
      go_enter Tryz.func130, Tryz.ntmps130
      go_wp2_with (first
        | (go_at_call 161; refine (hE _).mono ?_; rintro e w1 ⟨rfl, b1⟩; have bc := bx _ b1; have m1 := M0.out.then_below b1; obtain ⟨c1, c2⟩ := cM _ m1; clear b1)
        | (go_at_call 162; refine (SL _ m1).mono ?_; rintro e w2 ⟨rfl, rfl⟩)
        | (go_at_call 129; refine (hm _).mono ?_; rintro e w2 ⟨rfl, rfl⟩))
      exact ⟨rfl, rfl, m1⟩
  · rw [if_neg o5] at hneed
    subst hneed
    have o5' : (op == 5) = false := by simpa using o5
    clear h5 o5
    cases A
    · have hA' : ¬ (sl : Int) < need := of_decide_eq_false hA.symm
      cases B
      · have hB' : ¬ 64 < (sl : Int) - need + l := of_decide_eq_false hB.symm
        cases K
        · rcases (by simp at hK; rcases (by omega : op = 14 ∨ op ≠ 14) with h | h; exact .inl ⟨h, hK h⟩; exact .inr h : (op = 14 ∧ ¬ kl = 16) ∨ op ≠ 14) with ⟨rfl, hk2⟩ | h14
          · have hk3 : ((kl : Int) == 16) = false := by simp; omega
            clear hA hB hK fin
            go_enter Tryz.func130, Tryz.ntmps130
            go_wp2_with (first
              | (go_at_call 161; refine (hE _).mono ?_; rintro e w1 ⟨rfl, b1⟩; have bc := bx _ b1; have m1 := M0.out.then_below b1; obtain ⟨c1, c2⟩ := cM _ m1; clear b1)
              | (go_at_call 162; refine (SL _ m1).mono ?_; rintro e w2 ⟨rfl, rfl⟩)
              | (go_at_call 163; refine (IL _ m1).mono ?_; rintro e w2 ⟨rfl, rfl⟩))
            go_end0
            exact ⟨rfl, m1⟩
          · have h14' : (op == 14) = false := by simpa using h14
            clear hA hB hK fin h14
            go_enter Tryz.func130, Tryz.ntmps130
            go_wp2_with (first
              | (go_at_call 161; refine (hE _).mono ?_; rintro e w1 ⟨rfl, b1⟩; have bc := bx _ b1; have m1 := M0.out.then_below b1; obtain ⟨c1, c2⟩ := cM _ m1; clear b1)
              | (go_at_call 162; refine (SL _ m1).mono ?_; rintro e w2 ⟨rfl, rfl⟩))
            go_end0
            exact ⟨rfl, m1⟩
        · obtain ⟨rfl, rfl⟩ : op = 14 ∧ kl = 16 := by simpa using hK.symm
          clear hA hB hK fin
          go_enter Tryz.func130, Tryz.ntmps130
          go_wp2_with (first
            | (go_at_call 161; refine (hE _).mono ?_; rintro e w1 ⟨rfl, b1⟩; have bc := bx _ b1; have m1 := M0.out.then_below b1; obtain ⟨c1, c2⟩ := cM _ m1; clear b1)
            | (go_at_call 162; refine (SL _ m1).mono ?_; rintro e w2 ⟨rfl, rfl⟩)
            | (go_at_call 163; refine (IL _ m1).mono ?_; rintro e w2 ⟨rfl, rfl⟩)
            | (go_at_call 129; refine (hm _).mono ?_; rintro e w2 ⟨rfl, rfl⟩))
          exact ⟨rfl, rfl, m1⟩
      · have hB' : 64 < (sl : Int) - need + l := of_decide_eq_true hB.symm
        clear hA hB fin
        go_enter Tryz.func130, Tryz.ntmps130
        go_wp2_with (first
          | (go_at_call 161; refine (hE _).mono ?_; rintro e w1 ⟨rfl, b1⟩; have bc := bx _ b1; have m1 := M0.out.then_below b1; obtain ⟨c1, c2⟩ := cM _ m1; clear b1)
          | (go_at_call 162; refine (SL _ m1).mono ?_; rintro e w2 ⟨rfl, rfl⟩)
          | (go_at_call 129; refine (hm _).mono ?_; rintro e w2 ⟨rfl, rfl⟩))
        exact ⟨rfl, rfl, m1⟩
    · have hA' : (sl : Int) < need := of_decide_eq_true hA.symm
      clear hA hB fin
      go_enter Tryz.func130, Tryz.ntmps130
      go_wp2_with (first
        | (go_at_call 161; refine (hE _).mono ?_; rintro e w1 ⟨rfl, b1⟩; have bc := bx _ b1; have m1 := M0.out.then_below b1; obtain ⟨c1, c2⟩ := cM _ m1; clear b1)
        | (go_at_call 162; refine (SL _ m1).mono ?_; rintro e w2 ⟨rfl, rfl⟩)
        | (go_at_call 129; refine (hm _).mono ?_; rintro e w2 ⟨rfl, rfl⟩))
      exact ⟨rfl, rfl, m1⟩
theorem ready_walk {ro : Nat → Nat} {r : Nat} {w : World} {M C tag code m p} (h : MIs ro r w M C tag code m p) (x : Ins) (h5 : x.op = 5 → 0 ≤ x.n ∧ x.n ≤ 63) (hs : m.stack.length ≤ 64) (hk : m.calls.length ≤ 16) :
    Calls Tryz.prog 130 #[ptr M, .agg #[.int .i64 x.op, .int .i64 x.n, .float .f64 x.x]] w fun e w' => e = RdyE (m.room x) ∧ Mv ro [] w ro w' :=
  ready_core h x.op x.n x.x (effT x.op) (effL x.op) (fun w => effect_walk x.op w) (eff_bd x.op) h5 hs hk _ rfl _ _ _ rfl rfl rfl
end Go.Proofs.YtphaeodcomgffaaGreat
