import Derived.Test.YtphaeodcomgffaaGreatK2
set_option linter.unusedVariables false
set_option linter.unusedSimpArgs false
namespace Go.Proofs.YtphaeodcomgffaaGreat
open Go.RowKit

/-- The slice v reads as these rows of cells, 'size' cells each. -/
def Rd (w : World) (size : Nat) (v : Value) (rows : List (List Value)) : Prop :=
  (rows = [] ∧ (v = .slice none 0 0 ∨ ∃ a c, v = .slice (some a) 0 c)) ∨
  ∃ b off c, v = .slice (some ⟨b, off, none⟩) rows.length c ∧ 0 < rows.length ∧ b < w.heap.size ∧ ∀ i j, i < rows.length → j < size → w.cell? ⟨b, off + i * size + j, none⟩ = (rows.getD i [])[j]?

theorem Rd.slice {w size v l} (h : Rd w size v l) : ∃ a c, v = .slice a l.length c := by
  rcases h with ⟨rfl, h | ⟨a, c, h⟩⟩ | ⟨b, off, c, h, _⟩
  · exact ⟨_, _, h⟩
  · exact ⟨_, _, h⟩
  · exact ⟨_, _, h⟩
theorem Rd.blk {w size v l} (h : Rd w size v l) (hl : 0 < l.length) : ∃ b off c, v = .slice (some ⟨b, off, none⟩) l.length c ∧ b < w.heap.size ∧ ∀ i j, i < l.length → j < size → w.cell? ⟨b, off + i * size + j, none⟩ = (l.getD i [])[j]? := by
  rcases h with ⟨rfl, _⟩ | ⟨b, off, c, h, _, hb, hc⟩
  · simp at hl
  · exact ⟨b, off, c, h, hb, hc⟩
theorem Rd.keep {w w' : World} {size : Nat} {v : Value} {l : List (List Value)} {S : List Nat} (h : Rd w size v l) (c : Chg S w w') (hs : ∀ k, v.ownBlock = some k → k ∉ S) : Rd w' size v l := by
  rcases h with h | ⟨b, off, k, rfl, hl, hb, hc⟩
  · exact .inl h
  · refine .inr ⟨b, off, k, rfl, hl, Nat.lt_of_lt_of_le hb c.size, fun i j hi hj => ?_⟩
    rw [World.cell?_of_block (w := w) (c.block b hb (hs b rfl))]
    exact hc i j hi hj
theorem Rd.keep0 {w w' : World} {size : Nat} {v : Value} {l : List (List Value)} (h : Rd w size v l) (c : Chg [] w w') : Rd w' size v l := h.keep c (by simp)


def Ins.row (p : Ins) : List Value := [.int .i64 p.op, .int .i64 p.n, .float .f64 p.x]
/-- The slice v reads as these instructions. -/
def RdC (w : World) (v : Value) (l : List Ins) : Prop := Rd w 3 v (l.map Ins.row)
theorem RdC.slice {w v l} (h : RdC w v l) : ∃ a c, v = .slice a l.length c := by
  have := Rd.slice h
  simpa using this
theorem RdC.keep0 {w w' : World} {v : Value} {l : List Ins} (h : RdC w v l) (c : Chg [] w w') : RdC w' v l := Rd.keep0 h c
/-- The cells of instruction k. -/
theorem RdC.at {w : World} {a : Option Addr} {n c : Nat} {l : List Ins} (h : RdC w (.slice a n c) l) {k : Nat} (hk : k < l.length) :
    ∃ b off, a = some ⟨b, off, none⟩ ∧ n = l.length ∧ w.cell? ⟨b, off + k * 3, none⟩ = some (.int .i64 l[k].op) ∧ w.cell? ⟨b, off + k * 3 + 1, none⟩ = some (.int .i64 l[k].n) ∧ w.cell? ⟨b, off + k * 3 + 2, none⟩ = some (.float .f64 l[k].x) := by
  obtain ⟨b, off, c', h1, h2, h3⟩ := Rd.blk h (by simp; omega)
  simp only [Value.slice.injEq, List.length_map] at h1
  obtain ⟨ha, hn, _⟩ := h1
  have g : ∀ j, j < 3 → w.cell? ⟨b, off + k * 3 + j, none⟩ = l[k].row[j]? := fun j hj => by
    have := h3 k j (by simpa using hk) hj
    rw [this]
    simp [List.getD, List.getElem?_map, List.getElem?_eq_getElem hk]
  exact ⟨b, off, ha, hn, g 0 (by omega), g 1 (by omega), g 2 (by omega)⟩

theorem may_at (op n len : Int) (x : Nat) (w : World) (r : Bool) (h : mayS ⟨op, n, x⟩ len = r) : Calls Tryz.prog 160 #[.agg #[.int .i64 op, .int .i64 n, .float .f64 x], .int .i64 len] w fun e w' => e = .returned (.bool r) ∧ Below w.heap.size w w' := by
  subst h
  exact may_walk ⟨op, n, x⟩ len w

theorem run_store_float (a : Addr) (x : Nat) (w : World) : (store a (.float .f64 x)).run Tryz.prog w = stored Tryz.prog w a (.float .f64 x) .plain := run_store Tryz.prog w a _ _ rfl
/-- What Check says. -/
def okP (tag : Int) (l : List Ins) : Prop := (tag = 1 ∨ tag = 2) ∧ 1 ≤ l.length ∧ l.length ≤ 1024 ∧ ∀ p ∈ l, mayS p l.length = true
instance (tag : Int) (l : List Ins) : Decidable (okP tag l) := inferInstanceAs (Decidable (_ ∧ _))
def checkS (tag : Int) (l : List Ins) : Int := if okP tag l then 0 else 50

set_option maxRecDepth 100000 in
set_option maxHeartbeats 1000000 in
theorem check_walk (tag : Int) (v : Value) (l : List Ins) (w : World) (h : RdC w v l) : Calls Tryz.prog 124 #[.agg #[.int .i64 tag, v]] w fun e w' => e = .returned (.int .i64 (checkS tag l)) ∧ Below w.heap.size w w' := by
  obtain ⟨a, c, rfl⟩ := h.slice
  obtain ⟨r, hr⟩ : ∃ r, r = checkS tag l := ⟨_, rfl⟩
  rw [← hr]
  have fin : ∀ w', Chg [] w w' → ¬ okP tag l → Ending.returned (.int .i64 50) = Ending.returned (.int .i64 r) ∧ Below w.heap.size w w' := fun w' c hn => by
    refine ⟨?_, below_of_chg c⟩
    rw [hr]
    unfold checkS
    rw [if_neg hn]
  have good : ∀ w', Chg [] w w' → okP tag l → Ending.returned (.int .i64 0) = Ending.returned (.int .i64 r) ∧ Below w.heap.size w w' := fun w' c hn => by
    refine ⟨?_, below_of_chg c⟩
    rw [hr]
    unfold checkS
    rw [if_pos hn]
  clear hr
  by_cases h1 : tag = 1 ∨ tag = 2
  case neg =>
    have k1 : ¬ tag = 1 := fun e => h1 (.inl e)
    have k2 : ¬ tag = 2 := fun e => h1 (.inr e)
    go_enter Tryz.func124, Tryz.ntmps124
    go_wp2
    go_ret
    exact fin _ ((Chg.refl _ _).alloc _) (fun q => h1 q.1)
  by_cases h2 : 1 ≤ l.length ∧ l.length ≤ 1024
  case neg =>
    have hno : ¬ okP tag l := fun q => h2 ⟨q.2.1, q.2.2.1⟩
    obtain ⟨n, hn⟩ : ∃ n, n = l.length := ⟨_, rfl⟩
    rw [← hn] at h h2 ⊢
    have FIN := Lib.hid fin
    have HNO := Lib.hid hno
    clear fin good hno hn
    rcases (by omega : n = 0 ∨ 1024 < n) with rfl | h3
    · rcases h1 with rfl | rfl
      all_goals
        go_enter Tryz.func124, Tryz.ntmps124
        go_wp2
        go_ret
        exact FIN.out _ ((Chg.refl _ _).alloc _) HNO.out
    · have h3' : (1024 : Int) < n := by omega
      have h4' : ((n : Int) == 0) = false := by simp; omega
      rcases h1 with rfl | rfl
      all_goals
        go_enter Tryz.func124, Tryz.ntmps124
        go_wp2
        go_ret
        exact FIN.out _ ((Chg.refl _ _).alloc _) HNO.out
  obtain ⟨n, hn⟩ : ∃ n, n = l.length := ⟨_, rfl⟩
  have HN := Lib.hid hn
  rw [← hn] at h h2 ⊢
  obtain ⟨h2, h3⟩ := h2
  have h3' : ¬ (1024 : Int) < n := by omega
  have h4' : ((n : Int) == 0) = false := by simp; omega
  have RD := Lib.hid h
  have FIN := Lib.hid fin
  have GOOD := Lib.hid good
  have H1 := Lib.hid h1
  have H2 := Lib.hid h2
  have H3 := Lib.hid h3
  clear h fin good hn h2 h3
  rcases h1 with rfl | rfl
  all_goals
    go_enter Tryz.func124, Tryz.ntmps124
    go_wp2
    go_loopw [28] (fun i wr => ∃ k : Nat, i = .int .i64 k ∧ k ≤ n ∧ Chg [] w wr ∧ wr.cell? ⟨w.heap.size, 1, none⟩ = some (.slice a n c) ∧ ∀ j (hj : j < l.length), j < k → mayS l[j] n = true) (fun i _ => n - (intOf i).toNat)
    case atStart => exact ⟨0, rfl, by omega, (Chg.refl _ _).alloc _, cell_of_row _ _ _ _ _ _ (heap_alloc_new _ _), fun j _ h => by omega⟩
    case round =>
      obtain ⟨k, rfl, hk, hchg, hbox, hall⟩ := hrel
      have CH := Lib.hid hchg
      have ALL := Lib.hid hall
      clear hchg hall
      by_cases h : k < n
      · have h' : (k : Int) < n := by omega
        have hkl : k < l.length := by have := HN.out; omega
        obtain ⟨b, off, rfl, -, c0, c1, c2⟩ := (RD.out.keep0 CH.out).at hkl
        obtain ⟨q, hq⟩ : ∃ q, q = l[k] := ⟨_, rfl⟩
        rw [← hq] at c0 c1 c2
        have HQ := Lib.hid hq
        clear hq
        obtain ⟨op, nn, x⟩ := q
        simp only at c0 c1 c2
        have BX := Lib.hid hbox
        have hlt := block_lt_of_cell hbox
        have sf := run_store_float
        cases hm : mayS ⟨op, nn, x⟩ n
        · go_wp2_with (go_at_call 160; refine (may_at _ _ _ _ _ _ hm).mono ?_; rintro e w3 ⟨rfl, b3⟩; have B3 := Lib.hid b3; clear b3)
          go_ret
          refine FIN.out _ ((CH.out.alloc _).trans (Chg.of_below B3.out)) (fun ok => ?_)
          have := ok.2.2.2 l[k] (List.getElem_mem hkl)
          rw [← HQ.out, ← HN.out, hm] at this
          cases this
        · go_wp2_with (go_at_call 160; refine (may_at _ _ _ _ _ _ hm).mono ?_; rintro e w3 ⟨rfl, b3⟩; have B3 := Lib.hid b3; clear b3)
          go_roundw
          case rel =>
            refine ⟨k + 1, by go_num, by omega, (CH.out.alloc _).trans (Chg.of_below B3.out), ?_, fun j hj hjk => ?_⟩
            · rw [World.cell?_of_block (w := wr) ((((Chg.refl [] wr).alloc _).trans (Chg.of_below B3.out)).block _ hlt (by simp))]
              exact BX.out
            · rcases Nat.lt_succ_iff_lt_or_eq.1 hjk with h5 | rfl
              · exact ALL.out j hj h5
              · rw [← HQ.out]; exact hm
          case measure => simp [intOf]; omega
      · obtain rfl : k = n := by omega
        have h' : ¬ (k : Int) < k := by omega
        go_wp2
        go_ret
        refine GOOD.out _ CH.out ⟨by simp, by rw [← HN.out]; exact H2.out, by rw [← HN.out]; exact H3.out, fun p hp => ?_⟩
        obtain ⟨j, hj, rfl⟩ := List.getElem_of_mem hp
        rw [← HN.out]
        exact ALL.out j hj (by rw [HN.out]; exact hj)
end Go.Proofs.YtphaeodcomgffaaGreat
