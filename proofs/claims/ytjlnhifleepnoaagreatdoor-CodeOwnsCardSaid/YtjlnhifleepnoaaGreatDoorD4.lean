import Derived.Test.YtjlnhifleepnoaaGreatDoorR1
import Derived.Test.YtjlnhifleepnoaaGreatDoorD2
import Derived.Test.YtjlnhifleepnoaaGreatDoorD3
import Derived.Test.YtjlnhifleepnoaaGreatDoorU3
import Derived.Test.YtjlnhifleepnoaaGreatDoorK13
set_option linter.unusedVariables false
set_option linter.unusedSimpArgs false
namespace Go.Proofs.YtjlnhifleepnoaaGreatDoor
open Go.RowKit

def DParsePost (l : List UInt8) (w : World) (e : Ending) (w' : World) : Prop := e = .returned (.tuple #[.float .f64 (dparseB l), .int .i64 (dparseE l)]) ∧ Below w.heap.size w w'

set_option maxRecDepth 100000 in
/-- The document's Parse. -/
theorem rparse_walk (s : ByteArray) (w : World) : Calls Tryz.prog 30 #[.string s] w (DParsePost s.toList w) := by
  have hlt := dguess_lt s.toList
  have GW := rguess_walk s w
  obtain ⟨g, hg⟩ : ∃ g, g = dguess s.toList := ⟨_, rfl⟩
  unfold DParsePost dparseB dparseE
  rw [← hg] at GW hlt ⊢
  have PW : ∀ W, Calls Tryz.prog 43 #[.float .f64 g] W fun e w' => e = .returned (.string (S (prt (fx g)))) ∧ w' = W := fun W => rprint_walk g W hlt
  clear hlt hg
  by_cases hq : prt (fx g) = s.toList
  · rw [if_pos hq, if_pos hq]
    have t1 : (s.toList == (S (prt (fx g))).toList) = true := by rw [← hq]; simp [S]
    have HQ := Lib.hid hq
    clear hq
    go_enter Tryz.func30, Tryz.ntmps30
    go_wp2_with (first | (go_at_call 42; refine GW.mono ?_; rintro e w1 ⟨rfl, b1⟩; have B1 := Lib.hid b1; clear b1) | (go_at_call 43; refine (PW _).mono ?_; rintro e w2 ⟨rfl, rfl⟩))
    go_ret2
    exact ⟨rfl, B1.out⟩
  · rw [if_neg hq, if_neg hq]
    have t1 : (s.toList == (S (prt (fx g))).toList) = false := by
      rw [beq_eq_false_iff_ne]
      intro h
      exact hq (by simpa [S] using h.symm)
    clear hq
    go_enter Tryz.func30, Tryz.ntmps30
    go_wp2_with (first | (go_at_call 42; refine GW.mono ?_; rintro e w1 ⟨rfl, b1⟩; have B1 := Lib.hid b1; clear b1) | (go_at_call 43; refine (PW _).mono ?_; rintro e w2 ⟨rfl, rfl⟩))
    go_ret2
    exact ⟨rfl, B1.out⟩

theorem fst_at (s : List UInt8) (L : List ByteArray) (op : Int) : ∀ (k i : Nat), 0 < i → fstO (tryO s L op) k i = if atS L s k i = 0 then none else some ⟨op, (atS L s k i : Nat), 0⟩
  | 0, i, _ => rfl
  | k + 1, i, hi => by
    by_cases e : (L.getD i ⟨#[]⟩).toList = s
    · have h : tryO s L op i = some ⟨op, i, 0⟩ := by unfold tryO; rw [if_pos ⟨hi, e⟩]
      rw [fst_hit h, atS, if_pos e, if_neg (by omega)]
    · have h : tryO s L op i = none := by unfold tryO; rw [if_neg (fun x => e x.2)]
      rw [fst_miss h, atS, if_neg e, fst_at s L op k (i + 1) (by omega)]
theorem fst_at0 (s : List UInt8) (L : List ByteArray) (op : Int) (k : Nat) : fstO (tryO s L op) (k + 1) 0 = if atS L s k 1 = 0 then none else some ⟨op, (atS L s k 1 : Nat), 0⟩ := by
  rw [fst_miss (by unfold tryO; rw [if_neg (by omega)]), fst_at s L op k 1 (by omega)]

/-- The one row of a word. -/
theorem row_only {i : Nat} {rs : List UInt8} {more : Bool} (hi : i < 21) (hw : (rowAt (i : Int)).1 ≠ []) : fstO (tryR (rowAt (i : Int)).1 rs more) 21 0 = tryR (rowAt (i : Int)).1 rs more i := by
  cases h : tryR (rowAt (i : Int)).1 rs more i with
  | some p => exact row_hit hi hw h
  | none =>
    refine fst_none 21 0 fun j hj => ?_
    rw [Nat.zero_add]
    by_cases e : j = i
    · subst e; exact h
    · unfold tryR
      rw [if_pos]
      by_cases e2 : (rowAt ((j : Nat) : Int)).1 = (rowAt (i : Int)).1
      · rcases rows_apart j hj i hi e2 with h1 | h1
        · exact .inl h1
        · exact absurd h1 e
      · exact .inr e2
theorem row_none {wd rs : List UInt8} {more : Bool} (h : ∀ j, j < 21 → ¬ ((rowAt ((j : Nat) : Int)).1 = wd ∧ wd ≠ [])) : fstO (tryR wd rs more) 21 0 = none := by
  refine fst_none 21 0 fun j hj => ?_
  rw [Nat.zero_add]
  unfold tryR
  rw [if_pos]
  by_cases e : (rowAt ((j : Nat) : Int)).1 = wd
  · left
    by_cases e2 : wd = []
    · rw [e, e2]
    · exact absurd ⟨e, e2⟩ (h j hj)
  · exact .inr e

/-- How the document's Read ends. -/
def ReadOk (s : List UInt8) (e : Ending) : Prop := ∃ (p : Ins) (ok : Bool), e = .returned (.tuple #[p.v, .bool ok]) ∧ (ok = true → instrS s = some p) ∧ (ok = false → instrS s = none)
theorem read_yes {s : List UInt8} {p : Ins} {e : Ending} (he : e = .returned (.tuple #[p.v, .bool true])) (h : instrS s = some p) : ReadOk s e := ⟨p, true, he, fun _ => h, fun h => by cases h⟩
theorem read_no {s : List UInt8} {p : Ins} {e : Ending} (he : e = .returned (.tuple #[p.v, .bool false])) (h : instrS s = none) : ReadOk s e := ⟨p, false, he, (fun h => by cases h), fun _ => h⟩

theorem rd_out {W : World} {g : Nat} {op n : Int} {x : Nat} {ok : Bool} {T : Array Value} (h : W.heap[g]? = some (.cells #[.int .i64 op, .int .i64 n, .float .f64 x] 33 (0, 0))) (h2 : T[2]? = some (.pointer (some ⟨g, 0, none⟩))) (h3 : T[3]? = some (.bool ok)) :
    (results Tryz.f14 T).run Tryz.prog W = .ok (.tuple #[Ins.v ⟨op, n, x⟩, .bool ok]) W := by
  obtain ⟨⟨c0, c1, c2⟩, _⟩ := row3 h
  simp [results, Tryz.f14, Tryz.results14, go_sem, c0, c1, c2, h2, h3, Ins.v]

theorem rows_hi : ∀ i, i < 21 → (i = 0 ∨ i = 1 ∨ i = 9 ∨ i = 10) ∨ ((lhAt ((i : Nat) : Int)).2 = 0 ↔ most ((i : Nat) : Int) = -2) := by decide +kernel
theorem rows_top : ∀ i, i < 21 → (i = 0 ∨ i = 1 ∨ i = 9 ∨ i = 10) ∨ (most ((i : Nat) : Int) = -1 ∧ (lhAt ((i : Nat) : Int)).2 = -1) ∨ (most ((i : Nat) : Int) = -2 ∧ (lhAt ((i : Nat) : Int)).2 = 0) ∨ (0 < most ((i : Nat) : Int) ∧ (lhAt ((i : Nat) : Int)).2 = most ((i : Nat) : Int) ∧ most ((i : Nat) : Int) ≤ 1000) := by decide +kernel

/-- What a row with a number makes of it. -/
theorem num_row {i : Nat} {rs : List UInt8} {m n : Int} {ok : Bool} (hi : i < 21) (h1 : i ≠ 1) (hw : (rowAt (i : Int)).1 ≠ []) (hm : most (i : Int) ≠ -2) (hmm : m = if (lhAt (i : Int)).2 < 0 then 1023 else (lhAt (i : Int)).2) (h : NumOk rs m n ok) :
    tryR (rowAt (i : Int)).1 rs true i = if ok = true then some ⟨i, n, 0⟩ else none := by
  obtain ⟨n9, n10⟩ := rows_none i hi hw
  have h0 : i ≠ 0 := by rintro rfl; exact hw rfl
  have key : (most (i : Int) = -1 ∧ m = 1023) ∨ (0 < most (i : Int) ∧ m = most (i : Int) ∧ m ≤ 1000) := by
    rcases rows_top i hi with h2 | ⟨a, b⟩ | ⟨a, b⟩ | ⟨a, b, c⟩
    · omega
    · rw [b, if_pos (by omega)] at hmm; exact .inl ⟨a, hmm⟩
    · exact absurd a hm
    · rw [b, if_neg (by omega)] at hmm; exact .inr ⟨a, hmm, by omega⟩
  have hm1 : m ≤ 1023 := by omega
  have hmay : ∀ v : Int, mayS ⟨(i : Int), v, 0⟩ 1024 = true ↔ 0 ≤ v ∧ v ≤ m := fun v => by
    constructor
    · intro hv
      obtain ⟨i', e, _, _, _, _, b, _, d⟩ := may_parts hv
      have : i' = i := by omega
      subst this
      rcases key with ⟨k1, k2⟩ | ⟨k1, k2, k3⟩
      · have := b k1; omega
      · have := d (by omega) (by omega); omega
    · intro hv
      refine may_mk (by omega) (by omega) (fun _ => fx_zero) (fun e => absurd e hm) (fun e => ?_) (fun e => by omega) (fun e1 e2 => ?_)
      · rcases key with ⟨k1, k2⟩ | ⟨k1, k2, k3⟩ <;> omega
      · rcases key with ⟨k1, k2⟩ | ⟨k1, k2, k3⟩ <;> omega
  unfold tryR
  rw [if_neg (by rintro (e | e); exact hw e; exact e rfl), if_neg (fun e => h1 e.1), if_neg (fun e => hm e.2), if_pos rfl]
  cases ok
  · have hno : ¬ (wholeE rs = 0 ∧ mayS ⟨(i : Int), wholeN rs, 0⟩ 1024 = true) := by
      rintro ⟨e1, e2⟩
      obtain ⟨v0, v1⟩ := (hmay _).1 e2
      have hb := whole_back2 e1
      unfold Lib.itoa at hb
      rw [if_neg (by omega)] at hb
      have := h.2 (wholeN rs).toNat hb.symm (by omega)
      cases this
    rw [if_neg hno, if_neg (show ¬ (false = true) by decide)]
  · obtain ⟨a, b, c⟩ := h.1 rfl
    have hk : n.toNat < 1024 := by omega
    have wd := whole_dec n.toNat hk
    rw [← b] at wd
    have hn : ((n.toNat : Nat) : Int) = n := by omega
    rw [if_pos rfl, wd.1, wd.2, hn, if_pos ⟨rfl, (hmay n).2 ⟨a, c⟩⟩]
end Go.Proofs.YtjlnhifleepnoaaGreatDoor
