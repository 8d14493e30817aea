import Derived.Test.YtjlnhifleepnoaaGreatDoorW6
set_option linter.unusedVariables false
set_option linter.unusedSimpArgs false
namespace Go.Proofs.YtjlnhifleepnoaaGreatDoor
open Go.RowKit

/-- Where the row of a slice lies, whole. -/
def Wide (w : World) (B : Nat) (a : Option Addr) (c : Nat) : Prop := (a = none ∧ c = 0) ∨ ∃ g cur, a = some ⟨g, 0, none⟩ ∧ B ≤ g ∧ w.heap[g]? = some (.cells cur 33 (0, 0)) ∧ cur.size = c * 3
def foot : Option Addr → List Nat | none => [] | some a => [a.block]
theorem OwnC.wide {w : World} {B : Nat} {v : Value} {l : List Ins} (h : OwnC w B v l) : ∃ a c, v = .slice a l.length c ∧ c ≤ maxLen ∧ Wide w B a c := by
  rcases h.2 with ⟨h1, h2⟩ | ⟨g, cap, cur, h1, hb, hg, hn, hm, hs, _⟩
  · exact ⟨none, 0, by rw [h1, h2], by unfold maxLen; omega, .inl ⟨rfl, rfl⟩⟩
  · exact ⟨_, _, h1, hm, .inr ⟨g, cur, rfl, hb, hg, hs⟩⟩
theorem Wide.keep {w w' : World} {B : Nat} {a : Option Addr} {c : Nat} (h : Wide w B a c) (k : Chg [] w w') : Wide w' B a c := by
  rcases h with h | ⟨g, cur, h1, h2, h3, h4⟩
  · exact .inl h
  · exact .inr ⟨g, cur, h1, h2, zrow k h3, h4⟩
theorem Wide.foot_le {w : World} {B : Nat} {a : Option Addr} {c : Nat} (h : Wide w B a c) : ∀ k ∈ foot a, B ≤ k ∧ k < w.heap.size := by
  rcases h with ⟨rfl, _⟩ | ⟨g, cur, rfl, h2, h3, h4⟩
  · intro k hk; simp [foot] at hk
  · intro k hk; simp [foot] at hk; subst hk; exact ⟨h2, lt_of_heap h3⟩
theorem Wide.sliced {w : World} {B : Nat} {a : Option Addr} {c : Nat} (h : Wide w B a c) (s : Nat) : sliced a 0 c c s = .slice a c c := by
  rcases h with ⟨rfl, rfl⟩ | ⟨g, cur, rfl, _⟩
  · simp [Go.sliced]
  · simp [Go.sliced, Addr.add]

theorem below_of_chg2 {w a b : World} (c : Chg [] a b) (h : Below w.heap.size w a) : Below w.heap.size a b := c.below h.size (by simp)

set_option maxRecDepth 100000 in
set_option maxHeartbeats 8000000 in
theorem owns (s : ByteArray) (w : World) (L : Laid2 w) (_hs : s.size ≤ 281474976710656) : Calls Tryz.prog 4 #[.string s] w fun e w' => e = .returned (.bool true) ∧ Below w.heap.size w w' := by
  obtain ⟨R, hR⟩ : ∃ R, R = codeS s.data.toList := ⟨_, rfl⟩
  have CW : ∀ W, Laid2 W → Calls Tryz.prog 6 #[.string s] W (AnyPost W (tagO R) (errO R) (atO R) (insO R)) := fun W l => by
    have h := code_walk s.data.toList W l
    rw [← hR, show S s.data.toList = s by simp [S]] at h
    exact h.mono fun e w' h => any_of h
  have DW : ∀ W, Calls Tryz.prog 7 #[.string s] W (AnyPost W (tagO R) (errO R) (atO R) (insO R)) := fun W => by
    have h := dcode_walk s W
    rw [← hR] at h
    exact h.mono fun e w' h => any_of h
  generalize tagO R = t at *
  generalize errO R = c at *
  generalize atO R = n at *
  generalize insO R = l at *
  have LD := Lib.hid L
  have M1 := Lib.hid (rfl : 0 = 0)
  have M2 := Lib.hid (rfl : 0 = 0)
  have M3 := Lib.hid (rfl : 0 = 0)
  have M4 := Lib.hid (rfl : 0 = 0)
  have M5 := Lib.hid (rfl : 0 = 0)
  clear hR L
  go_enter Tryz.func4, Tryz.ntmps4
  go_wp2_with (first
    | (go_at_call 5; refine (live_walk _ LD.out).mono ?_; rintro e w1 ⟨rfl, b1⟩; have C1 := Lib.hid (Chg.of_below (S := []) b1); clear b1)
    | (go_at_call 6; have _t := M1; clear M1; refine (CW _ (LD.out.below (below_of_chg C1.out))).mono ?_; rintro e w2 ⟨v2, rfl, o2, b2⟩; obtain ⟨a2, c2, rfl, m2, d2⟩ := o2.wide; have O2 := Lib.hid o2; have D2 := Lib.hid d2; have C2 := Lib.hid (C1.out.trans (Chg.of_below (S := []) b2)); clear o2 b2 d2)
    | (go_at_call 7; refine (DW _).mono ?_; rintro e w3 ⟨v3, rfl, o3, b3⟩; obtain ⟨a3, c3, rfl⟩ := o3.form; have O3 := Lib.hid o3; have S3 := Lib.hid (show w2.heap.size + 1 ≤ w3.heap.size by have := b3.size; simpa using this); have K3 := Lib.hid (((Chg.refl [] w2).alloc _).trans (Chg.of_below (S := []) b3)); have C3 := Lib.hid (C2.out.trans K3.out); have Z2 := Lib.hid (zrow (Chg.of_below (S := []) b3) (heap_alloc_new w2 (.cells #[.int .i64 t, .slice a2 l.length c2] 25))); clear o3 b3)
    | (go_at_call 6; have _t := M2; clear M2; refine (CW _ (LD.out.below (below_of_chg (C3.out.alloc _)))).mono ?_; rintro e w4 ⟨v4, rfl, o4, b4⟩; obtain ⟨a4, c4, rfl⟩ := o4.form; have O4 := Lib.hid o4; have K4 := Lib.hid (((Chg.refl [] w3).alloc _).trans (Chg.of_below (S := []) b4)); have C4 := Lib.hid (C3.out.trans K4.out); have Z3 := Lib.hid (zrow (Chg.of_below (S := []) b4) (heap_alloc_new w3 (.cells #[.int .i64 t, .slice a3 l.length c3] 25))); obtain ⟨x0, x1, x2, x3⟩ := row2 (zrow K4.out Z2.out); obtain ⟨y0, y1, y2, y3⟩ := row2 Z3.out; clear o4 b4)
    | (go_at_call 8; have _t := M3; clear M3; refine (psame_at t _ _ l _ (((O2.out.keep0 K3.out).keep0 (K4.out.trans ((Chg.refl [] _).alloc _))).rd) ((O3.out.keep0 (K4.out.trans ((Chg.refl [] _).alloc _))).rd) O2.out.max).mono ?_; rintro e w5 ⟨rfl, b5⟩; have C5 := Lib.hid ((C4.out.alloc _).trans (Chg.of_below (S := []) b5)); have K5 := Lib.hid (((Chg.refl [] w4).alloc _).trans (Chg.of_below (S := []) b5)); have Z4 := Lib.hid (zrow (Chg.of_below (S := []) b5) (heap_alloc_new w4 (.cells #[.int .i64 t, .slice a4 l.length c4] 25))); clear x0 x1 x2 x3 y0 y1 y2 y3; obtain ⟨y0, y1, -, -⟩ := row2 (zrow K5.out Z3.out); obtain ⟨z0, z1, -, -⟩ := row2 Z4.out; clear b5)
    | (go_at_call 8; have _t := M4; clear M4; refine (psame_at t _ _ l _ ((O4.out.keep0 K5.out).rd) ((O3.out.keep0 (K4.out.trans K5.out)).rd) O2.out.max).mono ?_; rintro e w6 ⟨rfl, b6⟩; have C6 := Lib.hid (C5.out.trans (Chg.of_below (S := []) b6)); have K6 := Lib.hid (Chg.of_below (S := []) b6); clear y0 y1 z0 z1; obtain ⟨x0, x1, -, -⟩ := row2 (zrow K6.out (zrow K5.out (zrow K4.out Z2.out))); have SL := (D2.out.sliced 3); clear b6)
    | fail)
  have MX : c2 ≤ 9223372036854775807 := by unfold maxLen at m2; exact m2
  clear m2 SL
  have sf := run_store_float
  go_loopw [60] (fun i wr => ∃ k : Nat, i = .int .i64 k ∧ k ≤ c2 ∧ Chg (foot a2) w6 wr ∧ Wide wr w1.heap.size a2 c2) (fun i _ => c2 - (intOf i).toNat)
  case atStart => exact ⟨0, rfl, by omega, Chg.refl _ _, (((D2.out.keep K3.out).keep K4.out).keep K5.out).keep K6.out⟩
  case round =>
    obtain ⟨k, rfl, hk, hchg, hwd⟩ := hrel
    have CH := Lib.hid hchg
    have WD := Lib.hid hwd
    clear hchg hwd
    by_cases h : k < c2
    · have h' : (k : Int) < c2 := by omega
      rcases WD.out with ⟨_, h0⟩ | ⟨g, cur, rfl, hB, hg, hsz⟩
      · omega
      have e0 : wr.cell? ⟨g, k * 3, none⟩ = some (cur.getD (k * 3) undef) := by rw [cell_of_row _ _ _ _ _ _ hg]; simp [Array.getD, show k * 3 < cur.size by omega]
      have e1 : wr.cell? ⟨g, k * 3 + 1, none⟩ = some (cur.getD (k * 3 + 1) undef) := by rw [cell_of_row _ _ _ _ _ _ hg]; simp [Array.getD, show k * 3 + 1 < cur.size by omega]
      have e2 : wr.cell? ⟨g, k * 3 + 2, none⟩ = some (cur.getD (k * 3 + 2) undef) := by rw [cell_of_row _ _ _ _ _ _ hg]; simp [Array.getD, show k * 3 + 2 < cur.size by omega]
      have f0 := frozen_of_row _ _ (k * 3) _ _ hg
      have f1 := frozen_of_row _ _ (k * 3 + 1) _ _ hg
      have f2 := frozen_of_row _ _ (k * 3 + 2) _ _ hg
      have HG := Lib.hid hg
      have HB := Lib.hid hB
      have HS := Lib.hid hsz
      clear hg hB hsz
      go_wp2
      refine ⟨⟨k + 1, by go_num, by omega, ?_, ?_⟩, by simp [intOf]; omega⟩
      · exact ((CH.out.setCell (.inl (by simp [foot])) _).setCell (.inl (by simp [foot])) _).setCell (.inl (by simp [foot])) _
      · exact .inr ⟨g, _, rfl, HB.out, heap_put (heap_put (heap_put HG.out rfl) rfl) rfl, by simpa using HS.out⟩
    · obtain rfl : k = c2 := by omega
      have h' : ¬ (k : Int) < k := by omega
      have F2 := D2.out.foot_le
      have N3 : ∀ k, w2.heap.size ≤ k → k ∉ foot a2 := fun k h hk => by have := F2 k hk; omega
      have s3 := S3.out
      have R3 := Lib.hid ((CH.out.block _ (lt_of_heap (zrow K6.out (zrow K5.out Z3.out))) (N3 _ (by omega))).trans (zrow K6.out (zrow K5.out Z3.out)))
      have R4 := Lib.hid ((CH.out.block _ (lt_of_heap (zrow K6.out Z4.out)) (N3 _ (by have := K4.out.size; omega))).trans (zrow K6.out Z4.out))
      have P3 := Lib.hid (((O3.out.keep0 K4.out).keep0 (K5.out.trans K6.out)).keep CH.out (fun q hq => N3 q (by have := (O3.out.blk q hq).1; simp at this; omega)))
      have P4 := Lib.hid ((O4.out.keep0 (K5.out.trans K6.out)).keep CH.out (fun q hq => N3 q (by have := (O4.out.blk q hq).1; simp at this; omega)))
      have B9 := Lib.hid (((C6.out.mono (S' := foot a2) (by simp)).trans CH.out).below (Nat.le_refl _) (fun x hx => Nat.le_trans C1.out.size (F2 x hx).1))
      clear F2 N3 s3 x0 x1
      go_wp2_with (first
        | (go_at_call 6; refine (CW _ (LD.out.below B9.out)).mono ?_; rintro e w8 ⟨v8, rfl, o8, b8⟩; obtain ⟨a8, c8, rfl⟩ := o8.form; have O8 := Lib.hid o8; have K8 := Lib.hid (Chg.of_below (S := []) b8); obtain ⟨x0, x1, x2, x3⟩ := row2 (zrow K8.out R3.out); obtain ⟨y0, y1, y2, y3⟩ := row2 (zrow K8.out R4.out); clear o8 b8)
        | (go_at_call 8; have _t := M5; clear M5; refine (psame_at t _ _ l _ ((P4.out.keep0 K8.out).keep0 ((Chg.refl [] _).alloc _)).rd ((P3.out.keep0 K8.out).keep0 ((Chg.refl [] _).alloc _)).rd O2.out.max).mono ?_; rintro e w9 ⟨rfl, b9⟩; have K9 := Lib.hid (((Chg.refl [] w8).alloc _).trans (Chg.of_below (S := []) b9)); have Z8 := Lib.hid (zrow (Chg.of_below (S := []) b9) (heap_alloc_new w8 (.cells #[.int .i64 t, .slice a8 l.length c8] 25))); clear x0 x1 x2 x3 y0 y1 y2 y3; obtain ⟨y0, y1, -, -⟩ := row2 (zrow K9.out (zrow K8.out R3.out)); obtain ⟨z0, z1, -, -⟩ := row2 Z8.out; clear b9)
        | (go_at_call 8; refine (psame_at t _ _ l _ (O8.out.keep0 K9.out).rd ((P3.out.keep0 K8.out).keep0 K9.out).rd O2.out.max).mono ?_; rintro e w10 ⟨rfl, b10⟩; have K10 := Lib.hid (Chg.of_below (S := []) b10); clear b10)
        | fail)
      go_ret
      exact ⟨rfl, B9.out.trans (below_of_chg2 (K8.out.trans (K9.out.trans K10.out)) B9.out)⟩
end Go.Proofs.YtjlnhifleepnoaaGreatDoor
