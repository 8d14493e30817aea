import Derived.Test.YtjlnhifleepnoaaGreatDoorK7
import Derived.Test.YtjlnhifleepnoaaGreatDoorP7
set_option linter.unusedVariables false
set_option linter.unusedSimpArgs false
namespace Go.Proofs.YtjlnhifleepnoaaGreatDoor
open Go.RowKit

theorem itoa_len17 {n : Int} (h1 : -9007199254740992 < n) (h2 : n < 9007199254740992) : (Lib.itoa n).length ≤ 21 := Lib.itoa_length_le n (by omega) (by omega)
theorem hexN_len : ∀ k c, (hexN k c).length = k
  | 0, c => rfl
  | k + 1, c => by simp [hexN, hexN_len k]
theorem prt_len {c : Nat} (hc : c < 18446744073709551616) : (prt c).length ≤ 21 := by
  unfold prt
  repeat' split
  · decide
  · decide
  · decide
  · decide
  · rename_i h
    have h2 : inR c = true := by
      unfold isWhole at h
      rw [Bool.and_eq_true] at h
      exact h.1
    obtain ⟨v1, v2, v3⟩ := inR_val h2
    exact itoa_len17 v2 v3
  · simp [hexN_len]
theorem keep2 {w w1 w2 : World} {a1 a2 : Addr} {v1 v2 : Value} (h : w1.cell? a1 = some v1 ∧ w1.cell? a2 = some v2 ∧ Below w.heap.size w w1) (b : Below w1.heap.size w1 w2) : w2.cell? a1 = some v1 ∧ w2.cell? a2 = some v2 ∧ Below w.heap.size w w2 :=
  ⟨(World.cell?_of_block (w := w1) (b.block _ (block_lt_of_cell h.1))).trans h.1, (World.cell?_of_block (w := w1) (b.block _ (block_lt_of_cell h.2.1))).trans h.2.1, h.2.2.trans (b.mono h.2.2.size)⟩
theorem below_alloc (w : World) (o : Obj) : Below w.heap.size w (w.alloc o) := below_of_chg ((Chg.refl _ _).alloc _)
theorem below_drew (w : World) : Below w.heap.size w w.drew := below_of_chg (Chg.refl _ _).drew

theorem old_row {W w1 : World} {cs : Array Value} {T : TypeId} (b : Below (W.alloc (.cells cs T)).drew.heap.size (W.alloc (.cells cs T)).drew w1) : w1.heap[W.heap.size]? = some (.cells cs T (0, 0)) :=
  (b.block _ (by simp)).trans (heap_alloc_new W _)
theorem row4 {w1 : World} {g : Nat} {c0 c1 c2 c3 : Value} {T : TypeId} (h : w1.heap[g]? = some (.cells #[c0, c1, c2, c3] T (0, 0))) : (w1.cell? ⟨g, 0, none⟩ = some c0 ∧ w1.cell? ⟨g, 1, none⟩ = some c1 ∧ w1.cell? ⟨g, 2, none⟩ = some c2 ∧ w1.cell? ⟨g, 3, none⟩ = some c3) ∧ w1.frozen? ⟨g, 0, none⟩ = false ∧ w1.frozen? ⟨g, 1, none⟩ = false ∧ w1.frozen? ⟨g, 2, none⟩ = false ∧ w1.frozen? ⟨g, 3, none⟩ = false :=
  ⟨⟨cell_of_row _ _ _ _ _ _ h, cell_of_row _ _ _ _ _ _ h, cell_of_row _ _ _ _ _ _ h, cell_of_row _ _ _ _ _ _ h⟩, frozen_of_row _ _ _ _ _ h, frozen_of_row _ _ _ _ _ h, frozen_of_row _ _ _ _ _ h, frozen_of_row _ _ _ _ _ h⟩

/-- An instruction's box and its row's. -/
structure LBox (w W : World) (g : Nat) (a b c r0 r1 : Value) : Prop where
  r0 : W.cell? ⟨g, 0, none⟩ = some r0
  r1 : W.cell? ⟨g, 1, none⟩ = some r1
  x0 : W.cell? ⟨w.heap.size, 0, none⟩ = some a
  x1 : W.cell? ⟨w.heap.size, 1, none⟩ = some b
  x2 : W.cell? ⟨w.heap.size, 2, none⟩ = some c
  bw : Below w.heap.size w W
theorem lboxA {w w1 : World} {a b c r0 r1 r2 r3 : Value} {T T2 : TypeId} (b1 : Below (w.alloc (.cells #[a, b, c] T)).drew.heap.size (w.alloc (.cells #[a, b, c] T)).drew w1) : LBox w (w1.alloc (.cells #[r0, r1, r2, r3] T2)) w1.heap.size a b c r0 r1 := by
  have hx : w1.heap[w.heap.size]? = some (.cells #[a, b, c] T (0, 0)) := old_row b1
  have hx2 : (w1.alloc (.cells #[r0, r1, r2, r3] T2)).heap[w.heap.size]? = some (.cells #[a, b, c] T (0, 0)) := ((below_alloc w1 (.cells #[r0, r1, r2, r3] T2)).block _ (lt_of_heap hx)).trans hx
  refine ⟨cell_of_row _ _ _ _ _ _ (heap_alloc_new _ _), cell_of_row _ _ _ _ _ _ (heap_alloc_new _ _), cell_of_row _ _ _ _ _ _ hx2, cell_of_row _ _ _ _ _ _ hx2, cell_of_row _ _ _ _ _ _ hx2, ?_⟩
  have c1 : Chg [] w (w.alloc (.cells #[a, b, c] T)).drew := ((Chg.refl [] w).alloc _).drew
  exact below_of_chg ((c1.trans (Chg.of_below b1)).alloc _)
theorem lboxB {w w1 : World} {a b c z0 z1 z2 z3 r0 r1 r2 r3 : Value} {T T2 : TypeId} (b1 : Below ((w.alloc (.cells #[a, b, c] T)).alloc (.cells #[z0, z1, z2, z3] T2)).drew.heap.size ((w.alloc (.cells #[a, b, c] T)).alloc (.cells #[z0, z1, z2, z3] T2)).drew w1) :
    LBox w ((((w1.setCell ⟨w.heap.size + 1, 0, none⟩ r0).setCell ⟨w.heap.size + 1, 1, none⟩ r1).setCell ⟨w.heap.size + 1, 2, none⟩ r2).setCell ⟨w.heap.size + 1, 3, none⟩ r3) (w.heap.size + 1) a b c r0 r1 := by
  have hz : w1.heap[w.heap.size + 1]? = some (.cells #[z0, z1, z2, z3] T2 (0, 0)) := by
    have := old_row b1
    simpa using this
  have hx0 : ((w.alloc (.cells #[a, b, c] T)).alloc (.cells #[z0, z1, z2, z3] T2)).drew.heap[w.heap.size]? = some (.cells #[a, b, c] T (0, 0)) :=
    ((below_alloc (w.alloc (.cells #[a, b, c] T)) (.cells #[z0, z1, z2, z3] T2)).block _ (by simp)).trans (heap_alloc_new _ _)
  have hx : w1.heap[w.heap.size]? = some (.cells #[a, b, c] T (0, 0)) := (b1.block _ (lt_of_heap hx0)).trans hx0
  have s1 := heap_put (cs' := #[r0, z1, z2, z3]) hz (i := 0) (v := r0) rfl
  have s2 := heap_put (cs' := #[r0, r1, z2, z3]) s1 (i := 1) (v := r1) rfl
  have s3 := heap_put (cs' := #[r0, r1, r2, z3]) s2 (i := 2) (v := r2) rfl
  have s4 := heap_put (cs' := #[r0, r1, r2, r3]) s3 (i := 3) (v := r3) rfl
  have c1 : Chg [] w ((w.alloc (.cells #[a, b, c] T)).alloc (.cells #[z0, z1, z2, z3] T2)).drew := (((Chg.refl [] w).alloc _).alloc _).drew
  have c2 : Chg [w.heap.size + 1] w1 ((((w1.setCell ⟨w.heap.size + 1, 0, none⟩ r0).setCell ⟨w.heap.size + 1, 1, none⟩ r1).setCell ⟨w.heap.size + 1, 2, none⟩ r2).setCell ⟨w.heap.size + 1, 3, none⟩ r3) :=
    ((((Chg.refl [w.heap.size + 1] w1).setCell (.inl (by simp)) _).setCell (.inl (by simp)) _).setCell (.inl (by simp)) _).setCell (.inl (by simp)) _
  have hx4 := (c2.block _ (lt_of_heap hx) (by simp)).trans hx
  refine ⟨cell_of_row _ _ _ _ _ _ s4, cell_of_row _ _ _ _ _ _ s4, cell_of_row _ _ _ _ _ _ hx4, cell_of_row _ _ _ _ _ _ hx4, cell_of_row _ _ _ _ _ _ hx4, ?_⟩
  have c3 := (c1.trans (Chg.of_below b1))
  exact below_of_chg ((((c3.setCell (.inr (by simp)) _).setCell (.inr (by simp)) _).setCell (.inr (by simp)) _).setCell (.inr (by simp)) _)

theorem word_text (wd l : List UInt8) : (⟨wd.toArray⟩ : ByteArray) ++ ⟨#[32]⟩ ++ S l = S (wd ++ [32] ++ l) := by
  rw [← S_add, ← S_add]
  rfl
theorem strs_at (W : World) (T : TypeId) (l : List ByteArray) (i : Nat) (hi : i < l.length) : (W.alloc (.cells (strs l) T)).cell? ⟨W.heap.size, i, none⟩ = some (.string (l.getD i ⟨#[]⟩)) := by
  rw [cell_of_row _ _ _ _ _ _ (heap_alloc_new _ _)]
  simp [strs, List.getD, List.getElem?_eq_getElem hi]
theorem S_at (l : List ByteArray) (i : Nat) (hi : i < l.length) : l[i] = S (l.getD i ⟨#[]⟩).data.toList := by
  simp only [List.getD, List.getElem?_eq_getElem hi, Option.getD_some]
  apply ByteArray.ext
  simp [S]
theorem most_le (op : Int) : most op ≤ 99 := by
  unfold most rowAt
  rcases Nat.lt_or_ge op.toNat 21 with h | h
  · have : ∀ k : Nat, k < 21 → (rowsL.getD k ([], 0, 0, 0)).2.1 ≤ 99 := by decide +kernel
    exact this _ h
  · have e : rowsL.getD op.toNat ([], 0, 0, 0) = ([], 0, 0, 0) := by
      simp only [List.getD]
      rw [List.getElem?_eq_none (by show 21 ≤ op.toNat; exact h)]
      rfl
    rw [e]
    decide

/-- An instruction's line. -/
def lineS (p : Ins) : List UInt8 :=
  if p.op = 1 then [112, 117, 115, 104, 32] ++ prt (fx p.x)
  else if p.op = 9 then (onesB.getD p.n.toNat ⟨#[]⟩).data.toList
  else if p.op = 10 then (twosB.getD p.n.toNat ⟨#[]⟩).data.toList
  else if most p.op = -2 then (rowAt p.op).1
  else (rowAt p.op).1 ++ [32] ++ Lib.itoa p.n

set_option maxRecDepth 100000 in
set_option maxHeartbeats 8000000 in
theorem line_walk (p : Ins) (len : Int) (w : World) (L : Laid w) (hx : p.x < 18446744073709551616) (hm : mayS p len = true) (hlen : len ≤ 1024) : Calls Tryz.prog 19 #[p.v] w fun e w' => e = .returned (.string (S (lineS p))) ∧ Below w.heap.size w w' := by
  obtain ⟨op, n, x⟩ := p
  unfold Ins.v
  obtain ⟨h1, h2, h3⟩ : 0 < op ∧ op ≤ 20 ∧ ¬ (op ≠ 1 ∧ fx x ≠ 0) := by
    unfold mayS at hm
    split at hm
    · cases hm
    · rename_i h
      simp only at h
      exact ⟨by omega, by omega, fun q => h (.inr (.inr q))⟩
  have LD := Lib.hid L
  clear L
  simp only at hx
  by_cases ho : op = 1
  · subst ho
    have e : lineS ⟨1, n, x⟩ = [112, 117, 115, 104] ++ [32] ++ prt (fx x) := rfl
    rw [e]
    clear e hm
    have ix := idx_rows 1 (by omega) (by omega)
    rw [show most 1 = -2 from rfl, show (rowAt 1).1 = [112, 117, 115, 104] from rfl] at ix
    have sf := run_store_float
    have hz0 : (S (prt (fx x))).size ≤ 21 := by rw [S_size]; exact prt_len (fx_lt hx)
    have hz1 : ¬ 9223372036854775807 < 5 + (S (prt (fx x))).size := by omega
    go_enter Tryz.func19, Tryz.ntmps19
    go_wp2
    go_region_held3 (fun w' => w'.cell? ⟨w.heap.size, 0, none⟩ = some (.int .i64 1) ∧ w'.cell? ⟨w.heap.size, 1, none⟩ = some (.int .i64 n) ∧ w'.cell? ⟨w.heap.size, 2, none⟩ = some (.float .f64 x)) (first | assumption | go_keep) (first | (go_at_call 21; refine (rows_walk _).mono ?_; rintro e w1 ⟨rfl, b1⟩; have k0 : w1.cell? ⟨w.heap.size, 0, none⟩ = some (.int .i64 1) := (World.cell?_of_block (b1.block _ (by first | (simp; done) | (simp; omega)))).trans (by simp); have k1 : w1.cell? ⟨w.heap.size, 1, none⟩ = some (.int .i64 n) := (World.cell?_of_block (b1.block _ (by first | (simp; done) | (simp; omega)))).trans (by simp); have k2 : w1.cell? ⟨w.heap.size, 2, none⟩ = some (.float .f64 x) := (World.cell?_of_block (b1.block _ (by first | (simp; done) | (simp; omega)))).trans (by simp); have lt1 := b1.size; simp at lt1; (try (obtain ⟨⟨z0, z1, z2, z3⟩, y0, y1, y2, y3⟩ := row4 (old_row b1); simp at z0 z1 z2 z3 y0 y1 y2 y3))))
    all_goals first
      | (generalize hW : World.alloc w1 _ = W2
         generalize hg : w1.heap.size = g2
         obtain ⟨r0, r1, x0, x1, x2, bw⟩ : LBox w W2 g2 _ _ _ _ _ := by rw [← hW, ← hg]; exact lboxA b1
         clear hW hg)
      | (generalize hW : World.setCell (World.setCell (World.setCell (World.setCell w1 _ _) _ _) _ _) _ _ = W2
         generalize hg : w.heap.size + 1 = g2
         obtain ⟨r0, r1, x0, x1, x2, bw⟩ : LBox w W2 g2 _ _ _ _ _ := by rw [← hW, ← hg]; exact lboxB b1
         clear hW hg)
    all_goals have BW := Lib.hid bw
    all_goals have hlg := block_lt_of_cell r0
    all_goals have hlw := block_lt_of_cell x0
    all_goals clear k0 k1 k2 lt1 b1 bw
    all_goals
      go_wp2
      go_region_held3 (fun w' => w'.cell? ⟨g2, 0, none⟩ = some (.string ⟨#[112, 117, 115, 104]⟩) ∧ w'.cell? ⟨w.heap.size, 2, none⟩ = some (.float .f64 x)) (first | assumption | go_keep) (first | (go_at_call 34; refine (print_any x _ (LD.out.below (BW.out.trans ((below_drew W2).mono BW.out.size))) hx).mono ?_; rintro e w3 ⟨rfl, b3⟩; have m0 : w3.cell? ⟨g2, 0, none⟩ = some (.string ⟨#[112, 117, 115, 104]⟩) := (World.cell?_of_block (b3.block _ hlg)).trans r0; have m2 : w3.cell? ⟨w.heap.size, 2, none⟩ = some (.float .f64 x) := (World.cell?_of_block (b3.block _ hlw)).trans x2))
    all_goals
      have BF := Lib.hid ((BW.out.trans ((below_drew W2).mono BW.out.size)).trans (b3.mono (BW.out.trans ((below_drew W2).mono BW.out.size)).size))
      clear b3 m0 m2 r0 r1 x0 x1 x2
      go_wp2
      go_ret
      exact ⟨congrArg (fun z => Ending.returned (Value.string z)) (word_text [112, 117, 115, 104] _), BF.out⟩
  by_cases ho9 : op = 9
  · subst ho9
    have hn : 1 ≤ n ∧ n ≤ 8 := by
      unfold mayS at hm
      simp only at hm
      rw [if_neg (by rintro (h | h | h); omega; omega; exact h3 h), show most 9 = 8 from rfl, if_neg (by decide), if_neg (by decide), if_pos (by decide)] at hm
      simp at hm
      exact hm
    obtain ⟨i, rfl⟩ : ∃ i : Nat, n = (i : Int) := ⟨n.toNat, by omega⟩
    have hi2 : i < onesB.length := by show i < 9; omega
    have hi3 : (i : Int) < 9 := by omega
    have e : lineS ⟨9, i, x⟩ = (onesB.getD i ⟨#[]⟩).data.toList := rfl
    rw [e]
    clear e hm
    have ix := idx_rows 9 (by omega) (by omega)
    rw [show most 9 = 8 from rfl] at ix
    have sf := run_store_float
    go_enter Tryz.func19, Tryz.ntmps19
    go_wp2
    go_region_held3 (fun w' => w'.cell? ⟨w.heap.size, 0, none⟩ = some (.int .i64 9) ∧ w'.cell? ⟨w.heap.size, 1, none⟩ = some (.int .i64 (i : Int)) ∧ w'.cell? ⟨w.heap.size, 2, none⟩ = some (.float .f64 x)) (first | assumption | go_keep) (first | (go_at_call 21; refine (rows_walk _).mono ?_; rintro e w1 ⟨rfl, b1⟩; have k0 : w1.cell? ⟨w.heap.size, 0, none⟩ = some (.int .i64 9) := (World.cell?_of_block (b1.block _ (by first | (simp; done) | (simp; omega)))).trans (by simp); have k1 : w1.cell? ⟨w.heap.size, 1, none⟩ = some (.int .i64 (i : Int)) := (World.cell?_of_block (b1.block _ (by first | (simp; done) | (simp; omega)))).trans (by simp); have k2 : w1.cell? ⟨w.heap.size, 2, none⟩ = some (.float .f64 x) := (World.cell?_of_block (b1.block _ (by first | (simp; done) | (simp; omega)))).trans (by simp); have lt1 := b1.size; simp at lt1; (try (obtain ⟨⟨z0, z1, z2, z3⟩, y0, y1, y2, y3⟩ := row4 (old_row b1); simp at z0 z1 z2 z3 y0 y1 y2 y3))))
    all_goals first
      | (generalize hW : World.alloc w1 _ = W2
         generalize hg : w1.heap.size = g2
         obtain ⟨r0, r1, x0, x1, x2, bw⟩ : LBox w W2 g2 _ _ _ _ _ := by rw [← hW, ← hg]; exact lboxA b1
         clear hW hg)
      | (generalize hW : World.setCell (World.setCell (World.setCell (World.setCell w1 _ _) _ _) _ _) _ _ = W2
         generalize hg : w.heap.size + 1 = g2
         obtain ⟨r0, r1, x0, x1, x2, bw⟩ : LBox w W2 g2 _ _ _ _ _ := by rw [← hW, ← hg]; exact lboxB b1
         clear hW hg)
    all_goals have BW := Lib.hid bw
    all_goals have hlg := block_lt_of_cell r0
    all_goals have hlw := block_lt_of_cell x0
    all_goals clear k0 k1 k2 lt1 b1 bw
    all_goals
      go_wp2
      refine wp_region_noPanic ?_
      go_region_with (first | (go_at_call 35; refine (ones_walk _).mono ?_; rintro e w3 ⟨rfl, T, hT⟩; have b3 : Below W2.drew.heap.size W2.drew w3 := (by subst hT; exact below_alloc _ _); have st : w3.cell? ⟨W2.heap.size, i, none⟩ = some (.string (onesB.getD i ⟨#[]⟩)) := (by subst hT; exact strs_at W2.drew T onesB i hi2); have m1 : w3.cell? ⟨w.heap.size, 1, none⟩ = some (.int .i64 (i : Int)) := (World.cell?_of_block (b3.block _ hlw)).trans x1; clear hT))
    all_goals
      refine NoPanic.normal ?_
      have BF := Lib.hid ((BW.out.trans ((below_drew W2).mono BW.out.size)).trans (b3.mono (BW.out.trans ((below_drew W2).mono BW.out.size)).size))
      clear b3 m1 r0 r1 x0 x1 x2
      go_wp2
      go_ret
      exact ⟨congrArg (fun z => Ending.returned (Value.string z)) (by first | rfl | exact S_at onesB i hi2), BF.out⟩
  by_cases ho10 : op = 10
  · subst ho10
    have hn : 1 ≤ n ∧ n ≤ 12 := by
      unfold mayS at hm
      simp only at hm
      rw [if_neg (by rintro (h | h | h); omega; omega; exact h3 h), show most 10 = 12 from rfl, if_neg (by decide), if_neg (by decide), if_pos (by decide)] at hm
      simp at hm
      exact hm
    obtain ⟨i, rfl⟩ : ∃ i : Nat, n = (i : Int) := ⟨n.toNat, by omega⟩
    have hi2 : i < twosB.length := by show i < 13; omega
    have hi3 : (i : Int) < 13 := by omega
    have e : lineS ⟨10, i, x⟩ = (twosB.getD i ⟨#[]⟩).data.toList := rfl
    rw [e]
    clear e hm
    have ix := idx_rows 10 (by omega) (by omega)
    rw [show most 10 = 12 from rfl] at ix
    have sf := run_store_float
    go_enter Tryz.func19, Tryz.ntmps19
    go_wp2
    go_region_held3 (fun w' => w'.cell? ⟨w.heap.size, 0, none⟩ = some (.int .i64 10) ∧ w'.cell? ⟨w.heap.size, 1, none⟩ = some (.int .i64 (i : Int)) ∧ w'.cell? ⟨w.heap.size, 2, none⟩ = some (.float .f64 x)) (first | assumption | go_keep) (first | (go_at_call 21; refine (rows_walk _).mono ?_; rintro e w1 ⟨rfl, b1⟩; have k0 : w1.cell? ⟨w.heap.size, 0, none⟩ = some (.int .i64 10) := (World.cell?_of_block (b1.block _ (by first | (simp; done) | (simp; omega)))).trans (by simp); have k1 : w1.cell? ⟨w.heap.size, 1, none⟩ = some (.int .i64 (i : Int)) := (World.cell?_of_block (b1.block _ (by first | (simp; done) | (simp; omega)))).trans (by simp); have k2 : w1.cell? ⟨w.heap.size, 2, none⟩ = some (.float .f64 x) := (World.cell?_of_block (b1.block _ (by first | (simp; done) | (simp; omega)))).trans (by simp); have lt1 := b1.size; simp at lt1; (try (obtain ⟨⟨z0, z1, z2, z3⟩, y0, y1, y2, y3⟩ := row4 (old_row b1); simp at z0 z1 z2 z3 y0 y1 y2 y3))))
    all_goals first
      | (generalize hW : World.alloc w1 _ = W2
         generalize hg : w1.heap.size = g2
         obtain ⟨r0, r1, x0, x1, x2, bw⟩ : LBox w W2 g2 _ _ _ _ _ := by rw [← hW, ← hg]; exact lboxA b1
         clear hW hg)
      | (generalize hW : World.setCell (World.setCell (World.setCell (World.setCell w1 _ _) _ _) _ _) _ _ = W2
         generalize hg : w.heap.size + 1 = g2
         obtain ⟨r0, r1, x0, x1, x2, bw⟩ : LBox w W2 g2 _ _ _ _ _ := by rw [← hW, ← hg]; exact lboxB b1
         clear hW hg)
    all_goals have BW := Lib.hid bw
    all_goals have hlg := block_lt_of_cell r0
    all_goals have hlw := block_lt_of_cell x0
    all_goals clear k0 k1 k2 lt1 b1 bw
    all_goals
      go_wp2
      refine wp_region_noPanic ?_
      go_region_with (first | (go_at_call 36; refine (twos_walk _).mono ?_; rintro e w3 ⟨rfl, T, hT⟩; have b3 : Below W2.drew.heap.size W2.drew w3 := (by subst hT; exact below_alloc _ _); have st : w3.cell? ⟨W2.heap.size, i, none⟩ = some (.string (twosB.getD i ⟨#[]⟩)) := (by subst hT; exact strs_at W2.drew T twosB i hi2); have m1 : w3.cell? ⟨w.heap.size, 1, none⟩ = some (.int .i64 (i : Int)) := (World.cell?_of_block (b3.block _ hlw)).trans x1; clear hT))
    all_goals
      refine NoPanic.normal ?_
      have BF := Lib.hid ((BW.out.trans ((below_drew W2).mono BW.out.size)).trans (b3.mono (BW.out.trans ((below_drew W2).mono BW.out.size)).size))
      clear b3 m1 r0 r1 x0 x1 x2
      go_wp2
      go_ret
      exact ⟨congrArg (fun z => Ending.returned (Value.string z)) (by first | rfl | exact S_at twosB i hi2), BF.out⟩
  have t1 : (op == 1) = false := by simpa using ho
  have t9 : (op == 9) = false := by simpa using ho9
  have t10 : (op == 10) = false := by simpa using ho10
  have ix := idx_rows op (by omega) (by omega)
  have hM99 := most_le op
  by_cases hm2 : most op = -2
  · have e : lineS ⟨op, n, x⟩ = (rowAt op).1 := by
      unfold lineS
      simp only
      rw [if_neg ho, if_neg ho9, if_neg ho10, if_pos hm2]
    rw [e]
    clear e hm
    rw [hm2] at ix
    have sf := run_store_float
    go_enter Tryz.func19, Tryz.ntmps19
    go_wp2
    go_region_held3 (fun w' => w'.cell? ⟨w.heap.size, 0, none⟩ = some (.int .i64 op) ∧ w'.cell? ⟨w.heap.size, 1, none⟩ = some (.int .i64 n) ∧ w'.cell? ⟨w.heap.size, 2, none⟩ = some (.float .f64 x)) (first | assumption | go_keep) (first | (go_at_call 21; refine (rows_walk _).mono ?_; rintro e w1 ⟨rfl, b1⟩; have k0 : w1.cell? ⟨w.heap.size, 0, none⟩ = some (.int .i64 op) := (World.cell?_of_block (b1.block _ (by first | (simp; done) | (simp; omega)))).trans (by simp); have k1 : w1.cell? ⟨w.heap.size, 1, none⟩ = some (.int .i64 n) := (World.cell?_of_block (b1.block _ (by first | (simp; done) | (simp; omega)))).trans (by simp); have k2 : w1.cell? ⟨w.heap.size, 2, none⟩ = some (.float .f64 x) := (World.cell?_of_block (b1.block _ (by first | (simp; done) | (simp; omega)))).trans (by simp); have lt1 := b1.size; simp at lt1; (try (obtain ⟨⟨z0, z1, z2, z3⟩, y0, y1, y2, y3⟩ := row4 (old_row b1); simp at z0 z1 z2 z3 y0 y1 y2 y3))))
    all_goals first
      | (generalize hW : World.alloc w1 _ = W2
         generalize hg : w1.heap.size = g2
         obtain ⟨r0, r1, x0, x1, x2, bw⟩ : LBox w W2 g2 _ _ _ _ _ := by rw [← hW, ← hg]; exact lboxA b1
         clear hW hg)
      | (generalize hW : World.setCell (World.setCell (World.setCell (World.setCell w1 _ _) _ _) _ _) _ _ = W2
         generalize hg : w.heap.size + 1 = g2
         obtain ⟨r0, r1, x0, x1, x2, bw⟩ : LBox w W2 g2 _ _ _ _ _ := by rw [← hW, ← hg]; exact lboxB b1
         clear hW hg)
    all_goals have BW := Lib.hid bw
    all_goals have hlg := block_lt_of_cell r0
    all_goals have hlw := block_lt_of_cell x0
    all_goals clear k0 k1 k2 lt1 b1 bw
    all_goals
      go_wp2
      go_ret
      exact ⟨congrArg (fun z => Ending.returned (Value.string z)) rfl, BW.out⟩
  · have hn : 0 ≤ n ∧ n ≤ 2000 := by
      unfold mayS at hm
      simp only at hm
      rw [if_neg (by rintro (h | h | h); omega; omega; exact h3 h), if_neg hm2] at hm
      split at hm
      · simp at hm; omega
      · rw [if_neg (by omega)] at hm
        simp at hm
        omega
    have e : lineS ⟨op, n, x⟩ = (rowAt op).1 ++ [32] ++ Lib.itoa n := by
      unfold lineS
      simp only
      rw [if_neg ho, if_neg ho9, if_neg ho10, if_neg hm2]
    rw [e]
    clear e hm
    obtain ⟨M, hM⟩ : ∃ M, M = most op := ⟨_, rfl⟩
    rw [← hM] at ix hm2
    have tm : (M == -2) = false := by simpa using hm2
    have hwl : (rowAt op).1.length ≤ 20 := by
      unfold rowAt
      have : ∀ k : Nat, k < 21 → (rowsL.getD k ([], 0, 0, 0)).1.length ≤ 20 := by decide +kernel
      exact this _ (by omega)
    obtain ⟨wd, hwd⟩ : ∃ wd, wd = (rowAt op).1 := ⟨_, rfl⟩
    rw [← hwd] at ix hwl ⊢
    have hws : (⟨wd.toArray⟩ : ByteArray).size ≤ 20 := by
      have : (⟨wd.toArray⟩ : ByteArray).size = wd.length := S_size wd
      omega
    have hz0 : (S (Lib.itoa n)).size ≤ 21 := by rw [S_size]; exact Lib.itoa_length_le n (by omega) (by omega)
    have hz1 : ¬ 9223372036854775807 < (⟨wd.toArray⟩ : ByteArray).size + 1 := by omega
    have hil : (Lib.itoa n).length ≤ 21 := Lib.itoa_length_le n (by omega) (by omega)
    have hz3 : ¬ 9223372036854775807 < wd.length + 1 := by omega
    have hz4 : ¬ 9223372036854775807 < wd.length + 1 + (Lib.itoa n).length := by omega
    have hz2 : ¬ 9223372036854775807 < ((⟨wd.toArray⟩ : ByteArray) ++ ⟨#[32]⟩).size + (S (Lib.itoa n)).size := by
      have : ((⟨wd.toArray⟩ : ByteArray) ++ ⟨#[32]⟩).size = (⟨wd.toArray⟩ : ByteArray).size + 1 := by simp [ByteArray.size_append]; rfl
      omega
    have sf := run_store_float
    clear hM hwd
    go_enter Tryz.func19, Tryz.ntmps19
    go_wp2
    go_region_held3 (fun w' => w'.cell? ⟨w.heap.size, 0, none⟩ = some (.int .i64 op) ∧ w'.cell? ⟨w.heap.size, 1, none⟩ = some (.int .i64 n) ∧ w'.cell? ⟨w.heap.size, 2, none⟩ = some (.float .f64 x)) (first | assumption | go_keep) (first | (go_at_call 21; refine (rows_walk _).mono ?_; rintro e w1 ⟨rfl, b1⟩; have k0 : w1.cell? ⟨w.heap.size, 0, none⟩ = some (.int .i64 op) := (World.cell?_of_block (b1.block _ (by first | (simp; done) | (simp; omega)))).trans (by simp); have k1 : w1.cell? ⟨w.heap.size, 1, none⟩ = some (.int .i64 n) := (World.cell?_of_block (b1.block _ (by first | (simp; done) | (simp; omega)))).trans (by simp); have k2 : w1.cell? ⟨w.heap.size, 2, none⟩ = some (.float .f64 x) := (World.cell?_of_block (b1.block _ (by first | (simp; done) | (simp; omega)))).trans (by simp); have lt1 := b1.size; simp at lt1; (try (obtain ⟨⟨z0, z1, z2, z3⟩, y0, y1, y2, y3⟩ := row4 (old_row b1); simp at z0 z1 z2 z3 y0 y1 y2 y3))))
    all_goals first
      | (generalize hW : World.alloc w1 _ = W2
         generalize hg : w1.heap.size = g2
         obtain ⟨r0, r1, x0, x1, x2, bw⟩ : LBox w W2 g2 _ _ _ _ _ := by rw [← hW, ← hg]; exact lboxA b1
         clear hW hg)
      | (generalize hW : World.setCell (World.setCell (World.setCell (World.setCell w1 _ _) _ _) _ _) _ _ = W2
         generalize hg : w.heap.size + 1 = g2
         obtain ⟨r0, r1, x0, x1, x2, bw⟩ : LBox w W2 g2 _ _ _ _ _ := by rw [← hW, ← hg]; exact lboxB b1
         clear hW hg)
    all_goals have BW := Lib.hid bw
    all_goals have hlg := block_lt_of_cell r0
    all_goals have hlw := block_lt_of_cell x0
    all_goals clear k0 k1 k2 lt1 b1 bw
    all_goals
      go_wp2
      go_region_held3 (fun w' => w'.cell? ⟨g2, 0, none⟩ = some (.string ⟨wd.toArray⟩) ∧ w'.cell? ⟨w.heap.size, 1, none⟩ = some (.int .i64 n)) (first | assumption | go_keep) (first | (go_at_call 37; refine (Tryz.strconv_Itoa n (by omega) (by omega) _ (LD.out.below (BW.out.trans ((below_drew W2).mono BW.out.size))).tab).mono ?_; rintro e w3 ⟨rfl, kk, os, hT⟩; have b3 : Below W2.drew.heap.size W2.drew w3 := (by subst hT; exact below_grow _ _ _); have m0 : w3.cell? ⟨g2, 0, none⟩ = some (.string ⟨wd.toArray⟩) := (World.cell?_of_block (b3.block _ hlg)).trans r0; have m1 : w3.cell? ⟨w.heap.size, 1, none⟩ = some (.int .i64 n) := (World.cell?_of_block (b3.block _ hlw)).trans x1; clear hT))
    all_goals
      have BF := Lib.hid ((BW.out.trans ((below_drew W2).mono BW.out.size)).trans (b3.mono (BW.out.trans ((below_drew W2).mono BW.out.size)).size))
      clear b3 m0 m1 r0 r1 x0 x1 x2
      go_wp2
      go_ret
      exact ⟨congrArg (fun z => Ending.returned (Value.string z)) (word_text wd _), BF.out⟩
end Go.Proofs.YtjlnhifleepnoaaGreatDoor
