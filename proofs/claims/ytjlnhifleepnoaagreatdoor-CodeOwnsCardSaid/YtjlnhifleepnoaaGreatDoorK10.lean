import Derived.Test.YtjlnhifleepnoaaGreatDoorK9
import Derived.Test.YtjlnhifleepnoaaGreatDoorT1
set_option linter.unusedVariables false
set_option linter.unusedSimpArgs false
namespace Go.Proofs.YtjlnhifleepnoaaGreatDoor
open Go.RowKit

/-- The tables, and the cell that strings.Cut reads. -/
structure Laid2 (w : World) : Prop where
  laid : Laid w
  cutoff : ∃ m, w.cell? ⟨1, 0, none⟩ = some (.int .i64 m)
theorem Laid2.below {w w' : World} (L : Laid2 w) (b : Below w.heap.size w w') : Laid2 w' := by
  refine ⟨L.laid.below b, ?_⟩
  obtain ⟨m, h⟩ := L.cutoff
  exact ⟨m, (World.cell?_of_block (w := w) (b.block _ (block_lt_of_cell h))).trans h⟩
theorem cut_walk (s sep : ByteArray) (w : World) (L : Laid2 w) (hs : s.size < 4294967281) : Calls Tryz.prog 23 #[.string s, .string sep] w fun e w' => e = .returned (.tuple #[.string (S (Lib.cut s.toList sep.toList).1), .string (S (Lib.cut s.toList sep.toList).2.1), .bool (Lib.cut s.toList sep.toList).2.2]) ∧ Below w.heap.size w w' := by
  obtain ⟨m, h⟩ := L.cutoff
  refine (Tryz.strings_Cut s sep m w hs h).mono ?_
  rintro e w' ⟨rfl, n, rfl⟩
  rw [ByteArray.toList_eq, ByteArray.toList_eq]
  exact ⟨rfl, below_of_chg ((Chg.refl _ _).drewN n)⟩

def tryO (s : List UInt8) (lst : List ByteArray) (op : Int) (i : Nat) : Option Ins := if 0 < i ∧ (lst.getD i ⟨#[]⟩).toList = s then some ⟨op, i, 0⟩ else none
def tryR (wd rs : List UInt8) (more : Bool) (i : Nat) : Option Ins :=
  if (rowAt i).1 = [] ∨ (rowAt i).1 ≠ wd then none
  else if i = 1 ∧ more = true then (if parseE rs = 0 then some ⟨1, 0, parseB rs⟩ else none)
  else if i ≠ 1 ∧ most i = -2 then (if more = true then none else some ⟨i, 0, 0⟩)
  else if more = true then (if wholeE rs = 0 ∧ mayS ⟨i, wholeN rs, 0⟩ 1024 = true then some ⟨i, wholeN rs, 0⟩ else none)
  else none
def fstO (f : Nat → Option Ins) : Nat → Nat → Option Ins
  | 0, _ => none
  | k + 1, i => match f i with | some p => some p | none => fstO f k (i + 1)
/-- What instr makes of a line. -/
def instrS (s : List UInt8) : Option Ins :=
  match fstO (tryO s onesB 9) 9 0 with
  | some p => some p
  | none => match fstO (tryO s twosB 10) 13 0 with
    | some p => some p
    | none => fstO (tryR (Lib.cut s [32]).1 (Lib.cut s [32]).2.1 (Lib.cut s [32]).2.2) 21 0

theorem fst_hit {f : Nat → Option Ins} {k i : Nat} {p : Ins} (h : f i = some p) : fstO f (k + 1) i = some p := by simp [fstO, h]
theorem fst_miss {f : Nat → Option Ins} {k i : Nat} (h : f i = none) : fstO f (k + 1) i = fstO f k (i + 1) := by simp [fstO, h]

def insEnd (n : Int) : Option Ins → Ending
  | some p => .returned p.v
  | none => .panicked [{ v := .iface 40 (.agg #[.int .i64 20, .int .i64 n]), recovered := false }]

/-- The result's cells, behind a store. -/
theorem ret_row {W : World} {g : Nat} {a b c x y z : Value} {T : TypeId} (h : W.heap[g]? = some (.cells #[a, b, c] T (0, 0))) : (((W.setCell ⟨g, 0, none⟩ x).setCell ⟨g, 1, none⟩ y).setCell ⟨g, 2, none⟩ z).heap[g]? = some (.cells #[x, y, z] T (0, 0)) := by
  have s1 := heap_put (cs' := #[x, b, c]) h (i := 0) (v := x) rfl
  have s2 := heap_put (cs' := #[x, y, c]) s1 (i := 1) (v := y) rfl
  exact heap_put (cs' := #[x, y, z]) s2 (i := 2) (v := z) rfl
theorem chg_ret {w W : World} {g : Nat} {x y z : Value} (c : Chg [] w W) (hg : w.heap.size ≤ g) : Chg [] w (((W.setCell ⟨g, 0, none⟩ x).setCell ⟨g, 1, none⟩ y).setCell ⟨g, 2, none⟩ z) :=
  ((c.setCell (.inr hg) _).setCell (.inr hg) _).setCell (.inr hg) _
theorem row3 {w1 : World} {g : Nat} {c0 c1 c2 : Value} {T : TypeId} (h : w1.heap[g]? = some (.cells #[c0, c1, c2] T (0, 0))) : (w1.cell? ⟨g, 0, none⟩ = some c0 ∧ w1.cell? ⟨g, 1, none⟩ = some c1 ∧ w1.cell? ⟨g, 2, none⟩ = some c2) ∧ w1.frozen? ⟨g, 0, none⟩ = false ∧ w1.frozen? ⟨g, 1, none⟩ = false ∧ w1.frozen? ⟨g, 2, none⟩ = false :=
  ⟨⟨cell_of_row _ _ _ _ _ _ h, cell_of_row _ _ _ _ _ _ h, cell_of_row _ _ _ _ _ _ h⟩, frozen_of_row _ _ _ _ _ h, frozen_of_row _ _ _ _ _ h, frozen_of_row _ _ _ _ _ h⟩

theorem xrow {wr w5 : World} {o : Obj} {cs : Array Value} {T : TypeId} (b : Below ((wr.alloc o).alloc (.cells cs T)).heap.size ((wr.alloc o).alloc (.cells cs T)) w5) : w5.heap[wr.heap.size + 1]? = some (.cells cs T (0, 0)) := by
  have := (b.block (wr.alloc o).heap.size (by simp)).trans (heap_alloc_new _ _)
  simpa using this
theorem zrow {wr W : World} {g : Nat} {o : Obj} (c : Chg [] wr W) (h : wr.heap[g]? = some o) : W.heap[g]? = some o := (c.block _ (lt_of_heap h) (by simp)).trans h
set_option maxRecDepth 100000 in
set_option maxHeartbeats 16000000 in
theorem instr_walk (s : ByteArray) (ln : Int) (w : World) (L : Laid2 w) (hs : s.size < 4294967281) : Calls Tryz.prog 24 #[.string s, .int .i64 ln] w fun e w' => e = insEnd ln (instrS s.toList) ∧ Below w.heap.size w w' := by
  have sf := run_store_float
  have LD := Lib.hid L
  clear L
  obtain ⟨r, hr⟩ : ∃ r, r = instrS s.toList := ⟨_, rfl⟩
  rw [← hr]
  have HR := Lib.hid hr
  clear hr
  have CW : ∀ W, Laid2 W → Calls Tryz.prog 23 #[.string s, .string ⟨#[32]⟩] W fun e w' => e = .returned (.tuple #[.string (S (Lib.cut s.toList [32]).1), .string (S (Lib.cut s.toList [32]).2.1), .bool (Lib.cut s.toList [32]).2.2]) ∧ Below W.heap.size W w' := fun W l => by
    have h := cut_walk s ⟨#[32]⟩ W l hs
    rwa [show (⟨#[32]⟩ : ByteArray).toList = [32] by rw [ByteArray.toList_eq]] at h
  obtain ⟨wd, hwd⟩ : ∃ wd, wd = (Lib.cut s.toList [32]).1 := ⟨_, rfl⟩
  obtain ⟨rs, hrs⟩ : ∃ rs, rs = (Lib.cut s.toList [32]).2.1 := ⟨_, rfl⟩
  obtain ⟨more, hmore⟩ : ∃ m, m = (Lib.cut s.toList [32]).2.2 := ⟨_, rfl⟩
  rw [← hwd, ← hrs, ← hmore] at CW
  have hrl : (S rs).size ≤ 281474976710656 := by
    rw [S_size, hrs]
    have hsl : s.toList.length = s.size := by rw [ByteArray.toList_eq]; exact (Lib.size_eq s).symm
    unfold Lib.cut
    split
    · simp only [List.length_drop]; omega
    · simp
  have PW : ∀ W, Laid W → Calls Tryz.prog 40 #[.string (S rs)] W fun e w' => e = .returned (.tuple #[.float .f64 (parseB rs), .int .i64 (parseE rs)]) ∧ Below W.heap.size W w' := fun W l => by
    have h := parse_walk (S rs) W l hrl
    unfold ParsePost at h
    rwa [show (S rs).toList = rs by simp [S]] at h
  have WW : ∀ W, Laid W → Calls Tryz.prog 41 #[.string (S rs)] W fun e w' => e = .returned (.tuple #[.int .i64 (wholeN rs), .int .i64 (wholeE rs)]) ∧ Below W.heap.size W w' := fun W l => by
    have h := whole_walk (S rs) W l hrl
    unfold WholePost at h
    rwa [show (S rs).toList = rs by simp [S]] at h
  have IS := Lib.hid (show r = match fstO (tryO s.toList onesB 9) 9 0 with
    | some p => some p
    | none => match fstO (tryO s.toList twosB 10) 13 0 with
      | some p => some p
      | none => fstO (tryR wd rs more) 21 0 from by rw [HR.out, hwd, hrs, hmore]; rfl)
  clear HR hwd hrs hmore
  go_enter Tryz.func24, Tryz.ntmps24
  go_wp2_with (first | (go_at_call 23; refine (CW _ (LD.out.below (below_alloc _ _))).mono ?_; rintro e w1 ⟨rfl, b1⟩; have C1 := Lib.hid (((Chg.refl [] w).alloc _).trans (Chg.of_below b1)); have Z1 := Lib.hid (show w1.heap[w.heap.size]? = some (.cells #[.int .i64 0, .int .i64 0, .float .f64 0] 33 (0, 0)) from (b1.block _ (by simp)).trans (heap_alloc_new _ _)); clear b1) | (go_at_call 35; refine (ones_walk _).mono ?_; rintro e w2 ⟨rfl, T2, h2⟩; have S2 := Lib.hid (show ∀ j, j < 9 → w2.cell? ⟨w1.heap.size, j, none⟩ = some (.string (onesB.getD j ⟨#[]⟩)) from fun j hj => (by subst h2; exact strs_at w1 T2 onesB j hj)); have C2 := Lib.hid (show Chg [] w w2 from (by subst h2; exact C1.out.alloc _)); have Z2 := Lib.hid (show w2.heap[w.heap.size]? = some (.cells #[.int .i64 0, .int .i64 0, .float .f64 0] 33 (0, 0)) from (by subst h2; exact ((below_alloc w1 _).block _ (lt_of_heap Z1.out)).trans Z1.out)); clear h2))
  generalize w1.heap.size = g1 at *
  clear C1 Z1
  go_loopw [26] (fun i wr => ∃ k : Nat, wr = w2 ∧ i = .int .i64 k ∧ k ≤ 9 ∧ fstO (tryO s.toList onesB 9) 9 0 = fstO (tryO s.toList onesB 9) (9 - k) k) (fun i _ => 9 - (intOf i).toNat)
  case atStart => exact ⟨0, rfl, rfl, by omega, rfl⟩
  case round =>
    obtain ⟨k, rfl, rfl, hk, hf⟩ := hrel
    have F := Lib.hid hf
    clear hf
    by_cases h : k < 9
    · have h' : (k : Int) < 9 := by omega
      have c1 := S2.out k h
      obtain ⟨x, hx⟩ : ∃ x, x = onesB.getD k ⟨#[]⟩ := ⟨_, rfl⟩
      rw [← hx] at c1
      obtain ⟨q, hq⟩ : ∃ q, 9 - k = q + 1 := ⟨8 - k, by omega⟩
      by_cases hit : 0 < k ∧ x.toList = s.toList
      · obtain ⟨h1, h2⟩ := hit
        have h1' : (0 : Int) < k := by omega
        have t1 : (x.toList == s.toList) = true := by simp [h2]
        have RR := Lib.hid (show r = some ⟨9, k, 0⟩ from by rw [IS.out, F.out, hq, fst_hit (p := ⟨9, k, 0⟩) (by unfold tryO; rw [← hx, if_pos ⟨h1, h2⟩])])
        obtain ⟨⟨z0, z1, z2⟩, y0, y1, y2⟩ := row3 Z2.out
        clear hx h2 hq
        go_wp2
        refine bodyPost_ret (results_cell_row (p := 4) (ty := 33) (by kernel_rfl) _ _ w.heap.size 33 _ (0, 0) _ rfl (ret_row Z2.out) Tryz.underlying33 rfl (by kernel_rfl)) rfl ⟨?_, below_of_chg (chg_ret C2.out (Nat.le_refl _))⟩
        rw [RR.out]
        rfl
      · have NF := Lib.hid (show fstO (tryO s.toList onesB 9) 9 0 = fstO (tryO s.toList onesB 9) (9 - (k + 1)) (k + 1) from by
          rw [F.out, hq, fst_miss (by unfold tryO; rw [← hx, if_neg hit]), show 9 - (k + 1) = q by omega])
        by_cases h1 : 0 < k
        · have h1' : (0 : Int) < k := by omega
          have t1 : (x.toList == s.toList) = false := by rw [beq_eq_false_iff_ne]; exact fun e => hit ⟨h1, e⟩
          clear hx hit hq
          go_wp2
          go_roundw
          case rel => exact ⟨k + 1, trivial, by go_num, by omega, NF.out⟩
          case measure => simp [intOf]; omega
        · have h1' : ¬ (0 : Int) < k := by omega
          clear hx hit hq
          go_wp2
          go_roundw
          case rel => exact ⟨k + 1, trivial, by go_num, by omega, NF.out⟩
          case measure => simp [intOf]; omega
    · obtain rfl : k = 9 := by omega
      have h' : ¬ (((9 : Nat) : Int)) < 9 := by omega
      have F0 : fstO (tryO s.toList onesB 9) 9 0 = none := F.out
      have IS2 := Lib.hid (show r = match fstO (tryO s.toList twosB 10) 13 0 with
        | some p => some p
        | none => fstO (tryR wd rs more) 21 0 from by rw [IS.out, F0])
      clear IS F F0 S2 h
      go_wp2_with (go_at_call 36; refine (twos_walk _).mono ?_; rintro e w3 ⟨rfl, T3, h3⟩; have S3 := Lib.hid (show ∀ j, j < 13 → w3.cell? ⟨wr.heap.size, j, none⟩ = some (.string (twosB.getD j ⟨#[]⟩)) from fun j hj => (by subst h3; exact strs_at wr T3 twosB j hj)); have C3 := Lib.hid (show Chg [] w w3 from (by subst h3; exact C2.out.alloc _)); have Z3 := Lib.hid (show w3.heap[w.heap.size]? = some (.cells #[.int .i64 0, .int .i64 0, .float .f64 0] 33 (0, 0)) from (by subst h3; exact ((below_alloc wr _).block _ (lt_of_heap Z2.out)).trans Z2.out)); clear h3)
      generalize wr.heap.size = g3 at *
      clear C2 Z2
      go_loopw [43] (fun i wr => ∃ k : Nat, wr = w3 ∧ i = .int .i64 k ∧ k ≤ 13 ∧ fstO (tryO s.toList twosB 10) 13 0 = fstO (tryO s.toList twosB 10) (13 - k) k) (fun i _ => 13 - (intOf i).toNat)
      case atStart => exact ⟨0, rfl, rfl, by omega, rfl⟩
      case round =>
        obtain ⟨k, rfl, rfl, hk, hf⟩ := hrel
        have F := Lib.hid hf
        clear hf
        by_cases h : k < 13
        · have h' : (k : Int) < 13 := by omega
          have c1 := S3.out k h
          obtain ⟨x, hx⟩ : ∃ x, x = twosB.getD k ⟨#[]⟩ := ⟨_, rfl⟩
          rw [← hx] at c1
          obtain ⟨q, hq⟩ : ∃ q, 13 - k = q + 1 := ⟨12 - k, by omega⟩
          by_cases hit : 0 < k ∧ x.toList = s.toList
          · obtain ⟨h1, h2⟩ := hit
            have h1' : (0 : Int) < k := by omega
            have t1 : (x.toList == s.toList) = true := by simp [h2]
            have RR := Lib.hid (show r = some ⟨10, k, 0⟩ from by rw [IS2.out, F.out, hq, fst_hit (p := ⟨10, k, 0⟩) (by unfold tryO; rw [← hx, if_pos ⟨h1, h2⟩])])
            obtain ⟨⟨z0, z1, z2⟩, y0, y1, y2⟩ := row3 Z3.out
            clear hx h2 hq
            go_wp2
            refine bodyPost_ret (results_cell_row (p := 4) (ty := 33) (by kernel_rfl) _ _ w.heap.size 33 _ (0, 0) _ rfl (ret_row Z3.out) Tryz.underlying33 rfl (by kernel_rfl)) rfl ⟨?_, below_of_chg (chg_ret C3.out (Nat.le_refl _))⟩
            rw [RR.out]
            rfl
          · have NF := Lib.hid (show fstO (tryO s.toList twosB 10) 13 0 = fstO (tryO s.toList twosB 10) (13 - (k + 1)) (k + 1) from by
              rw [F.out, hq, fst_miss (by unfold tryO; rw [← hx, if_neg hit]), show 13 - (k + 1) = q by omega])
            by_cases h1 : 0 < k
            · have h1' : (0 : Int) < k := by omega
              have t1 : (x.toList == s.toList) = false := by rw [beq_eq_false_iff_ne]; exact fun e => hit ⟨h1, e⟩
              clear hx hit hq
              go_wp2
              go_roundw
              case rel => exact ⟨k + 1, trivial, by go_num, by omega, NF.out⟩
              case measure => simp [intOf]; omega
            · have h1' : ¬ (0 : Int) < k := by omega
              clear hx hit hq
              go_wp2
              go_roundw
              case rel => exact ⟨k + 1, trivial, by go_num, by omega, NF.out⟩
              case measure => simp [intOf]; omega
        · obtain rfl : k = 13 := by omega
          have h' : ¬ (((13 : Nat) : Int)) < 13 := by omega
          have F0 : fstO (tryO s.toList twosB 10) 13 0 = none := F.out
          have IS3 := Lib.hid (show r = fstO (tryR wd rs more) 21 0 from by rw [IS2.out, F0])
          clear IS2 F F0 S3 h
          go_wp2_with (go_at_call 21; refine (rows_walk _).mono ?_; rintro e w4 ⟨rfl, b4⟩; have C4 := Lib.hid (C3.out.trans (Chg.of_below b4)); have Z4 := Lib.hid ((b4.block _ (lt_of_heap Z3.out)).trans Z3.out); clear b4)
          clear C3 Z3
          go_loopw [59] (fun i wr => ∃ k : Nat, i = .int .i64 k ∧ k ≤ 21 ∧ Chg [] w wr ∧ wr.heap[w.heap.size]? = some (.cells #[.int .i64 0, .int .i64 0, .float .f64 0] 33 (0, 0)) ∧ fstO (tryR wd rs more) 21 0 = fstO (tryR wd rs more) (21 - k) k) (fun i _ => 21 - (intOf i).toNat)
          case atStart => exact ⟨0, rfl, by omega, C4.out, Z4.out, rfl⟩
          case round =>
            clear C4 Z4
            obtain ⟨k, rfl, hk, hc4, hz4, hf⟩ := hrel
            have F := Lib.hid hf
            have C4 := Lib.hid hc4
            have Z4 := Lib.hid hz4
            clear hf hc4 hz4
            by_cases h : k < 21
            · have h' : (k : Int) < 21 := by omega
              have ix := idx_rows k (by omega) h'
              obtain ⟨q, hq⟩ : ∃ q, 21 - k = q + 1 := ⟨20 - k, by omega⟩
              have MISS := Lib.hid (show tryR wd rs more k = none → fstO (tryR wd rs more) 21 0 = fstO (tryR wd rs more) (21 - (k + 1)) (k + 1) from fun hh => by rw [F.out, hq, fst_miss hh, show 21 - (k + 1) = q by omega])
              have HIT := Lib.hid (show ∀ p, tryR wd rs more k = some p → r = some p from fun p hh => by rw [IS3.out, F.out, hq, fst_hit hh])
              clear hq
              obtain ⟨xw, hxw⟩ : ∃ xw : ByteArray, xw = ⟨(rowAt k).1.toArray⟩ := ⟨_, rfl⟩
              have hxl : xw.toList = (rowAt k).1 := by rw [hxw, ByteArray.toList_eq]
              rw [← hxw] at ix
              clear hxw
              by_cases hw : (rowAt k).1 = [] ∨ (rowAt k).1 ≠ wd
              · have NF := Lib.hid (MISS.out (by unfold tryR; rw [if_pos hw]))
                clear MISS HIT
                by_cases he : (rowAt k).1 = []
                · have e2 : xw.toList = [] := by rw [hxl, he]
                  have e1 : xw.toList.isEmpty = true := by rw [e2]; rfl
                  clear hxl hw he
                  go_wp2
                  go_roundw
                  case rel => exact ⟨k + 1, by go_num, by omega, C4.out.alloc _, zrow ((Chg.refl [] wr).alloc _) Z4.out, NF.out⟩
                  case measure => first | (simp [intOf]; done) | (simp [intOf]; omega)
                · have e2 : ¬ xw.toList = [] := by rw [hxl]; exact he
                  have e1 : xw.toList.isEmpty = false := by rw [hxl]; simpa using he
                  have t1 : (xw.toList == (S wd).toList) = false := by rw [beq_eq_false_iff_ne, hxl, show (S wd).toList = wd by simp [S]]; exact fun e => hw.elim he (fun g => g e)
                  clear hxl hw he
                  go_wp2
                  go_roundw
                  case rel => exact ⟨k + 1, by go_num, by omega, C4.out.alloc _, zrow ((Chg.refl [] wr).alloc _) Z4.out, NF.out⟩
                  case measure => first | (simp [intOf]; done) | (simp [intOf]; omega)
              · have he : ¬ (rowAt k).1 = [] := fun e => hw (.inl e)
                have e2 : ¬ xw.toList = [] := by rw [hxl]; exact he
                have e1 : xw.toList.isEmpty = false := by rw [hxl]; simpa using he
                have t1 : (xw.toList == (S wd).toList) = true := by rw [beq_iff_eq, hxl, show (S wd).toList = wd by simp [S]]; exact Classical.not_not.1 (fun e => hw (.inr e))
                have lz := lt_of_heap Z4.out
                have hne1 : ¬ w.heap.size = wr.heap.size + 1 := by omega
                have hne2 : ¬ wr.heap.size + 1 = w.heap.size := by omega
                by_cases h1 : k = 1 ∧ more = true
                · obtain ⟨rfl, rfl⟩ := h1
                  have HS : w.heap.size ≤ wr.heap.size + 1 := by omega
                  have ix1 : ∀ W : World, (Instr.index 61 (.agg rowsC) (.int .i64 1)).run Tryz.prog W = .ok (.agg #[.string xw, .int .i64 (most 1), .int .i64 (rowAt 1).2.2.1, .int .i64 (rowAt 1).2.2.2]) W := ix
                  clear ix
                  by_cases hp : parseE rs = 0
                  · have RR := Lib.hid (HIT.out ⟨1, 0, parseB rs⟩ (by unfold tryR; rw [if_neg hw, if_pos ⟨rfl, rfl⟩, if_pos hp]))
                    rw [hp] at PW
                    clear HIT MISS hw he hxl hp
                    go_wp2_with (go_at_call 40; refine (PW _ (LD.out.below (below_of_chg ((C4.out.alloc _).alloc _))).laid).mono ?_; rintro e w5 ⟨rfl, b5⟩; have B5 := Lib.hid b5; obtain ⟨⟨z0, z1, z2⟩, y0, y1, y2⟩ := row3 (xrow b5); obtain ⟨⟨v0, v1, v2⟩, u0, u1, u2⟩ := row3 (zrow ((((Chg.refl [] wr).alloc _).alloc _).trans (Chg.of_below b5)) Z4.out); clear b5)
                    refine bodyPost_ret (results_cell_row (p := 4) (ty := 33) (by kernel_rfl) _ _ w.heap.size 33 _ (0, 0) _ rfl (ret_row (zrow ((((((Chg.refl [] wr).alloc _).alloc _).trans (Chg.of_below B5.out)).setCell (p := ⟨wr.heap.size + 1, 2, none⟩) (.inr (Nat.le_succ _)) _)) Z4.out)) Tryz.underlying33 rfl (by kernel_rfl)) rfl ⟨?_, below_of_chg (chg_ret (((((C4.out.alloc _).alloc _).trans (Chg.of_below B5.out)).setCell (p := ⟨wr.heap.size + 1, 2, none⟩) (.inr HS) _)) (Nat.le_refl _))⟩
                    rw [RR.out]
                    rfl
                  · have NF := Lib.hid (MISS.out (by unfold tryR; rw [if_neg hw, if_pos ⟨rfl, rfl⟩, if_neg hp]))
                    have t5 : (parseE rs == 0) = false := by simpa using hp
                    clear HIT MISS hw he hxl
                    go_wp2_with (go_at_call 40; refine (PW _ (LD.out.below (below_of_chg ((C4.out.alloc _).alloc _))).laid).mono ?_; rintro e w5 ⟨rfl, b5⟩; have B5 := Lib.hid b5; obtain ⟨⟨z0, z1, z2⟩, y0, y1, y2⟩ := row3 (xrow b5); obtain ⟨⟨v0, v1, v2⟩, u0, u1, u2⟩ := row3 (zrow ((((Chg.refl [] wr).alloc _).alloc _).trans (Chg.of_below b5)) Z4.out); clear b5)
                    go_roundw
                    case rel => exact ⟨1 + 1, by go_num, by omega, ((((C4.out.alloc _).alloc _).trans (Chg.of_below B5.out)).setCell (p := ⟨wr.heap.size + 1, 2, none⟩) (.inr HS) _), zrow ((((((Chg.refl [] wr).alloc _).alloc _).trans (Chg.of_below B5.out)).setCell (p := ⟨wr.heap.size + 1, 2, none⟩) (.inr (Nat.le_succ _)) _)) Z4.out, NF.out⟩
                    case measure => first | (simp [intOf]; done) | (simp [intOf]; omega)
                have m0 : most 1 = -2 := rfl
                by_cases hk1 : k = 1
                · obtain rfl := hk1
                  have hm : more = false := by cases more; rfl; exact absurd ⟨rfl, rfl⟩ h1
                  subst hm
                  have ix1 : ∀ W : World, (Instr.index 61 (.agg rowsC) (.int .i64 1)).run Tryz.prog W = .ok (.agg #[.string xw, .int .i64 (most 1), .int .i64 (rowAt 1).2.2.1, .int .i64 (rowAt 1).2.2.2]) W := ix
                  have NF := Lib.hid (MISS.out (by unfold tryR; rw [if_neg hw, if_neg h1, if_neg (by rintro ⟨h, _⟩; exact h rfl), if_neg (by decide)]))
                  clear ix HIT MISS hw he hxl h1
                  go_wp2
                  go_roundw
                  case rel => exact ⟨1 + 1, by go_num, by omega, (C4.out.alloc _).alloc _, zrow (((Chg.refl [] wr).alloc _).alloc _) Z4.out, NF.out⟩
                  case measure => first | (simp [intOf]; done) | (simp [intOf]; omega)
                have t6 : ((k : Int) == 1) = false := by simp; omega
                have t7 : ¬ (k : Int) = 1 := by omega
                by_cases h2 : most k = -2
                · rw [h2] at ix
                  cases more
                  · have RR := Lib.hid (HIT.out ⟨k, 0, 0⟩ (by unfold tryR; rw [if_neg hw, if_neg h1, if_pos ⟨hk1, h2⟩, if_neg (by decide)]))
                    clear HIT MISS hw he hxl h1 h2
                    obtain ⟨⟨v0, v1, v2⟩, u0, u1, u2⟩ := row3 Z4.out
                    go_wp2
                    refine bodyPost_ret (results_cell_row (p := 4) (ty := 33) (by kernel_rfl) _ _ w.heap.size 33 _ (0, 0) _ rfl (zrow (((Chg.refl [] _).alloc _).alloc _) (ret_row Z4.out)) Tryz.underlying33 rfl (by kernel_rfl)) rfl ⟨?_, below_of_chg (((chg_ret C4.out (Nat.le_refl _)).alloc _).alloc _)⟩
                    rw [RR.out]
                    rfl
                  · have NF := Lib.hid (MISS.out (by unfold tryR; rw [if_neg hw, if_neg h1, if_pos ⟨hk1, h2⟩, if_pos rfl]))
                    clear HIT MISS hw he hxl h1 h2
                    go_wp2
                    go_roundw
                    case rel => exact ⟨k + 1, by go_num, by omega, (C4.out.alloc _).alloc _, zrow (((Chg.refl [] wr).alloc _).alloc _) Z4.out, NF.out⟩
                    case measure => first | (simp [intOf]; done) | (simp [intOf]; omega)
                have h22 : ¬ (k ≠ 1 ∧ most k = -2) := fun q => h2 q.2
                cases more
                · have NF := Lib.hid (MISS.out (by unfold tryR; rw [if_neg hw, if_neg h1, if_neg h22, if_neg (by decide)]))
                  obtain ⟨M, hM⟩ : ∃ M, M = most (k : Int) := ⟨_, rfl⟩
                  rw [← hM] at ix h2
                  have tm : (M == -2) = false := by simpa using h2
                  clear HIT MISS hw he hxl h1 h22 hM
                  go_wp2
                  go_roundw
                  case rel => exact ⟨k + 1, by go_num, by omega, (C4.out.alloc _).alloc _, zrow (((Chg.refl [] wr).alloc _).alloc _) Z4.out, NF.out⟩
                  case measure => first | (simp [intOf]; done) | (simp [intOf]; omega)
                have HS : w.heap.size ≤ wr.heap.size + 1 := by omega
                obtain ⟨wn, hwn⟩ : ∃ wn, wn = wholeN rs := ⟨_, rfl⟩
                rw [← hwn] at WW
                obtain ⟨M, hM⟩ : ∃ M, M = most (k : Int) := ⟨_, rfl⟩
                rw [← hM] at ix
                have tm : (M == -2) = false := by rw [hM]; simpa using h2
                have tm2 : ¬ M = -2 := by rw [hM]; exact h2
                by_cases hwe : wholeE rs = 0
                · rw [hwe] at WW
                  cases hmay : mayS ⟨k, wn, 0⟩ 1024
                  · have NF := Lib.hid (MISS.out (by unfold tryR; rw [if_neg hw, if_neg h1, if_neg h22, if_pos rfl, if_neg (by rintro ⟨_, h⟩; rw [← hwn, hmay] at h; cases h)]))
                    clear HIT MISS hw he hxl h1 h22 hM h2 hwn hwe
                    go_wp2_with (first | (go_at_call 41; refine (WW _ (LD.out.below (below_of_chg ((C4.out.alloc _).alloc _))).laid).mono ?_; rintro e w5 ⟨rfl, b5⟩; have B5 := Lib.hid b5; obtain ⟨⟨z0, z1, z2⟩, y0, y1, y2⟩ := row3 (xrow b5); obtain ⟨⟨v0, v1, v2⟩, u0, u1, u2⟩ := row3 (zrow ((((Chg.refl [] wr).alloc _).alloc _).trans (Chg.of_below b5)) Z4.out); clear b5) | (go_at_call 22; refine (may_at _ _ _ _ _ _ hmay).mono ?_; rintro e w6 ⟨rfl, b6⟩; have B6 := Lib.hid b6; obtain ⟨⟨p0, p1, p2⟩, q0, q1, q2⟩ := row3 (zrow (Chg.of_below b6) (heap_put (cs' := #[.int .i64 (k : Int), .int .i64 wn, .float .f64 0]) (xrow B5.out) (i := 1) (v := .int .i64 wn) rfl)); obtain ⟨⟨r0, r1, r2⟩, s0, s1, s2⟩ := row3 (zrow ((((((Chg.refl [] wr).alloc _).alloc _).trans (Chg.of_below B5.out)).setCell (p := ⟨wr.heap.size + 1, 1, none⟩) (.inr (Nat.le_succ _)) _).trans (Chg.of_below B6.out)) Z4.out); clear b6))
                    go_roundw
                    case rel => exact ⟨k + 1, by go_num, by omega, (((((C4.out.alloc _).alloc _).trans (Chg.of_below B5.out)).setCell (p := ⟨wr.heap.size + 1, 1, none⟩) (.inr HS) _).trans (Chg.of_below B6.out)), zrow (((((((Chg.refl [] wr).alloc _).alloc _).trans (Chg.of_below B5.out)).setCell (p := ⟨wr.heap.size + 1, 1, none⟩) (.inr (Nat.le_succ _)) _).trans (Chg.of_below B6.out))) Z4.out, NF.out⟩
                    case measure => first | (simp [intOf]; done) | (simp [intOf]; omega)
                  · have RR := Lib.hid (HIT.out ⟨k, wn, 0⟩ (by unfold tryR; rw [if_neg hw, if_neg h1, if_neg h22, if_pos rfl, ← hwn, if_pos ⟨hwe, hmay⟩]))
                    clear HIT MISS hw he hxl h1 h22 hM h2 hwn hwe
                    go_wp2_with (first | (go_at_call 41; refine (WW _ (LD.out.below (below_of_chg ((C4.out.alloc _).alloc _))).laid).mono ?_; rintro e w5 ⟨rfl, b5⟩; have B5 := Lib.hid b5; obtain ⟨⟨z0, z1, z2⟩, y0, y1, y2⟩ := row3 (xrow b5); obtain ⟨⟨v0, v1, v2⟩, u0, u1, u2⟩ := row3 (zrow ((((Chg.refl [] wr).alloc _).alloc _).trans (Chg.of_below b5)) Z4.out); clear b5) | (go_at_call 22; refine (may_at _ _ _ _ _ _ hmay).mono ?_; rintro e w6 ⟨rfl, b6⟩; have B6 := Lib.hid b6; obtain ⟨⟨p0, p1, p2⟩, q0, q1, q2⟩ := row3 (zrow (Chg.of_below b6) (heap_put (cs' := #[.int .i64 (k : Int), .int .i64 wn, .float .f64 0]) (xrow B5.out) (i := 1) (v := .int .i64 wn) rfl)); obtain ⟨⟨r0, r1, r2⟩, s0, s1, s2⟩ := row3 (zrow ((((((Chg.refl [] wr).alloc _).alloc _).trans (Chg.of_below B5.out)).setCell (p := ⟨wr.heap.size + 1, 1, none⟩) (.inr (Nat.le_succ _)) _).trans (Chg.of_below B6.out)) Z4.out); clear b6))
                    refine bodyPost_ret (results_cell_row (p := 4) (ty := 33) (by kernel_rfl) _ _ w.heap.size 33 _ (0, 0) _ rfl (ret_row (zrow (((((((Chg.refl [] wr).alloc _).alloc _).trans (Chg.of_below B5.out)).setCell (p := ⟨wr.heap.size + 1, 1, none⟩) (.inr (Nat.le_succ _)) _).trans (Chg.of_below B6.out))) Z4.out)) Tryz.underlying33 rfl (by kernel_rfl)) rfl ⟨?_, below_of_chg (chg_ret ((((((C4.out.alloc _).alloc _).trans (Chg.of_below B5.out)).setCell (p := ⟨wr.heap.size + 1, 1, none⟩) (.inr HS) _).trans (Chg.of_below B6.out))) (Nat.le_refl _))⟩
                    rw [RR.out]
                    rfl
                · have t8 : (wholeE rs == 0) = false := by simpa using hwe
                  have NF := Lib.hid (MISS.out (by unfold tryR; rw [if_neg hw, if_neg h1, if_neg h22, if_pos rfl, if_neg (fun q => hwe q.1)]))
                  clear HIT MISS hw he hxl h1 h22 hM h2 hwn
                  go_wp2_with (go_at_call 41; refine (WW _ (LD.out.below (below_of_chg ((C4.out.alloc _).alloc _))).laid).mono ?_; rintro e w5 ⟨rfl, b5⟩; have B5 := Lib.hid b5; obtain ⟨⟨z0, z1, z2⟩, y0, y1, y2⟩ := row3 (xrow b5); obtain ⟨⟨v0, v1, v2⟩, u0, u1, u2⟩ := row3 (zrow ((((Chg.refl [] wr).alloc _).alloc _).trans (Chg.of_below b5)) Z4.out); clear b5)
                  go_roundw
                  case rel => exact ⟨k + 1, by go_num, by omega, ((((C4.out.alloc _).alloc _).trans (Chg.of_below B5.out)).setCell (p := ⟨wr.heap.size + 1, 1, none⟩) (.inr HS) _), zrow ((((((Chg.refl [] wr).alloc _).alloc _).trans (Chg.of_below B5.out)).setCell (p := ⟨wr.heap.size + 1, 1, none⟩) (.inr (Nat.le_succ _)) _)) Z4.out, NF.out⟩
                  case measure => first | (simp [intOf]; done) | (simp [intOf]; omega)
            · obtain rfl : k = 21 := by omega
              have RN : r = none := by rw [IS3.out, F.out]; rfl
              have h' : ¬ (((21 : Nat) : Int)) < 21 := by omega
              go_wp2
              exact ⟨rfl, rfl, below_of_chg C4.out⟩
end Go.Proofs.YtjlnhifleepnoaaGreatDoor
