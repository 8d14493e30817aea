import Derived.Test.YtjlnhifleepnoaaGreatDoorD4
set_option linter.unusedVariables false
set_option linter.unusedSimpArgs false
namespace Go.Proofs.YtjlnhifleepnoaaGreatDoor
open Go.RowKit

theorem heap_chg {w W : World} {g : Nat} {o : Obj} (c : Chg [] w W) (h : w.heap[g]? = some o) : W.heap[g]? = some o := zrow c h
theorem drows_rows {X w4 : World} {T : TypeId} (h : w4 = X.alloc (.cells drowsC T)) : ∀ k, k < 21 → w4.cell? ⟨X.heap.size, k * 5, none⟩ = some (.string ⟨(rowAt ((k : Nat) : Int)).1.toArray⟩) ∧ w4.cell? ⟨X.heap.size, k * 5 + 1, none⟩ = some (.int .i64 (lhAt ((k : Nat) : Int)).1) ∧ w4.cell? ⟨X.heap.size, k * 5 + 2, none⟩ = some (.int .i64 (lhAt ((k : Nat) : Int)).2) ∧ w4.cell? ⟨X.heap.size, k * 5 + 3, none⟩ = some (.int .i64 (rowAt ((k : Nat) : Int)).2.2.1) ∧ w4.cell? ⟨X.heap.size, k * 5 + 4, none⟩ = some (.int .i64 (rowAt ((k : Nat) : Int)).2.2.2) := by
  subst h
  exact fun k hk => dcell_at X T k hk

theorem strs_cell2 {W w3 : World} {T : TypeId} (hT : w3 = W.alloc (.cells (strs onesB) T)) (i : Nat) (hi : i < 9) : w3.cell? ⟨W.heap.size, i, none⟩ = some (.string (onesB.getD i ⟨#[]⟩)) := by subst hT; exact strs_at W T onesB i hi
theorem strs_cell3 {W w3 : World} {T : TypeId} (hT : w3 = W.alloc (.cells (strs twosB) T)) (i : Nat) (hi : i < 13) : w3.cell? ⟨W.heap.size, i, none⟩ = some (.string (twosB.getD i ⟨#[]⟩)) := by subst hT; exact strs_at W T twosB i hi
set_option maxRecDepth 100000 in
set_option maxHeartbeats 16000000 in
/-- The document's Read. -/
theorem dread_walk (s : ByteArray) (w : World) (hs : s.size < 4294967281) : Calls Tryz.prog 14 #[.string s] w fun e w' => ReadOk s.data.toList e ∧ Below w.heap.size w w' := by
  have sf := run_store_float
  obtain ⟨l, hl⟩ : ∃ l, l = s.data.toList := ⟨_, rfl⟩
  have CW : ∀ W, Calls Tryz.prog 25 #[.string s] W fun e w' => e = .returned (.tuple #[.string (S (Lib.cut l [32]).1), .string (S (Lib.cut l [32]).2.1), .bool (Lib.cut l [32]).2.2]) ∧ Below W.heap.size W w' := fun W => by rw [hl]; exact dcut_walk s W hs
  have hsl : l.length < 4294967281 := by rw [hl, ← Lib.size_eq]; exact hs
  have hrl : (Lib.cut l [32]).2.1.length ≤ l.length := by
    unfold Lib.cut
    split
    · simp only [List.length_drop]; omega
    · simp
  rw [← hl]
  obtain ⟨wd, hwd⟩ : ∃ x, x = (Lib.cut l [32]).1 := ⟨_, rfl⟩
  obtain ⟨rs, hrs⟩ : ∃ x, x = (Lib.cut l [32]).2.1 := ⟨_, rfl⟩
  obtain ⟨more, hmore⟩ : ∃ x, x = (Lib.cut l [32]).2.2 := ⟨_, rfl⟩
  have hI : instrS l = match fstO (tryO l onesB 9) 9 0 with
    | some p => some p
    | none => match fstO (tryO l twosB 10) 13 0 with
      | some p => some p
      | none => fstO (tryR wd rs more) 21 0 := by rw [hwd, hrs, hmore]; rfl
  rw [fst_at0 l onesB 9 8, fst_at0 l twosB 10 12] at hI
  rw [← hwd, ← hrs, ← hmore] at CW
  rw [← hrs] at hrl
  have hrsz : (S rs).size < 4294967281 := by rw [S_size]; omega
  have PW : ∀ W, Calls Tryz.prog 30 #[.string (S rs)] W fun e w' => e = .returned (.tuple #[.float .f64 (parseB rs), .int .i64 (parseE rs)]) ∧ Below W.heap.size W w' := fun W => by
    have h := rparse_walk (S rs) W
    unfold DParsePost at h
    rw [show (S rs).toList = rs by simp [S], ← (parse_same rs).1, ← (parse_same rs).2] at h
    exact h
  have NW : ∀ (m : Int) W, 0 ≤ m → m ≤ 1023 → Calls Tryz.prog 31 #[.string (S rs), .int .i64 m] W fun e w' => NumPost rs m e ∧ Below W.heap.size W w' := fun m W h0 h1 => by
    have h := dnum_walk (S rs) m W h0 h1 hrsz
    rwa [show (S rs).data.toList = rs by simp [S]] at h
  cases more
  · have hwl : wd = l := by rw [hwd]; exact cut_fst hmore.symm
    have A1 : ∀ (L : List ByteArray) (n b : Nat) (W : World), n = L.length → (∀ i, i < n → W.cell? ⟨b, i, none⟩ = some (.string (L.getD i ⟨#[]⟩))) → n ≤ 100 → Calls Tryz.prog 26 #[.slice (some ⟨b, 0, none⟩) n n, .string (S wd)] W fun e w' => e = .returned (.int .i64 (atS L wd (n - 1) 1)) ∧ w' = W := fun L n b W h1 h2 h3 => by
      have := at_walk L n b h1 (S wd) W h2 h3
      rwa [show (S wd).toList = wd by simp [S]] at this
    obtain ⟨k1, hk1⟩ : ∃ k, k = atS onesB wd 8 1 := ⟨_, rfl⟩
    obtain ⟨k2, hk2⟩ : ∃ k, k = atS twosB wd 12 1 := ⟨_, rfl⟩
    have O1 : ∀ (b : Nat) (W : World), (∀ i, i < 9 → W.cell? ⟨b, i, none⟩ = some (.string (onesB.getD i ⟨#[]⟩))) → Calls Tryz.prog 26 #[.slice (some ⟨b, 0, none⟩) 9 9, .string (S wd)] W fun e w' => e = .returned (.int .i64 k1) ∧ w' = W := fun b W h => hk1 ▸ A1 onesB 9 b W rfl h (by omega)
    have O2 : ∀ (b : Nat) (W : World), (∀ i, i < 13 → W.cell? ⟨b, i, none⟩ = some (.string (twosB.getD i ⟨#[]⟩))) → Calls Tryz.prog 26 #[.slice (some ⟨b, 0, none⟩) 13 13, .string (S wd)] W fun e w' => e = .returned (.int .i64 k2) ∧ w' = W := fun b W h => hk2 ▸ A1 twosB 13 b W rfl h (by omega)
    rw [show atS onesB l 8 1 = k1 by rw [hk1, hwl], show atS twosB l 12 1 = k2 by rw [hk2, hwl]] at hI
    clear hwd hrs hmore hrl hsl hrsz hk1 hk2 A1 hwl hl
    by_cases z1 : 0 < k1
    · have z1' : (0 : Int) < k1 := by omega
      have HR := Lib.hid (show instrS l = some ⟨9, (k1 : Nat), 0⟩ from by rw [hI, if_neg (show ¬ k1 = 0 by omega)])
      clear hI
      go_enter Tryz.func14, Tryz.ntmps14
      go_wp2_with (first | (go_at_call 25; refine (CW _).mono ?_; rintro e w1 ⟨rfl, b1⟩; have C1 := Lib.hid (((Chg.refl [] w).alloc _).trans (Chg.of_below b1)); have Z1 := Lib.hid (zrow (Chg.of_below (S := []) b1) (heap_alloc_new w (.cells #[.int .i64 0, .int .i64 0, .float .f64 0] 33))); clear b1) | (go_at_call 27; refine (rones_walk _).mono ?_; rintro e w2 ⟨rfl, T2, hT2⟩; have B2 := Lib.hid (fun i (hi : i < 9) => (strs_cell2 hT2 i hi : w2.cell? ⟨w1.heap.size, i, none⟩ = some (.string (onesB.getD i ⟨#[]⟩)))); have C2 := Lib.hid (C1.out.trans (Chg.of_below (below_eq hT2))); have Z2 := Lib.hid (zrow (Chg.of_below (S := []) (below_eq hT2)) Z1.out); clear hT2) | (go_at_call 26; first | (have _t := B3; refine (O2 _ _ B3.out).mono ?_; rintro e w3 ⟨rfl, rfl⟩; obtain ⟨⟨v0, v1, v2⟩, u0, u1, u2⟩ := row3 Z3.out) | (refine (O1 _ _ B2.out).mono ?_; rintro e w2 ⟨rfl, rfl⟩; have G1 : True := trivial; obtain ⟨⟨v0, v1, v2⟩, u0, u1, u2⟩ := row3 Z2.out)))
      refine bodyPost_ret (rd_out (op := 9) (n := k1) (x := 0) (ok := true) (ret_row Z2.out) rfl rfl) rfl ⟨read_yes rfl HR.out, below_of_chg (chg_ret C2.out (Nat.le_refl _))⟩
    have z1' : ¬ (0 : Int) < k1 := by omega
    rw [if_pos (show k1 = 0 by omega)] at hI
    by_cases z2 : 0 < k2
    · have z2' : (0 : Int) < k2 := by omega
      have HR := Lib.hid (show instrS l = some ⟨10, (k2 : Nat), 0⟩ from by rw [hI]; simp only; rw [if_neg (show ¬ k2 = 0 by omega)])
      clear hI
      go_enter Tryz.func14, Tryz.ntmps14
      go_wp2_with (first | (go_at_call 25; refine (CW _).mono ?_; rintro e w1 ⟨rfl, b1⟩; have C1 := Lib.hid (((Chg.refl [] w).alloc _).trans (Chg.of_below b1)); have Z1 := Lib.hid (zrow (Chg.of_below (S := []) b1) (heap_alloc_new w (.cells #[.int .i64 0, .int .i64 0, .float .f64 0] 33))); clear b1) | (go_at_call 27; refine (rones_walk _).mono ?_; rintro e w2 ⟨rfl, T2, hT2⟩; have B2 := Lib.hid (fun i (hi : i < 9) => (strs_cell2 hT2 i hi : w2.cell? ⟨w1.heap.size, i, none⟩ = some (.string (onesB.getD i ⟨#[]⟩)))); have C2 := Lib.hid (C1.out.trans (Chg.of_below (below_eq hT2))); have Z2 := Lib.hid (zrow (Chg.of_below (S := []) (below_eq hT2)) Z1.out); clear hT2) | (go_at_call 28; refine (rtwos_walk _).mono ?_; rintro e w3 ⟨rfl, T3, hT3⟩; have B3 := Lib.hid (fun i (hi : i < 13) => (strs_cell3 hT3 i hi)); have C3 := Lib.hid (C2.out.trans (Chg.of_below (below_eq hT3))); have Z3 := Lib.hid (zrow (Chg.of_below (S := []) (below_eq hT3)) Z2.out); clear hT3 v0 v1 v2 u0 u1 u2) | (go_at_call 26; first | (have _t := B3; refine (O2 _ _ B3.out).mono ?_; rintro e w3 ⟨rfl, rfl⟩; obtain ⟨⟨v0, v1, v2⟩, u0, u1, u2⟩ := row3 Z3.out) | (refine (O1 _ _ B2.out).mono ?_; rintro e w2 ⟨rfl, rfl⟩; have G1 : True := trivial; obtain ⟨⟨v0, v1, v2⟩, u0, u1, u2⟩ := row3 Z2.out)))
      refine bodyPost_ret (rd_out (op := 10) (n := k2) (x := 0) (ok := true) (ret_row Z3.out) rfl rfl) rfl ⟨read_yes rfl HR.out, below_of_chg (chg_ret C3.out (Nat.le_refl _))⟩
    have z2' : ¬ (0 : Int) < k2 := by omega
    simp only at hI
    rw [if_pos (show k2 = 0 by omega)] at hI
    have IS := Lib.hid hI
    clear hI
    go_enter Tryz.func14, Tryz.ntmps14
    go_wp2_with (first | (go_at_call 25; refine (CW _).mono ?_; rintro e w1 ⟨rfl, b1⟩; have C1 := Lib.hid (((Chg.refl [] w).alloc _).trans (Chg.of_below b1)); have Z1 := Lib.hid (zrow (Chg.of_below (S := []) b1) (heap_alloc_new w (.cells #[.int .i64 0, .int .i64 0, .float .f64 0] 33))); clear b1) | (go_at_call 27; refine (rones_walk _).mono ?_; rintro e w2 ⟨rfl, T2, hT2⟩; have B2 := Lib.hid (fun i (hi : i < 9) => (strs_cell2 hT2 i hi : w2.cell? ⟨w1.heap.size, i, none⟩ = some (.string (onesB.getD i ⟨#[]⟩)))); have C2 := Lib.hid (C1.out.trans (Chg.of_below (below_eq hT2))); have Z2 := Lib.hid (zrow (Chg.of_below (S := []) (below_eq hT2)) Z1.out); clear hT2) | (go_at_call 28; refine (rtwos_walk _).mono ?_; rintro e w3 ⟨rfl, T3, hT3⟩; have B3 := Lib.hid (fun i (hi : i < 13) => (strs_cell3 hT3 i hi)); have C3 := Lib.hid (C2.out.trans (Chg.of_below (below_eq hT3))); have Z3 := Lib.hid (zrow (Chg.of_below (S := []) (below_eq hT3)) Z2.out); clear hT3 v0 v1 v2 u0 u1 u2) | (go_at_call 26; first | (have _t := B3; refine (O2 _ _ B3.out).mono ?_; rintro e w3 ⟨rfl, rfl⟩; obtain ⟨⟨v0, v1, v2⟩, u0, u1, u2⟩ := row3 Z3.out) | (refine (O1 _ _ B2.out).mono ?_; rintro e w2 ⟨rfl, rfl⟩; have G1 : True := trivial; obtain ⟨⟨v0, v1, v2⟩, u0, u1, u2⟩ := row3 Z2.out)) | (go_at_call 29; refine (drows_walk _).mono ?_; rintro e w4 ⟨rfl, T4, hT4⟩; have DR := Lib.hid (drows_rows hT4); have C4 := Lib.hid (C3.out.trans (Chg.of_below (below_eq hT4))); have Z4 := Lib.hid (zrow (Chg.of_below (S := []) (below_eq hT4)) Z3.out); clear hT4))
    clear v0 v1 v2 u0 u1 u2
    go_loopw [40] (fun i wr => ∃ k : Nat, i = .int .i64 k ∧ k ≤ 21 ∧ Chg [] w4 wr ∧ ∀ j, j < k → ¬ ((rowAt ((j : Nat) : Int)).1 = wd ∧ wd ≠ [])) (fun i _ => 21 - (intOf i).toNat)
    case atStart => exact ⟨0, rfl, by omega, Chg.refl _ _, fun j h => by omega⟩
    case round =>
      obtain ⟨k, rfl, hk, hchg, hno⟩ := hrel
      have CH := Lib.hid hchg
      have NO := Lib.hid hno
      have CL0 := Lib.hid (C4.out.trans CH.out)
      have ZL0 := Lib.hid (zrow CH.out Z4.out)
      clear hchg hno
      by_cases h : k < 21
      · have h' : (k : Int) < 21 := by omega
        obtain ⟨d0, d1, d2, d3, d4⟩ := DR.out k h
        have lt := block_lt_of_cell d0
        have e0 := (World.cell?_of_block (w := w4) (CH.out.block _ lt (by simp)) (a := ⟨w3.heap.size, k * 5, none⟩)).trans d0
        have e1 := (World.cell?_of_block (w := w4) (CH.out.block _ lt (by simp)) (a := ⟨w3.heap.size, k * 5 + 1, none⟩)).trans d1
        have e2 := (World.cell?_of_block (w := w4) (CH.out.block _ lt (by simp)) (a := ⟨w3.heap.size, k * 5 + 2, none⟩)).trans d2
        have e3 := (World.cell?_of_block (w := w4) (CH.out.block _ lt (by simp)) (a := ⟨w3.heap.size, k * 5 + 3, none⟩)).trans d3
        have e4 := (World.cell?_of_block (w := w4) (CH.out.block _ lt (by simp)) (a := ⟨w3.heap.size, k * 5 + 4, none⟩)).trans d4
        clear d0 d1 d2 d3 d4
        obtain ⟨rw_, hrw⟩ : ∃ x, x = (rowAt ((k : Nat) : Int)).1 := ⟨_, rfl⟩
        obtain ⟨rb, hrb⟩ : ∃ x : ByteArray, x = ⟨(rowAt ((k : Nat) : Int)).1.toArray⟩ := ⟨_, rfl⟩
        have hrl : rb.toList = rw_ := by rw [hrb, hrw, ByteArray.toList_eq]
        obtain ⟨lo, hlo⟩ : ∃ x, x = (lhAt ((k : Nat) : Int)).1 := ⟨_, rfl⟩
        obtain ⟨hg, hhg⟩ : ∃ x, x = (lhAt ((k : Nat) : Int)).2 := ⟨_, rfl⟩
        obtain ⟨tk, htk⟩ : ∃ x, x = (rowAt ((k : Nat) : Int)).2.2.1 := ⟨_, rfl⟩
        obtain ⟨ly, hly⟩ : ∃ x, x = (rowAt ((k : Nat) : Int)).2.2.2 := ⟨_, rfl⟩
        rw [← hrb] at e0
        rw [← hlo] at e1
        rw [← hhg] at e2
        rw [← htk] at e3
        rw [← hly] at e4
        clear hlo htk hly lt
        by_cases hit : rw_ = wd ∧ wd ≠ []
        · obtain ⟨hit1, hit2⟩ := hit
          have hw : (rowAt ((k : Nat) : Int)).1 ≠ [] := by rw [← hrw, hit1]; exact hit2
          have hk0 : k ≠ 0 := by rintro rfl; exact hw rfl
          obtain ⟨n9, n10⟩ := rows_none k h hw
          have RO := Lib.hid (show instrS l = tryR (rowAt ((k : Nat) : Int)).1 rs false k from by rw [IS.out, ← hit1, hrw]; exact row_only h hw)
          have t0 : ((k : Int) == 0) = false := by simp; omega
          have tw : (S wd).toList.isEmpty = false := by simpa [S] using hit2
          have te : (rb.toList == (S wd).toList) = true := by rw [hrl, hit1]; simp [S]
          have HW := Lib.hid hw
          by_cases k1 : k = 1
          · subst k1
            have t1 : (((1 : Nat) : Int) == 1) = true := rfl
            have HE := Lib.hid (show instrS l = none from by
              rw [RO.out]
              unfold tryR
              rw [if_neg (by rintro (e | e); exact HW.out e; exact e rfl), if_neg (by simp), if_neg (by simp), if_neg (by simp)])
            obtain ⟨pe, hpe⟩ : ∃ x, x = parseE rs := ⟨_, rfl⟩
            obtain ⟨pb, hpb⟩ : ∃ x, x = parseB rs := ⟨_, rfl⟩
            rw [← hpe, ← hpb] at PW
            skip
            clear hpe hpb hit1 hit2 hw hrw hrb hrl hhg RO NO
            go_wp2_with (go_at_call 30; refine (PW _).mono ?_; rintro e w6 ⟨rfl, b6⟩; have CL := Lib.hid ((CL0.out.alloc _).trans (Chg.of_below b6)); have ZL := Lib.hid (zrow (((Chg.refl [] _).alloc _).trans (Chg.of_below b6)) ZL0.out); obtain ⟨⟨v0, v1, v2⟩, u0, u1, u2⟩ := row3 ZL.out; clear b6)
            refine bodyPost_ret (rd_out (op := 1) (n := 0) (x := pb) (ok := false) (ret_row ZL.out) rfl rfl) rfl ⟨read_no rfl HE.out, below_of_chg (chg_ret CL.out (Nat.le_refl _))⟩
          have t1 : ((k : Int) == 1) = false := by simp; omega
          have hhi : (lhAt (k : Int)).2 = 0 ↔ most (k : Int) = -2 := by
            rcases rows_hi k h with h9 | h9
            · omega
            · exact h9
          have CL := Lib.hid (CL0.out.alloc (.cells #[.string rb, .int .i64 lo, .int .i64 hg, .int .i64 tk, .int .i64 ly] 73))
          have ZL := Lib.hid (zrow ((Chg.refl [] _).alloc (.cells #[.string rb, .int .i64 lo, .int .i64 hg, .int .i64 tk, .int .i64 ly] 73)) ZL0.out)
          obtain ⟨⟨v0, v1, v2⟩, u0, u1, u2⟩ := row3 ZL.out
          by_cases hz : hg = 0
          · have em : most (k : Int) = -2 := hhi.1 (by rw [← hhg]; exact hz)
            have HE := Lib.hid (show instrS l = some ⟨k, 0, 0⟩ from by
              rw [RO.out]
              unfold tryR
              rw [if_neg (by rintro (e | e); exact HW.out e; exact e rfl), if_neg (fun e => k1 e.1), if_pos ⟨k1, em⟩]
              rw [if_neg (by simp)])
            subst hz
            clear hit1 hit2 hw hrw hrb hrl hhg RO NO hhi em hk0 k1
            go_wp2
            refine bodyPost_ret (rd_out (op := k) (n := 0) (x := 0) (ok := true) (ret_row ZL.out) rfl rfl) rfl ⟨read_yes rfl HE.out, below_of_chg (chg_ret CL.out (Nat.le_refl _))⟩
          · have tz : (hg == 0) = false := by simpa using hz
            have em : most (k : Int) ≠ -2 := fun e => hz (by rw [hhg]; exact hhi.2 e)
            obtain ⟨m, hm⟩ : ∃ m : Int, m = if hg < 0 then 1023 else hg := ⟨_, rfl⟩
            have hmb : 0 ≤ m ∧ m ≤ 1023 := by
              rcases rows_top k h with h2 | ⟨a, b⟩ | ⟨a, b⟩ | ⟨a, b, c⟩
              · omega
              · rw [hhg] at hm; rw [b, if_pos (by omega)] at hm; omega
              · exact absurd a em
              · rw [hhg] at hm; rw [b, if_neg (by omega)] at hm; omega
            have HE := Lib.hid (show instrS l = none from by
              rw [RO.out]
              unfold tryR
              rw [if_neg (by rintro (e | e); exact HW.out e; exact e rfl), if_neg (fun e => k1 e.1), if_neg (fun e => em e.2), if_neg (by simp)])
            by_cases hneg : hg < 0
            · have hm2 : m = 1023 := by rw [hm, if_pos hneg]
              rw [hm2] at hmb
              clear hit1 hit2 hw hrw hrb hrl hhg RO NO hhi em hk0 k1 hm hm2 hz m
              go_wp2_with (go_at_call 31; refine (NW _ _ hmb.1 hmb.2).mono ?_; rintro e w6 ⟨⟨n, ok, rfl, hok⟩, b6⟩; have CL := Lib.hid (CL.out.trans (Chg.of_below b6)); have ZL := Lib.hid (zrow (Chg.of_below b6) ZL.out); clear v0 v1 v2 u0 u1 u2; obtain ⟨⟨v0, v1, v2⟩, u0, u1, u2⟩ := row3 ZL.out; have HOK := Lib.hid hok; clear b6 hok)
              refine bodyPost_ret (rd_out (op := k) (n := n) (x := 0) (ok := false) (ret_row ZL.out) rfl rfl) rfl ⟨read_no rfl HE.out, below_of_chg (chg_ret CL.out (Nat.le_refl _))⟩
            
            · have hm2 : m = hg := by rw [hm, if_neg hneg]
              rw [hm2] at hmb
              clear hit1 hit2 hw hrw hrb hrl hhg RO NO hhi em hk0 k1 hm hm2 hz m
              go_wp2_with (go_at_call 31; refine (NW _ _ hmb.1 hmb.2).mono ?_; rintro e w6 ⟨⟨n, ok, rfl, hok⟩, b6⟩; have CL := Lib.hid (CL.out.trans (Chg.of_below b6)); have ZL := Lib.hid (zrow (Chg.of_below b6) ZL.out); clear v0 v1 v2 u0 u1 u2; obtain ⟨⟨v0, v1, v2⟩, u0, u1, u2⟩ := row3 ZL.out; have HOK := Lib.hid hok; clear b6 hok)
              refine bodyPost_ret (rd_out (op := k) (n := n) (x := 0) (ok := false) (ret_row ZL.out) rfl rfl) rfl ⟨read_no rfl HE.out, below_of_chg (chg_ret CL.out (Nat.le_refl _))⟩
        · have NX := Lib.hid (show ∀ j, j < k + 1 → ¬ ((rowAt ((j : Nat) : Int)).1 = wd ∧ wd ≠ []) from fun j hj => by
            rcases Nat.lt_succ_iff_lt_or_eq.1 hj with h5 | rfl
            · exact NO.out j h5
            · rw [← hrw]; exact hit)
          by_cases k0 : k = 0
          · subst k0
            clear hit hrw hrb hrl hhg NO
            go_wp2
            go_roundw
            case rel => exact ⟨1, by go_num, by omega, CH.out.alloc _, NX.out⟩
            case measure => simp [intOf]
          have t0 : ((k : Int) == 0) = false := by simp; omega
          by_cases wz : wd = []
          · have tw : (S wd).toList.isEmpty = true := by simp [S, wz]
            clear hit hrw hrb hrl hhg NO wz k0
            go_wp2
            go_roundw
            case rel => exact ⟨k + 1, by go_num, by omega, CH.out.alloc _, NX.out⟩
            case measure => first | (simp [intOf]; done) | (simp [intOf]; omega)
          · have tw : (S wd).toList.isEmpty = false := by simpa [S] using wz
            have te : (rb.toList == (S wd).toList) = false := by
              rw [beq_eq_false_iff_ne]
              intro e
              exact hit ⟨by rw [← hrl, e]; simp [S], wz⟩
            clear hit hrw hrb hrl hhg NO wz k0
            go_wp2
            go_roundw
            case rel => exact ⟨k + 1, by go_num, by omega, CH.out.alloc _, NX.out⟩
            case measure => first | (simp [intOf]; done) | (simp [intOf]; omega)
      · obtain rfl : k = 21 := by omega
        have h' : ¬ (((21 : Nat) : Int)) < 21 := by omega
        have CL := CL0
        have ZL := ZL0
        obtain ⟨⟨v0, v1, v2⟩, u0, u1, u2⟩ := row3 ZL.out
        have HE := Lib.hid (show instrS l = none from by rw [IS.out]; exact row_none NO.out)
        go_wp2
        refine bodyPost_ret (rd_out (op := 0) (n := 0) (x := 0) (ok := false) (ret_row ZL.out) rfl rfl) rfl ⟨read_no rfl HE.out, below_of_chg (chg_ret CL.out (Nat.le_refl _))⟩
  · have h32 : 32 ∈ l := by
      have := cut_back hmore.symm
      rw [this]
      simp
    obtain ⟨w1n, w2n⟩ := words_none l h32
    rw [← fst_at0 l onesB 9 8, ← fst_at0 l twosB 10 12, w1n, w2n] at hI
    have IS := Lib.hid (show instrS l = fstO (tryR wd rs true) 21 0 from hI)
    clear hI w1n w2n h32 hwd hrs hmore hrl hsl hrsz hl
    go_enter Tryz.func14, Tryz.ntmps14
    go_wp2_with (first | (go_at_call 25; refine (CW _).mono ?_; rintro e w1 ⟨rfl, b1⟩; have C1 := Lib.hid (((Chg.refl [] w).alloc _).trans (Chg.of_below b1)); have Z1 := Lib.hid (zrow (Chg.of_below (S := []) b1) (heap_alloc_new w (.cells #[.int .i64 0, .int .i64 0, .float .f64 0] 33))); clear b1) | (go_at_call 29; refine (drows_walk _).mono ?_; rintro e w4 ⟨rfl, T4, hT4⟩; have DR := Lib.hid (drows_rows hT4); have C4 := Lib.hid (C1.out.trans (Chg.of_below (below_eq hT4))); have Z4 := Lib.hid (zrow (Chg.of_below (S := []) (below_eq hT4)) Z1.out); clear hT4))
    go_loopw [40] (fun i wr => ∃ k : Nat, i = .int .i64 k ∧ k ≤ 21 ∧ Chg [] w4 wr ∧ ∀ j, j < k → ¬ ((rowAt ((j : Nat) : Int)).1 = wd ∧ wd ≠ [])) (fun i _ => 21 - (intOf i).toNat)
    case atStart => exact ⟨0, rfl, by omega, Chg.refl _ _, fun j h => by omega⟩
    case round =>
      obtain ⟨k, rfl, hk, hchg, hno⟩ := hrel
      have CH := Lib.hid hchg
      have NO := Lib.hid hno
      have CL0 := Lib.hid (C4.out.trans CH.out)
      have ZL0 := Lib.hid (zrow CH.out Z4.out)
      clear hchg hno
      by_cases h : k < 21
      · have h' : (k : Int) < 21 := by omega
        obtain ⟨d0, d1, d2, d3, d4⟩ := DR.out k h
        have lt := block_lt_of_cell d0
        have e0 := (World.cell?_of_block (w := w4) (CH.out.block _ lt (by simp)) (a := ⟨w1.heap.size, k * 5, none⟩)).trans d0
        have e1 := (World.cell?_of_block (w := w4) (CH.out.block _ lt (by simp)) (a := ⟨w1.heap.size, k * 5 + 1, none⟩)).trans d1
        have e2 := (World.cell?_of_block (w := w4) (CH.out.block _ lt (by simp)) (a := ⟨w1.heap.size, k * 5 + 2, none⟩)).trans d2
        have e3 := (World.cell?_of_block (w := w4) (CH.out.block _ lt (by simp)) (a := ⟨w1.heap.size, k * 5 + 3, none⟩)).trans d3
        have e4 := (World.cell?_of_block (w := w4) (CH.out.block _ lt (by simp)) (a := ⟨w1.heap.size, k * 5 + 4, none⟩)).trans d4
        clear d0 d1 d2 d3 d4
        obtain ⟨rw_, hrw⟩ : ∃ x, x = (rowAt ((k : Nat) : Int)).1 := ⟨_, rfl⟩
        obtain ⟨rb, hrb⟩ : ∃ x : ByteArray, x = ⟨(rowAt ((k : Nat) : Int)).1.toArray⟩ := ⟨_, rfl⟩
        have hrl : rb.toList = rw_ := by rw [hrb, hrw, ByteArray.toList_eq]
        obtain ⟨lo, hlo⟩ : ∃ x, x = (lhAt ((k : Nat) : Int)).1 := ⟨_, rfl⟩
        obtain ⟨hg, hhg⟩ : ∃ x, x = (lhAt ((k : Nat) : Int)).2 := ⟨_, rfl⟩
        obtain ⟨tk, htk⟩ : ∃ x, x = (rowAt ((k : Nat) : Int)).2.2.1 := ⟨_, rfl⟩
        obtain ⟨ly, hly⟩ : ∃ x, x = (rowAt ((k : Nat) : Int)).2.2.2 := ⟨_, rfl⟩
        rw [← hrb] at e0
        rw [← hlo] at e1
        rw [← hhg] at e2
        rw [← htk] at e3
        rw [← hly] at e4
        clear hlo htk hly lt
        by_cases hit : rw_ = wd ∧ wd ≠ []
        · obtain ⟨hit1, hit2⟩ := hit
          have hw : (rowAt ((k : Nat) : Int)).1 ≠ [] := by rw [← hrw, hit1]; exact hit2
          have hk0 : k ≠ 0 := by rintro rfl; exact hw rfl
          obtain ⟨n9, n10⟩ := rows_none k h hw
          have RO := Lib.hid (show instrS l = tryR (rowAt ((k : Nat) : Int)).1 rs true k from by rw [IS.out, ← hit1, hrw]; exact row_only h hw)
          have t0 : ((k : Int) == 0) = false := by simp; omega
          have tw : (S wd).toList.isEmpty = false := by simpa [S] using hit2
          have te : (rb.toList == (S wd).toList) = true := by rw [hrl, hit1]; simp [S]
          have HW := Lib.hid hw
          by_cases k1 : k = 1
          · subst k1
            have t1 : (((1 : Nat) : Int) == 1) = true := rfl
            have HE := Lib.hid (show instrS l = (if parseE rs = 0 then some ⟨1, 0, parseB rs⟩ else none) from by
              rw [RO.out]
              unfold tryR
              rw [if_neg (by rintro (e | e); exact HW.out e; exact e rfl), if_pos ⟨rfl, rfl⟩])
            obtain ⟨pe, hpe⟩ : ∃ x, x = parseE rs := ⟨_, rfl⟩
            obtain ⟨pb, hpb⟩ : ∃ x, x = parseB rs := ⟨_, rfl⟩
            rw [← hpe, ← hpb] at PW
            rw [← hpe, ← hpb] at HE
            clear hpe hpb hit1 hit2 hw hrw hrb hrl hhg RO NO
            by_cases hp : pe = 0
            · have tp : (pe == 0) = true := by simp [hp]
              have HR := Lib.hid (show instrS l = some ⟨1, 0, pb⟩ from by rw [HE.out, if_pos hp])
              clear hp HE
              go_wp2_with (go_at_call 30; refine (PW _).mono ?_; rintro e w6 ⟨rfl, b6⟩; have CL := Lib.hid ((CL0.out.alloc _).trans (Chg.of_below b6)); have ZL := Lib.hid (zrow (((Chg.refl [] _).alloc _).trans (Chg.of_below b6)) ZL0.out); obtain ⟨⟨v0, v1, v2⟩, u0, u1, u2⟩ := row3 ZL.out; clear b6)
              refine bodyPost_ret (rd_out (op := 1) (n := 0) (x := pb) (ok := true) (ret_row ZL.out) rfl rfl) rfl ⟨read_yes rfl HR.out, below_of_chg (chg_ret CL.out (Nat.le_refl _))⟩
            · have tp : (pe == 0) = false := by simpa using hp
              have HR := Lib.hid (show instrS l = none from by rw [HE.out, if_neg hp])
              clear hp HE
              go_wp2_with (go_at_call 30; refine (PW _).mono ?_; rintro e w6 ⟨rfl, b6⟩; have CL := Lib.hid ((CL0.out.alloc _).trans (Chg.of_below b6)); have ZL := Lib.hid (zrow (((Chg.refl [] _).alloc _).trans (Chg.of_below b6)) ZL0.out); obtain ⟨⟨v0, v1, v2⟩, u0, u1, u2⟩ := row3 ZL.out; clear b6)
              refine bodyPost_ret (rd_out (op := 1) (n := 0) (x := pb) (ok := false) (ret_row ZL.out) rfl rfl) rfl ⟨read_no rfl HR.out, below_of_chg (chg_ret CL.out (Nat.le_refl _))⟩
          have t1 : ((k : Int) == 1) = false := by simp; omega
          have hhi : (lhAt (k : Int)).2 = 0 ↔ most (k : Int) = -2 := by
            rcases rows_hi k h with h9 | h9
            · omega
            · exact h9
          have CL := Lib.hid (CL0.out.alloc (.cells #[.string rb, .int .i64 lo, .int .i64 hg, .int .i64 tk, .int .i64 ly] 73))
          have ZL := Lib.hid (zrow ((Chg.refl [] _).alloc (.cells #[.string rb, .int .i64 lo, .int .i64 hg, .int .i64 tk, .int .i64 ly] 73)) ZL0.out)
          obtain ⟨⟨v0, v1, v2⟩, u0, u1, u2⟩ := row3 ZL.out
          by_cases hz : hg = 0
          · have em : most (k : Int) = -2 := hhi.1 (by rw [← hhg]; exact hz)
            have HE := Lib.hid (show instrS l = none from by
              rw [RO.out]
              unfold tryR
              rw [if_neg (by rintro (e | e); exact HW.out e; exact e rfl), if_neg (fun e => k1 e.1), if_pos ⟨k1, em⟩]
              rw [if_pos rfl])
            subst hz
            clear hit1 hit2 hw hrw hrb hrl hhg RO NO hhi em hk0 k1
            go_wp2
            refine bodyPost_ret (rd_out (op := k) (n := 0) (x := 0) (ok := false) (ret_row ZL.out) rfl rfl) rfl ⟨read_no rfl HE.out, below_of_chg (chg_ret CL.out (Nat.le_refl _))⟩
          · have tz : (hg == 0) = false := by simpa using hz
            have em : most (k : Int) ≠ -2 := fun e => hz (by rw [hhg]; exact hhi.2 e)
            obtain ⟨m, hm⟩ : ∃ m : Int, m = if hg < 0 then 1023 else hg := ⟨_, rfl⟩
            have hmb : 0 ≤ m ∧ m ≤ 1023 := by
              rcases rows_top k h with h2 | ⟨a, b⟩ | ⟨a, b⟩ | ⟨a, b, c⟩
              · omega
              · rw [hhg] at hm; rw [b, if_pos (by omega)] at hm; omega
              · exact absurd a em
              · rw [hhg] at hm; rw [b, if_neg (by omega)] at hm; omega
            have NR := Lib.hid (fun (n : Int) (ok : Bool) (hok : NumOk rs m n ok) => (RO.out.trans (num_row h k1 HW.out em (by rw [hm, hhg]) hok) : instrS l = if ok = true then some ⟨k, n, 0⟩ else none))
            by_cases hneg : hg < 0
            · have hm2 : m = 1023 := by rw [hm, if_pos hneg]
              rw [hm2] at hmb NR
              clear hit1 hit2 hw hrw hrb hrl hhg RO NO hhi em hk0 k1 hm hm2 hz m
              go_wp2_with (go_at_call 31; refine (NW _ _ hmb.1 hmb.2).mono ?_; rintro e w6 ⟨⟨n, ok, rfl, hok⟩, b6⟩; have CL := Lib.hid (CL.out.trans (Chg.of_below b6)); have ZL := Lib.hid (zrow (Chg.of_below b6) ZL.out); clear v0 v1 v2 u0 u1 u2; obtain ⟨⟨v0, v1, v2⟩, u0, u1, u2⟩ := row3 ZL.out; have HOK := Lib.hid hok; clear b6 hok)
              cases ok
              · refine bodyPost_ret (rd_out (op := k) (n := n) (x := 0) (ok := false) (ret_row ZL.out) rfl rfl) rfl ⟨read_no rfl ((NR.out n false HOK.out).trans rfl), below_of_chg (chg_ret CL.out (Nat.le_refl _))⟩
              · refine bodyPost_ret (rd_out (op := k) (n := n) (x := 0) (ok := true) (ret_row ZL.out) rfl rfl) rfl ⟨read_yes rfl ((NR.out n true HOK.out).trans rfl), below_of_chg (chg_ret CL.out (Nat.le_refl _))⟩
            
            · have hm2 : m = hg := by rw [hm, if_neg hneg]
              rw [hm2] at hmb NR
              clear hit1 hit2 hw hrw hrb hrl hhg RO NO hhi em hk0 k1 hm hm2 hz m
              go_wp2_with (go_at_call 31; refine (NW _ _ hmb.1 hmb.2).mono ?_; rintro e w6 ⟨⟨n, ok, rfl, hok⟩, b6⟩; have CL := Lib.hid (CL.out.trans (Chg.of_below b6)); have ZL := Lib.hid (zrow (Chg.of_below b6) ZL.out); clear v0 v1 v2 u0 u1 u2; obtain ⟨⟨v0, v1, v2⟩, u0, u1, u2⟩ := row3 ZL.out; have HOK := Lib.hid hok; clear b6 hok)
              cases ok
              · refine bodyPost_ret (rd_out (op := k) (n := n) (x := 0) (ok := false) (ret_row ZL.out) rfl rfl) rfl ⟨read_no rfl ((NR.out n false HOK.out).trans rfl), below_of_chg (chg_ret CL.out (Nat.le_refl _))⟩
              · refine bodyPost_ret (rd_out (op := k) (n := n) (x := 0) (ok := true) (ret_row ZL.out) rfl rfl) rfl ⟨read_yes rfl ((NR.out n true HOK.out).trans rfl), below_of_chg (chg_ret CL.out (Nat.le_refl _))⟩
        · have NX := Lib.hid (show ∀ j, j < k + 1 → ¬ ((rowAt ((j : Nat) : Int)).1 = wd ∧ wd ≠ []) from fun j hj => by
            rcases Nat.lt_succ_iff_lt_or_eq.1 hj with h5 | rfl
            · exact NO.out j h5
            · rw [← hrw]; exact hit)
          by_cases k0 : k = 0
          · subst k0
            clear hit hrw hrb hrl hhg NO
            go_wp2
            go_roundw
            case rel => exact ⟨1, by go_num, by omega, CH.out.alloc _, NX.out⟩
            case measure => simp [intOf]
          have t0 : ((k : Int) == 0) = false := by simp; omega
          by_cases wz : wd = []
          · have tw : (S wd).toList.isEmpty = true := by simp [S, wz]
            clear hit hrw hrb hrl hhg NO wz k0
            go_wp2
            go_roundw
            case rel => exact ⟨k + 1, by go_num, by omega, CH.out.alloc _, NX.out⟩
            case measure => first | (simp [intOf]; done) | (simp [intOf]; omega)
          · have tw : (S wd).toList.isEmpty = false := by simpa [S] using wz
            have te : (rb.toList == (S wd).toList) = false := by
              rw [beq_eq_false_iff_ne]
              intro e
              exact hit ⟨by rw [← hrl, e]; simp [S], wz⟩
            clear hit hrw hrb hrl hhg NO wz k0
            go_wp2
            go_roundw
            case rel => exact ⟨k + 1, by go_num, by omega, CH.out.alloc _, NX.out⟩
            case measure => first | (simp [intOf]; done) | (simp [intOf]; omega)
      · obtain rfl : k = 21 := by omega
        have h' : ¬ (((21 : Nat) : Int)) < 21 := by omega
        have CL := CL0
        have ZL := ZL0
        obtain ⟨⟨v0, v1, v2⟩, u0, u1, u2⟩ := row3 ZL.out
        have HE := Lib.hid (show instrS l = none from by rw [IS.out]; exact row_none NO.out)
        go_wp2
        refine bodyPost_ret (rd_out (op := 0) (n := 0) (x := 0) (ok := false) (ret_row ZL.out) rfl rfl) rfl ⟨read_no rfl HE.out, below_of_chg (chg_ret CL.out (Nat.le_refl _))⟩
end Go.Proofs.YtjlnhifleepnoaaGreatDoor
