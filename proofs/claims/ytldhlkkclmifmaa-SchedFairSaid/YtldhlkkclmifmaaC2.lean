import Derived.Test.YtldhlkkclmifmaaC3
import Derived.Test.YtldhlkkclmifmaaOps
set_option linter.unusedVariables false
set_option linter.unusedSimpArgs false
namespace Go.Proofs.Ytldhlkkclmifmaa
open Go.RowKit

def opDo (n : Int) (s : ST) (p : Int × Int) : ST := if p.1 = 1 then s.step n p.2 else if p.1 = 2 then s.fin n p.2 else s
def opsDo (n : Int) (s : ST) (l : List (Int × Int)) : ST := l.foldl (opDo n) s
theorem opsDo_snoc {n : Int} {s : ST} {l : List (Int × Int)} {k : Nat} {p : Int × Int} (h : l[k]? = some p) : opsDo n s (l.take (k + 1)) = opDo n (opsDo n s (l.take k)) p := by
  obtain ⟨hk, rfl⟩ := List.getElem?_eq_some_iff.1 h
  rw [opsDo, List.take_succ_eq_append_getElem hk, List.foldl_append]; rfl
theorem opDo_inv {n : Int} {s : ST} (hn : n ≤ 8) (h : s.Inv n) (p : Int × Int) : (opDo n s p).Inv n ∧ s.o ≤ (opDo n s p).o ∧ (opDo n s p).o ≤ s.o + 1 := by
  unfold opDo
  split
  · exact h.step hn _
  · split
    · exact h.fin hn _
    · exact ⟨h, by omega, by omega⟩
theorem opsDo_inv {n : Int} {s : ST} (hn : n ≤ 8) (h : s.Inv n) (l : List (Int × Int)) : (opsDo n s l).Inv n ∧ s.o ≤ (opsDo n s l).o ∧ (opsDo n s l).o ≤ s.o + l.length := by
  induction l generalizing s with
  | nil => exact ⟨h, by simp [opsDo], by simp [opsDo]⟩
  | cons p l ih =>
    obtain ⟨h1, h2, h3⟩ := opDo_inv hn h p
    obtain ⟨g1, g2, g3⟩ := ih h1
    simp only [opsDo, List.foldl_cons, List.length_cons] at *
    exact ⟨g1, by omega, by omega⟩

set_option maxRecDepth 100000 in
set_option maxHeartbeats 2000000 in
theorem round_walk (w : World) (n t : Int) (v : Value) (l : List (Int × Int)) (h : Rd w 2 v (l.map opRow)) (hr : l.length * 16 ≤ 140737488351232) (h1 : 1 ≤ n) (h8 : n ≤ 8) (ht : -9223372036854775808 ≤ t ∧ t ≤ 9223372036854775807) :
    Calls Try.prog 9 #[.int .i64 n, v, .int .i64 t] w fun e w' => e = .returned (.bool true) ∧ Below w.heap.size w w' := by
  have H := Lib.hid h; clear h
  obtain ⟨a0, c0, e0⟩ := H.out.slice
  rw [List.length_map] at e0
  go_enter Try.func9, Try.ntmps9
  go_wp2_with fail
  refine (live_any _).mono ?_; rintro e w1 ⟨rfl, c1⟩
  have C1 := Lib.hid c1; clear c1
  go_wp2_with fail
  refine (new_at _ n h1 h8).mono ?_; rintro e w2 ⟨rfl, c2, r2⟩
  have C2 := Lib.hid (C1.out.trans c2)
  have R2 := Lib.hid (show RIst w2 w1.heap.size n ⟨liveN n, none8, 0⟩ from r2)
  have hb := C1.out.size
  generalize w1.heap.size = b at *
  clear c2 r2 C1
  subst e0
  go_wp2_with fail
  go_loopw [50] (fun i wr => ∃ k : Nat, k ≤ l.length ∧ i = .int .i64 k ∧ RIst wr b n (opsDo n ⟨liveN n, none8, 0⟩ (l.take k)) ∧ Chg [] w wr) (fun i _ => l.length - (intOf i).toNat)
  case atStart => exact ⟨0, Nat.zero_le _, rfl, R2.out, C2.out⟩
  case round =>
    obtain ⟨k, hk, rfl, hst, hchg⟩ := hrel
    by_cases hkn : k < l.length
    · obtain ⟨b', off, c', p, q, e, hb', hp, g0, g1⟩ := opAt (H.out.keep0 hchg) hkn
      simp only [Value.slice.injEq, true_and] at e
      obtain ⟨rfl, rfl⟩ := e
      have SN := Lib.hid (opsDo_snoc (n := n) (s := ⟨liveN n, none8, 0⟩) hp)
      have hinv := opsDo_inv h8 (ST.Inv.start h1) (l.take k)
      have hlt : (l.take k).length ≤ k := List.length_take_le _ _
      generalize opsDo n ⟨liveN n, none8, 0⟩ (l.take k) = s at *
      have o1 : 0 ≤ s.o := hinv.2.1
      have o2 : s.o ≤ k := by have := hinv.2.2; simp at this; omega
      have RS := Lib.hid hst
      have CH := Lib.hid hchg
      clear hp hst hchg hinv hlt
      have KEEP : Hid (RIst (wr.alloc (.cells #[.int .i64 p, .int .i64 q] 44)) b n s) := RS.out.keep ((Chg.refl [] wr).alloc _) (by simp)
      have CH1 : Hid (Chg [] w (wr.alloc (.cells #[.int .i64 p, .int .i64 q] 44))) := CH.out.alloc _
      clear RS CH
      by_cases hp1 : p = 1
      · have P1 : Hid (opDo n s (p, q) = s.step n q) := by unfold opDo; rw [if_pos hp1]; rfl
        have q1 : (p == 1) = true := by simp [hp1]
        clear hp1
        go_wp2_with (go_at_call 25; refine (step_st _ _ _ _ _ KEEP.out h8 o1 (by omega)).mono ?_; rintro e w3 ⟨rfl, c3, r3⟩; have C3 := Lib.hid c3; clear c3; have R3 := Lib.hid r3; clear r3)
        go_roundw
        case rel => exact ⟨k + 1, by omega, by go_num, by rw [SN.out, P1.out]; exact R3.out, CH1.out.also C3.out (by simp; exact hb)⟩
        case measure => simp [intOf]; omega
      · by_cases hp2 : p = 2
        · have P1 : Hid (opDo n s (p, q) = s.fin n q) := by unfold opDo; rw [if_neg hp1, if_pos hp2]; rfl
          have q1 : (p == 1) = false := by simp [hp1]
          have q2 : (p == 2) = true := by simp [hp2]
          clear hp1 hp2
          go_wp2_with (go_at_call 26; refine (fin_st _ _ _ _ _ KEEP.out h8 o1 (by omega)).mono ?_; rintro e w3 ⟨rfl, c3, r3⟩; have C3 := Lib.hid c3; clear c3; have R3 := Lib.hid r3; clear r3)
          go_roundw
          case rel => exact ⟨k + 1, by omega, by go_num, by rw [SN.out, P1.out]; exact R3.out, CH1.out.also C3.out (by simp; exact hb)⟩
          case measure => simp [intOf]; omega
        · have P1 : Hid (opDo n s (p, q) = s) := by unfold opDo; rw [if_neg hp1, if_neg hp2]; rfl
          have q1 : (p == 1) = false := by simp [hp1]
          have q2 : (p == 2) = false := by simp [hp2]
          clear hp1 hp2
          go_wp2
          go_roundw
          case rel => exact ⟨k + 1, by omega, by go_num, by rw [SN.out, P1.out]; exact KEEP.out, CH1.out⟩
          case measure => simp [intOf]; omega
    · have e : k = l.length := by omega
      subst e
      have hinv := opsDo_inv h8 (ST.Inv.start h1) l
      rw [List.take_length] at hst
      generalize opsDo n ⟨liveN n, none8, 0⟩ l = s at *
      clear hk hkn
      have INV := Lib.hid hinv.1
      have o1 : 0 ≤ s.o := hinv.2.1
      have o2 : s.o ≤ 100000000000000 := by have := hinv.2.2; simp at this; omega
      have RS := Lib.hid hst
      have CH := Lib.hid hchg
      clear hst hchg hinv C2 R2
      go_wp2_with fail
      refine (over_st _ _ _ _ RS.out).mono ?_; rintro e w3 ⟨rfl, rfl⟩
      go_wp2_with fail
      refine (due_st _ _ _ _ RS.out (by omega) h8).mono ?_; rintro e w4 ⟨v4, rfl, own4, c4⟩
      have O4 := Lib.hid own4
      have R4 := Lib.hid (RS.out.keep c4 (by simp))
      have C4 := Lib.hid (CH.out.trans c4)
      have D4 := Lib.hid (dueL_le s.L s.S n.toNat)
      have ND := Lib.hid (dueL_nodup (L := s.L) (S := s.S) (k := n.toNat))
      have RLT := Lib.hid RS.out.lt
      clear own4 c4 RS CH
      obtain ⟨ds, hds⟩ : ∃ ds, ds = dueL s.L s.S n.toNat := ⟨_, rfl⟩
      have MEM := Lib.hid (show ∀ x, x ∈ ds ↔ x ∈ dueL s.L s.S n.toNat from fun x => by rw [hds])
      rw [← hds] at O4 D4 ND
      clear hds
      generalize wr.heap.size = B4 at *
      clear wr
      obtain ⟨a4, c4, rfl⟩ := O4.out.rd.slice
      have LT := Lib.hid RLT.out
      have L4 := Lib.hid R4.out.lt
      have hd8 : ds.length ≤ 8 := by have := D4.out; omega
      go_wp2_with fail
      go_loopw [14] (fun i wr => ∃ k : Nat, k ≤ ds.length ∧ i = .int .i64 k ∧ RIst wr b n (stepsDo n s (ds.take k)) ∧ Chg [b] w4 wr) (fun i _ => ds.length - (intOf i).toNat)
      case atStart => exact ⟨0, Nat.zero_le _, rfl, R4.out, Chg.refl _ _⟩
      case round =>
        obtain ⟨k, hk, rfl, hst, hchg⟩ := hrel
        by_cases hkn : k < ds.length
        · have SD := Lib.hid (steps_at h8 s INV.out ds ND.out MEM.out k hkn)
          rw [SD.out] at hst
          have SN := Lib.hid (stepsDo_snoc (n := n) (s := s) (List.getElem?_eq_getElem hkn))
          rw [SD.out] at SN
          have OW := Lib.hid (O4.out.keep hchg (fun j hj => by have := (O4.out.blk j hj).1; have := LT.out; simp; omega))
          obtain ⟨b', off, c', e, hb', hc'⟩ := OW.out.rd.blk (by omega)
          simp only [Value.slice.injEq, true_and] at e
          obtain ⟨rfl, rfl⟩ := e
          obtain ⟨x, X, g1⟩ : ∃ x, Hid (ds[k] = x) ∧ wr.cell? ⟨b', off + k, none⟩ = some (.int .i64 x) := ⟨ds[k], rfl, by have := hc' k hkn; simpa [List.getD, List.getElem?_eq_getElem hkn] using this⟩
          rw [X.out] at SN
          have RS := Lib.hid hst
          have CH := Lib.hid hchg
          have nb : (s.o != s.o) = false := by simp
          clear hst hchg hc' hb'
          go_wp2_with fail
          refine (over_st _ _ _ _ RS.out).mono ?_; rintro e w5 ⟨rfl, rfl⟩
          dsimp only
          go_wp2_with (go_at_call 25; refine (step_st _ _ _ _ _ RS.out h8 o1 (by show s.o < _; omega)).mono ?_; rintro e w3 ⟨rfl, c3, r3⟩; have C3 := Lib.hid c3; clear c3; have R3 := Lib.hid r3; clear r3)
          go_roundw
          case rel => exact ⟨k + 1, by omega, by go_num, by rw [SN.out]; exact R3.out, CH.out.trans C3.out⟩
          case measure => simp [intOf]; omega
        · have e : k = ds.length := by omega
          subst e
          rw [List.take_length] at hst
          have OW := Lib.hid (O4.out.keep hchg (fun j hj => by have := (O4.out.blk j hj).1; have := LT.out; simp; omega))
          have CH := Lib.hid (C4.out.also hchg (by simp; exact hb))
          clear hchg C4 R4 O4 L4 hk hkn
          by_cases hd0 : ds.length = 0
          · have e2 : ds = [] := List.eq_nil_of_length_eq_zero hd0
            subst e2
            have RS := Lib.hid (show RIst wr b n s from hst)
            have nb : (s.o == s.o) = true := by simp
            clear hst hd0
            go_wp2_with fail
            refine (over_st _ _ _ _ RS.out).mono ?_; rintro e w5 ⟨rfl, rfl⟩
            go_wp2
            go_ret
            exact ⟨rfl, CH.out.below (Nat.le_refl _) (by simp)⟩
          · rw [steps_full h8 s INV.out ds ND.out MEM.out (by omega)] at hst
            have INV2 := Lib.hid (show ST.Inv n ⟨s.L, fun _ => false, s.o + 1⟩ from ⟨INV.out.in_, fun i hi => by simp at hi, fun i hi => ⟨i, hi, rfl⟩⟩)
            have NE := Lib.hid (show ∃ x, x ∈ dueL s.L (fun _ => false) n.toNat from ⟨ds[0], by
              have := dueL_mem.1 ((MEM.out ds[0]).1 (List.getElem_mem _))
              exact dueL_mem.2 ⟨this.1, this.2.1, this.2.2.1, rfl⟩⟩)
            have RS := Lib.hid hst
            have q0 : ((ds.length : Int) == 0) = false := by rw [beq_eq_false_iff_ne]; omega
            clear hst hd0 OW MEM ND INV
            go_wp2_with fail
            refine (due_st _ _ _ _ RS.out (by omega) h8).mono ?_; rintro e w6 ⟨v6, rfl, own6, c6⟩
            have O6 := Lib.hid own6
            have R6 := Lib.hid (show RIst w6 b n ⟨s.L, fun _ => false, s.o + 1⟩ from RS.out.keep c6 (by simp))
            have C6 := Lib.hid (CH.out.trans c6)
            have D6 := Lib.hid (dueL_le s.L (fun _ => false) n.toNat)
            have LT6 := Lib.hid RS.out.lt
            have ND6 := Lib.hid (dueL_nodup (L := s.L) (S := fun _ => false) (k := n.toNat))
            clear own6 c6 RS CH
            obtain ⟨ls, hls⟩ : ∃ ls, ls = dueL s.L (fun _ => false) n.toNat := ⟨_, rfl⟩
            dsimp only at O6 D6 ND6
            rw [← hls] at O6 D6 ND6 NE
            have HLS := Lib.hid hls
            clear hls
            generalize wr.heap.size = B6 at *
            clear wr
            have hl8 : ls.length ≤ 8 := by have := D6.out; omega
            have hl0 : 0 < ls.length := by obtain ⟨x, hx⟩ := NE.out; exact List.length_pos_of_mem hx
            obtain ⟨a6, c6, rfl⟩ := O6.out.rd.slice
            have p1 : ((ls.length : Int) == 0) = false := by rw [beq_eq_false_iff_ne]; omega
            have p2 : (s.o + 1 != s.o + 1) = false := by simp
            have m1 := Int.tmod_lt_of_pos t (show (0 : Int) < (ls.length : Int) by omega)
            have m2 := Int.lt_tmod_of_pos t (show (0 : Int) < (ls.length : Int) by omega)
            obtain ⟨kk, hkk, hcase⟩ : ∃ kk : Nat, kk < ls.length ∧ ((t.tmod ls.length < 0 ∧ t.tmod ls.length + ls.length = kk) ∨ (0 ≤ t.tmod ls.length ∧ t.tmod ls.length = kk)) := by
              by_cases h0 : t.tmod ls.length < 0
              · exact ⟨(t.tmod ls.length + ls.length).toNat, by omega, .inl ⟨h0, by omega⟩⟩
              · exact ⟨(t.tmod ls.length).toNat, by omega, .inr ⟨by omega, by omega⟩⟩
            have TM := Lib.hid (show ∀ x, x ∈ turned ls kk ↔ x ∈ dueL s.L (fun _ => false) n.toNat from fun x => by rw [turned_mem, HLS.out])
            have TN := Lib.hid (turned_nodup ls kk ND6.out)
            have TL := Lib.hid (turned_len ls kk)
            have LSB := Lib.hid (show ∀ x ∈ ls, 0 ≤ x ∧ x < n from fun x hx => by rw [HLS.out] at hx; have := dueL_mem.1 hx; exact ⟨this.1, by omega⟩)
            have hso : (0 : Int) ≤ s.o + 1 := by omega
            have hso2 : s.o + 1 < 9223372036854775807 := by omega
            clear p1 p2
            have p1 : ((ls.length : Int) == 0) = false := by rw [beq_eq_false_iff_ne]; omega
            have p2 : (s.o + 1 != s.o + 1) = false := by simp
            rcases hcase with ⟨hneg, hE⟩ | ⟨hneg, hE⟩
            all_goals
              go_wp2_with fail
              refine (over_st _ _ _ _ R6.out).mono ?_; rintro e w7 ⟨rfl, rfl⟩
              dsimp only
              go_wp2_with fail
              clear hE hneg m1 m2
              go_loopw [18] (fun i wr => ∃ k : Nat, k ≤ ls.length ∧ i = .int .i64 k ∧ RIst wr b n (stepsDo n ⟨s.L, fun _ => false, s.o + 1⟩ ((turned ls kk).take k)) ∧ Chg [b] w6 wr) (fun i _ => ls.length - (intOf i).toNat)
              case atStart => exact ⟨0, Nat.zero_le _, rfl, R6.out, Chg.refl _ _⟩
              case round =>
                obtain ⟨k, hk, rfl, hst, hchg⟩ := hrel
                by_cases hkn : k < ls.length
                · have SD := Lib.hid (steps_at h8 _ INV2.out (turned ls kk) TN.out TM.out k (by rw [TL.out]; exact hkn))
                  rw [SD.out] at hst
                  have SN := Lib.hid (stepsDo_snoc (n := n) (s := ⟨s.L, fun _ => false, s.o + 1⟩) (turned_at ls kk k hkn))
                  rw [SD.out] at SN
                  have hm : (k + kk) % ls.length < ls.length := Nat.mod_lt _ hl0
                  have OW := Lib.hid (O6.out.keep hchg (fun j hj => by have := (O6.out.blk j hj).1; have := LT6.out; simp; omega))
                  obtain ⟨b', off, c', e, hb', hc'⟩ := OW.out.rd.blk (by omega)
                  simp only [Value.slice.injEq, true_and] at e
                  obtain ⟨rfl, rfl⟩ := e
                  obtain ⟨x, X, g1⟩ : ∃ x, Hid (ls.getD ((k + kk) % ls.length) 0 = x) ∧ wr.cell? ⟨b', off + (k + kk) % ls.length, none⟩ = some (.int .i64 x) := ⟨_, rfl, hc' _ hm⟩
                  have m3 : (0 : Int) ≤ ((k : Int) + (kk : Int)) % (ls.length : Int) := Int.emod_nonneg _ (by omega)
                  have m4 : ((k : Int) + (kk : Int)) % (ls.length : Int) < (ls.length : Int) := Int.emod_lt_of_pos _ (by omega)
                  rw [X.out] at SN
                  have RS := Lib.hid hst
                  have CH := Lib.hid hchg
                  clear hst hchg hc' hb'
                  go_wp2_with fail
                  refine (over_st _ _ _ _ RS.out).mono ?_; rintro e w5 ⟨rfl, rfl⟩
                  dsimp only
                  go_wp2_with (go_at_call 25; refine (step_st _ _ _ _ _ RS.out h8 hso hso2).mono ?_; rintro e w3 ⟨rfl, c3, r3⟩; have C3 := Lib.hid c3; clear c3; have R3 := Lib.hid r3; clear r3)
                  go_roundw
                  case rel => exact ⟨k + 1, by omega, by go_num, by rw [SN.out]; exact R3.out, CH.out.trans C3.out⟩
                  case measure => simp [intOf]; omega
                · have e : k = ls.length := by omega
                  subst e
                  have hfull := steps_full h8 _ INV2.out (turned ls kk) TN.out TM.out (by rw [TL.out]; exact hl0)
                  rw [show (turned ls kk).take ls.length = turned ls kk from by rw [← TL.out, List.take_length], hfull] at hst
                  have OW := Lib.hid (O6.out.keep hchg (fun j hj => by have := (O6.out.blk j hj).1; have := LT6.out; simp; omega))
                  have CH := Lib.hid (C6.out.also hchg (by simp; exact hb))
                  have RS := Lib.hid (show RIst wr b n ⟨s.L, fun _ => false, s.o + 1 + 1⟩ from hst)
                  have nb : (s.o + 1 + 1 == s.o + 2) = true := by rw [beq_iff_eq]; omega
                  have HL := Lib.hid hl8
                  clear hst hchg hfull hk hkn C6 R6 O6
                  go_wp2_with fail
                  refine (over_st _ _ _ _ RS.out).mono ?_; rintro e w5 ⟨rfl, rfl⟩
                  dsimp only
                  go_wp2_with fail
                  refine (due_st _ _ _ _ RS.out (by omega) h8).mono ?_; rintro e w6 ⟨v8, rfl, own8, c8⟩
                  dsimp only at own8
                  rw [← HLS.out] at own8
                  have O8 := Lib.hid own8
                  have OW8 := Lib.hid (OW.out.keep0 c8)
                  have C8 := Lib.hid (CH.out.trans c8)
                  clear own8 c8
                  go_wp2_with fail
                  refine (same_any _ _ _ ls ls O8.out.rd OW8.out.rd (by omega) (by omega)).mono ?_; rintro e w9 ⟨rfl, n9, rfl⟩
                  rw [show decide (ls = ls) = true from by simp]
                  go_wp2
                  go_ret
                  exact ⟨rfl, (C8.out.drewN n9).below (Nat.le_refl _) (by simp)⟩

set_option maxRecDepth 100000 in
set_option maxHeartbeats 1000000 in
theorem round_bad (w : World) (n t : Int) (v : Value) (h : n < 1 ∨ 8 < n) :
    Calls Try.prog 9 #[.int .i64 n, v, .int .i64 t] w fun e w' => e = .returned (.bool true) ∧ Below w.heap.size w w' := by
  by_cases h0 : n < 1
  · go_enter Try.func9, Try.ntmps9
    go_wp2_with fail
    refine (live_any _).mono ?_; rintro e w1 ⟨rfl, c1⟩
    have C1 := Lib.hid c1; clear c1
    go_wp2_with fail
    refine (new_bad n _ h).mono ?_; rintro e w2 ⟨rfl, rfl⟩
    go_wp2
    go_ret
    exact ⟨rfl, C1.out.below (Nat.le_refl _) (by simp)⟩
  · have h1 : 8 < n := by omega
    go_enter Try.func9, Try.ntmps9
    go_wp2_with fail
    refine (live_any _).mono ?_; rintro e w1 ⟨rfl, c1⟩
    have C1 := Lib.hid c1; clear c1
    go_wp2_with fail
    refine (new_bad n _ h).mono ?_; rintro e w2 ⟨rfl, rfl⟩
    clear h
    go_wp2
    go_ret
    exact ⟨rfl, C1.out.below (Nat.le_refl _) (by simp)⟩

theorem round_all (w : World) (n : Int) (v : Value) (t : Int) (hn : -9223372036854775808 ≤ n ∧ n ≤ 9223372036854775807) (h : InOps w v) (ht : -9223372036854775808 ≤ t ∧ t ≤ 9223372036854775807) :
    Calls Try.prog 9 #[.int .i64 n, v, .int .i64 t] w fun e w' => e = .returned (.bool true) ∧ Below w.heap.size w w' := by
  by_cases hb : n < 1 ∨ 8 < n
  · exact round_bad w n t v hb
  · obtain ⟨l, h1, _, h3⟩ := h
    exact round_walk w n t v l h1 h3 (by omega) (by omega) ht

end Go.Proofs.Ytldhlkkclmifmaa
