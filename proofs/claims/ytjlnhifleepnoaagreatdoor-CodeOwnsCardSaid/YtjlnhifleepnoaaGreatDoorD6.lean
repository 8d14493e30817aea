import Derived.Test.YtjlnhifleepnoaaGreatDoorD5
import Derived.Test.YtjlnhifleepnoaaGreatDoorK18
set_option linter.unusedVariables false
set_option linter.unusedSimpArgs false
namespace Go.Proofs.YtjlnhifleepnoaaGreatDoor
open Go.RowKit

theorem rmay_at (op n len : Int) (x : Nat) (w : World) (r : Bool) (h : mayS ⟨op, n, x⟩ len = r) : Calls Tryz.prog 15 #[.agg #[.int .i64 op, .int .i64 n, .float .f64 x], .int .i64 len] w fun e w' => e = .returned (.bool r) ∧ Below w.heap.size w w' := by
  subst h
  exact rmay_walk ⟨op, n, x⟩ len w
theorem pd_out {W : World} {g : Nat} {t e a : Int} {l : Value} {T : Array Value} (h : W.heap[g]? = some (.cells #[.int .i64 t, l] 25 (0, 0))) (h2 : T[2]? = some (.pointer (some ⟨g, 0, none⟩))) (h3 : T[3]? = some (.int .i64 e)) (h4 : T[4]? = some (.int .i64 a)) :
    (results Tryz.f7 T).run Tryz.prog W = .ok (.tuple #[.agg #[.int .i64 t, l], .int .i64 e, .int .i64 a]) W := by
  have c0 : W.cell? ⟨g, 0, none⟩ = some (.int .i64 t) := cell_of_row _ _ _ _ _ _ h
  have c1 : W.cell? ⟨g, 1, none⟩ = some l := cell_of_row _ _ _ _ _ _ h
  simp [results, Tryz.f7, Tryz.results7, go_sem, c0, c1, h2, h3, h4]
theorem two_row {W : World} {g : Nat} {a b x y : Value} {T : TypeId} (h : W.heap[g]? = some (.cells #[a, b] T (0, 0))) : ((W.setCell ⟨g, 0, none⟩ x).setCell ⟨g, 1, none⟩ y).heap[g]? = some (.cells #[x, y] T (0, 0)) :=
  heap_put (heap_put h (i := 0) (v := x) (cs' := #[x, b]) rfl) (i := 1) (v := y) (cs' := #[x, y]) rfl
theorem cut_end {s : ByteArray} {F : Nat} (h : ∀ j (hj : j < s.size), F ≤ j → s[j]'hj ≠ 10) : Lib.cut (s.data.toList.drop F) [10] = (s.data.toList.drop F, [], false) := by
  refine cut_no 10 _ fun hc => ?_
  obtain ⟨j, hj, e⟩ := List.getElem_of_mem hc
  rw [List.length_drop] at hj
  have hj2 : F + j < s.size := by rw [Lib.size_eq]; omega
  rw [List.getElem_drop] at e
  exact h (F + j) hj2 (by omega) e
theorem cut_hit {s : ByteArray} {F E : Nat} (hE : E < s.size) (hF : F ≤ E) (he : s[E]'hE = 10) (h : ∀ j (hj : j < s.size), F ≤ j → j < E → s[j]'hj ≠ 10) : Lib.cut (s.data.toList.drop F) [10] = ((s.data.toList.drop F).take (E - F), s.data.toList.drop (E + 1), true) := by
  have hl : E < s.data.toList.length := by rw [← Lib.size_eq]; exact hE
  have hx : s.data.toList[E]'hl = 10 := he
  have hsp : s.data.toList.drop F = (s.data.toList.drop F).take (E - F) ++ 10 :: s.data.toList.drop (E + 1) := by
    have h1 : (s.data.toList.drop F).drop (E - F) = 10 :: s.data.toList.drop (E + 1) := by
      rw [List.drop_drop, show F + (E - F) = E by omega, List.drop_eq_getElem_cons hl, hx]
    rw [← h1, List.take_append_drop]
  have hno : 10 ∉ (s.data.toList.drop F).take (E - F) := fun hc => by
    obtain ⟨j, hj, e⟩ := List.getElem_of_mem hc
    rw [List.length_take, List.length_drop] at hj
    have hj2 : F + j < s.size := by rw [Lib.size_eq]; omega
    rw [List.getElem_take, List.getElem_drop] at e
    exact h (F + j) hj2 (by omega) (by omega) e
  conv => lhs; rw [hsp]
  exact cut_mk 10 _ _ hno

theorem row2a {W : World} {g : Nat} {a b : Value} {T : TypeId} (h : W.heap[g]? = some (.cells #[a, b] T (0, 0))) : (∀ o : Obj, (W.alloc o).cell? ⟨g, 0, none⟩ = some a) ∧ (∀ o : Obj, (W.alloc o).cell? ⟨g, 1, none⟩ = some b) ∧ (∀ o : Obj, (W.alloc o).frozen? ⟨g, 0, none⟩ = false) ∧ (∀ o : Obj, (W.alloc o).frozen? ⟨g, 1, none⟩ = false) ∧ ∀ o : Obj, (W.alloc o).heap[g]? = some (.cells #[a, b] T (0, 0)) := by
  have hh : ∀ o : Obj, (W.alloc o).heap[g]? = some (.cells #[a, b] T (0, 0)) := fun o => (Below.heap_alloc _ _ _ (lt_of_heap h)).trans h
  exact ⟨fun o => cell_of_row _ _ _ _ _ _ (hh o), fun o => cell_of_row _ _ _ _ _ _ (hh o), fun o => frozen_of_row _ _ _ _ _ (hh o), fun o => frozen_of_row _ _ _ _ _ (hh o), hh⟩
theorem info_of33 : ∃ i, Tryz.prog.info? 33 = some i ∧ i.zero = some (.agg #[.int .i64 0, .int .i64 0, .float .f64 0]) ∧ i.size = 3 ∧ i.bytes = 24 := by
  have h := info41
  cases h2 : Tryz.prog.info? 33 with
  | none => rw [h2] at h; cases h
  | some i => rw [h2] at h; simp at h; exact ⟨i, rfl, h.1, h.2.1, h.2.2⟩
theorem own_put3 {W : World} {B g cap : Nat} {op n : Int} {x : Nat} {l : List Ins} {u : Value} (h : W.ownsRow (B + 3) 33 3 (.slice (some ⟨g, 0, none⟩) (l.length + 1) cap) (l.length + 1) (flat l ++ [.int .i64 op, .int .i64 n, .float .f64 x])) :
    OwnC (W.setCell ⟨B + 2, 1, none⟩ u) (B + 3) (.slice (some ⟨g, 0, none⟩) (l.length + 1) cap) (l ++ [⟨op, n, x⟩]) := by
  have h0 : OwnC W (B + 3) (.slice (some ⟨g, 0, none⟩) (l.length + 1) cap) (l ++ [⟨op, n, x⟩]) := by
    unfold OwnC
    rw [flat_app, List.length_append]
    exact h
  refine h0.keep (S := [B + 2]) ((Chg.refl _ _).setCell (.inl (by simp)) _) fun k hk => ?_
  have := (h0.blk k hk).1
  simp
  omega

set_option maxRecDepth 100000 in
set_option maxHeartbeats 8000000 in
theorem dcode_long (s : ByteArray) (w : World) (h : 65536 < s.data.toList.length) : Calls Tryz.prog 7 #[.string s] w (CodePost w (.error (2, 0))) := by
  have h1 : (65536 : Int) < (s.size : Int) := by rw [Lib.size_eq]; omega
  clear h
  go_enter Tryz.func7, Tryz.ntmps7
  go_wp2
  have hz : ((w.alloc (.cells #[.int .i64 0, .slice none 0 0] 25)).alloc (.cells #[.int .i64 0, .slice none 0 0] 25)).heap[w.heap.size]? = some (.cells #[.int .i64 0, .slice none 0 0] 25 (0, 0)) := (Below.heap_alloc _ _ _ (by simp)).trans (heap_alloc_new _ _)
  exact bodyPost_ret (pd_out hz rfl rfl rfl) rfl ⟨rfl, below_of_chg (((Chg.refl _ _).alloc _).alloc _)⟩

set_option maxRecDepth 100000 in
set_option maxHeartbeats 16000000 in
theorem dcode_from (s : ByteArray) (w : World) (h : ¬ 65536 < s.data.toList.length) : Calls Tryz.prog 7 #[.string s] w (CodePost w (readS s.data.toList)) := by
  rw [readS_eq]
  obtain ⟨l, hl⟩ : ∃ l, l = s.data.toList := ⟨_, rfl⟩
  have hsl : s.size = l.length := by rw [hl]; exact Lib.size_eq s
  have h1 : ¬ (65536 : Int) < (s.size : Int) := by rw [hsl, hl]; omega
  have hs65 : s.size ≤ 65536 := by omega
  obtain ⟨R, hR⟩ : ∃ R, R = readLoop s.data.toList.length s.data.toList 0 0 [] := ⟨_, rfl⟩
  have HR := Lib.hid hR
  rw [← hR]
  clear hR h
  have sf := run_store_float
  have HL := Lib.hid hl
  have HSL := Lib.hid hsl
  clear hl hsl
  go_enter Tryz.func7, Tryz.ntmps7
  go_wp2
  go_loopw [7, 8] (fun n x wr => ∃ (F k f : Nat) (tag : Int) (v : Value) (ll : List Ins), x = .int .i64 F ∧ n = .int .i64 k ∧ F ≤ s.size ∧ k ≤ 1025 ∧ (s.data.toList.drop F).length ≤ f ∧ readLoop f (s.data.toList.drop F) k tag ll = R ∧ ll.length ≤ k ∧
      wr.heap[w.heap.size]? = some (.cells #[.int .i64 0, .slice none 0 0] 25 (0, 0)) ∧ wr.heap[w.heap.size + 1]? = some (.cells #[.int .i64 0, .slice none 0 0] 25 (0, 0)) ∧ wr.heap[w.heap.size + 2]? = some (.cells #[.int .i64 tag, v] 25 (0, 0)) ∧ OwnC wr (w.heap.size + 3) v ll ∧ Chg [] w wr) (fun _ x _ => s.size - (intOf x).toNat)
  case atStart =>
    refine ⟨0, 0, s.data.toList.length, 0, .slice none 0 0, [], rfl, rfl, by omega, by omega, by simp, HR.out.symm, Nat.le_refl _, ?_, ?_, ?_, OwnC.nil _ _, (((Chg.refl _ _).alloc _).alloc _).alloc _⟩
    · rw [Below.heap_alloc _ _ _ (by simp; omega), Below.heap_alloc _ _ _ (by simp)]; exact heap_alloc_new _ _
    · rw [Below.heap_alloc _ _ _ (by simp)]
      simpa using heap_alloc_new (w.alloc (.cells #[.int .i64 0, .slice none 0 0] 25)) (.cells #[.int .i64 0, .slice none 0 0] 25)
    · simpa using heap_alloc_new ((w.alloc (.cells #[.int .i64 0, .slice none 0 0] 25)).alloc (.cells #[.int .i64 0, .slice none 0 0] 25)) (.cells #[.int .i64 0, .slice none 0 0] 25)
  case round =>
    obtain ⟨F, k, f, tag, v, ll, rfl, rfl, hF, hk25, hf, hloop, hlk, hz2, hz5, hz6, hown, hchg⟩ := hrel
    have Z2 := Lib.hid hz2
    have Z5 := Lib.hid hz5
    have Z6 := Lib.hid hz6
    have OW := Lib.hid hown
    have CH := Lib.hid hchg
    have LO := Lib.hid hloop
    clear hz2 hz5 hz6 hown hchg hloop HR
    by_cases hlt : F < s.size
    · have hlt' : (F : Int) < s.size := by omega
      have hne : s.data.toList.drop F ≠ [] := fun e => by
        have := List.drop_eq_nil_iff.1 e
        have e2 := Lib.size_eq s
        omega
      have HNE := Lib.hid hne
      clear hne
      go_wp2
      go_loopw [9] (fun x w2 => ∃ E : Nat, w2 = wr ∧ x = .int .i64 E ∧ F ≤ E ∧ E ≤ s.size ∧ ∀ j (hj : j < s.size), F ≤ j → j < E → s[j]'hj ≠ 10) (fun x _ => s.size - (intOf x).toNat)
      case atStart => exact ⟨F, rfl, rfl, by omega, by omega, fun j _ h1 h2 => by omega⟩
      case round =>
        obtain ⟨E, rfl, rfl, hFE, hEs, hno⟩ := hrel
        have NO := Lib.hid hno
        clear hno
        have hFE' : (F : Int) ≤ E := by omega
        have hEs' : (E : Int) ≤ s.size := by omega
        have l5 := Z5.out
        have y0 := cell_of_row _ _ 0 _ _ _ Z5.out
        have y1 := cell_of_row _ _ 1 _ _ _ Z5.out
        have u0 := frozen_of_row _ _ 0 _ _ Z2.out
        have u1 := frozen_of_row _ _ 1 _ _ Z2.out
        have x0 := cell_of_row _ _ 0 _ _ _ Z2.out
        have x1 := cell_of_row _ _ 1 _ _ _ Z2.out
        have v0 := cell_of_row _ _ 0 _ _ _ Z6.out
        have v1 := frozen_of_row _ _ 0 _ _ Z6.out
        clear l5
        by_cases hend : E = s.size
        · subst hend
          have hc := cut_end (s := s) (F := F) fun j hj h1 => NO.out j hj h1 hj
          have k1 : ¬ (s.size : Int) < s.size := by omega
          have k2 : ((s.size : Int) == (s.size : Int)) = true := beq_self_eq_true _
          by_cases hk : 1025 < k + 1
          · have hk' : (1025 : Int) < (k : Int) + 1 := by omega
            have RR := Lib.hid (show R = .error (50, (k : Int) + 1) from by rw [← LO.out, loop_long HNE.out hf hk])
            clear hc hf
            go_wp2
            refine bodyPost_ret (pd_out (e := 50) (a := (k : Int) + 1) (two_row (x := .int .i64 0) (y := .slice none 0 0) Z2.out) rfl rfl rfl) rfl ?_
            rw [RR.out]
            exact ⟨rfl, below_of_chg ((CH.out.setCell (.inr (Nat.le_refl _)) _).setCell (.inr (Nat.le_refl _)) _)⟩
          · have hk' : ¬ (1025 : Int) < (k : Int) + 1 := by omega
            have RR := Lib.hid (show R = .error (20, (k : Int) + 1) from by rw [← LO.out, loop_open HNE.out hf hk (by rw [hc])])
            clear hc hf
            go_wp2
            refine bodyPost_ret (pd_out (e := 20) (a := (k : Int) + 1) (two_row (x := .int .i64 0) (y := .slice none 0 0) Z2.out) rfl rfl rfl) rfl ?_
            rw [RR.out]
            exact ⟨rfl, below_of_chg ((CH.out.setCell (.inr (Nat.le_refl _)) _).setCell (.inr (Nat.le_refl _)) _)⟩
        have hE : E < s.size := by omega
        have hE' : (E : Int) < s.size := by omega
        by_cases he : s[E]'hE = 10
        case neg =>
          have t1 : (((s[E]'hE).toNat : Int) != 10) = true := by
            rw [bne_iff_ne]
            intro h2
            exact he (UInt8.toNat_inj.1 (by have : (s[E]'hE).toNat = 10 := by omega
                                            exact this))
          have NX := Lib.hid (show ∀ j (hj : j < s.size), F ≤ j → j < E + 1 → s[j]'hj ≠ 10 from fun j hj h1 h2 => by
            rcases Nat.lt_succ_iff_lt_or_eq.1 h2 with h5 | rfl
            · exact NO.out j hj h1 h5
            · exact he)
          clear he
          go_wp2
          go_roundw
          case rel => exact ⟨E + 1, trivial, by go_num, by omega, by omega, NX.out⟩
          case measure => simp [intOf]; omega
        have t1 : (((s[E]'hE).toNat : Int) != 10) = false := by rw [he]; rfl
        have hc := cut_hit hE hFE he NO.out
        have k2 : ((E : Int) == (s.size : Int)) = false := by simp; omega
        by_cases hk : 1025 < k + 1
        · have hk' : (1025 : Int) < (k : Int) + 1 := by omega
          have RR := Lib.hid (show R = .error (50, (k : Int) + 1) from by rw [← LO.out, loop_long HNE.out hf hk])
          clear hc hf he
          go_wp2
          refine bodyPost_ret (pd_out (e := 50) (a := (k : Int) + 1) (two_row (x := .int .i64 0) (y := .slice none 0 0) Z2.out) rfl rfl rfl) rfl ?_
          rw [RR.out]
          exact ⟨rfl, below_of_chg ((CH.out.setCell (.inr (Nat.le_refl _)) _).setCell (.inr (Nat.le_refl _)) _)⟩
        have hk' : ¬ (1025 : Int) < (k : Int) + 1 := by omega
        have hln : (s.extract F E).toList = (s.data.toList.drop F).take (E - F) := Lib.extract_toList s F E
        have hc1 : (Lib.cut (s.data.toList.drop F) [10]).1 = (s.data.toList.drop F).take (E - F) := by rw [hc]
        have hc2 : (Lib.cut (s.data.toList.drop F) [10]).2.1 = s.data.toList.drop (E + 1) := by rw [hc]
        have hcc : (Lib.cut (s.data.toList.drop F) [10]).2.2 = true := by rw [hc]
        have hE1 : (E : Int) + 1 ≤ s.size := by omega
        by_cases hk0 : k = 0
        · subst hk0
          by_cases h1 : (s.data.toList.drop F).take (E - F) = tagS 1
          · obtain ⟨f', hf', hl'⟩ := loop_one (tag := tag) (l := ll) HNE.out hf hcc (by rw [hc1]; exact h1)
            rw [hc2] at hf' hl'
            have NX := Lib.hid (show readLoop f' (s.data.toList.drop (E + 1)) 1 1 ll = R from by rw [← hl', LO.out])
            have tt1 : ((s.extract F E).toList == [114, 101, 97, 100, 115]) = true := by rw [hln, h1]; rfl
            clear hc hc1 hc2 hcc hln h1 hf hl' he
            go_wp2
            go_roundw
            case rel =>
              refine ⟨E + 1, 1, f', 1, v, ll, by go_num, by go_num, by omega, by omega, hf', NX.out, by omega, ?_, ?_, ?_, ?_, ?_⟩
              · exact (Below.heap_setCell _ _ _ _ (by first | (simp; done) | (simp; omega))).trans Z2.out
              · exact (Below.heap_setCell _ _ _ _ (by first | (simp; done) | (simp; omega))).trans Z5.out
              · exact heap_put Z6.out rfl
              · refine OW.out.keep (S := [w.heap.size + 2]) ((Chg.refl _ _).setCell (.inl (by simp)) _) fun j hj => ?_
                have := (OW.out.blk j hj).1
                simp
                omega
              · exact CH.out.setCell (.inr (by first | (simp; done) | (simp; omega))) _
            case measure => simp [intOf]; omega
          by_cases h2 : (s.data.toList.drop F).take (E - F) = tagS 2
          · obtain ⟨f', hf', hl'⟩ := loop_two (tag := tag) (l := ll) HNE.out hf hcc (by rw [hc1]; exact h1) (by rw [hc1]; exact h2)
            rw [hc2] at hf' hl'
            have NX := Lib.hid (show readLoop f' (s.data.toList.drop (E + 1)) 1 2 ll = R from by rw [← hl', LO.out])
            have tt1 : ((s.extract F E).toList == [114, 101, 97, 100, 115]) = false := by rw [beq_eq_false_iff_ne, hln]; exact h1
            have tt2 : ((s.extract F E).toList == [117, 112, 100, 97, 116, 101, 115]) = true := by rw [hln, h2]; rfl
            clear hc hc1 hc2 hcc hln h1 h2 hf hl' he
            go_wp2
            go_roundw
            case rel =>
              refine ⟨E + 1, 1, f', 2, v, ll, by go_num, by go_num, by omega, by omega, hf', NX.out, by omega, ?_, ?_, ?_, ?_, ?_⟩
              · exact (Below.heap_setCell _ _ _ _ (by first | (simp; done) | (simp; omega))).trans Z2.out
              · exact (Below.heap_setCell _ _ _ _ (by first | (simp; done) | (simp; omega))).trans Z5.out
              · exact heap_put Z6.out rfl
              · refine OW.out.keep (S := [w.heap.size + 2]) ((Chg.refl _ _).setCell (.inl (by simp)) _) fun j hj => ?_
                have := (OW.out.blk j hj).1
                simp
                omega
              · exact CH.out.setCell (.inr (by first | (simp; done) | (simp; omega))) _
            case measure => simp [intOf]; omega
          have RR := Lib.hid (show R = .error (20, 1) from by rw [← LO.out, loop_no HNE.out hf hcc (by rw [hc1]; exact h1) (by rw [hc1]; exact h2)])
          have tt1 : ((s.extract F E).toList == [114, 101, 97, 100, 115]) = false := by rw [beq_eq_false_iff_ne, hln]; exact h1
          have tt2 : ((s.extract F E).toList == [117, 112, 100, 97, 116, 101, 115]) = false := by rw [beq_eq_false_iff_ne, hln]; exact h2
          clear hc hc1 hc2 hcc hln h1 h2 hf he
          go_wp2
          refine bodyPost_ret (pd_out (e := 20) (a := 1) (two_row (x := .int .i64 0) (y := .slice none 0 0) Z2.out) rfl rfl rfl) rfl ?_
          rw [RR.out]
          exact ⟨rfl, below_of_chg ((CH.out.setCell (.inr (Nat.le_refl _)) _).setCell (.inr (Nat.le_refl _)) _)⟩
        have hk1 : (((k : Int) + 1) == 1) = false := by simp; omega
        have hszE : (s.extract F E).size < 4294967281 := by
          have e1 : (s.extract F E).toList.length = (s.extract F E).size := by rw [ByteArray.toList_eq]; exact (Lib.size_eq _).symm
          have e2 : (s.extract F E).toList.length ≤ s.size := by rw [hln, List.length_take, List.length_drop]; have := Lib.size_eq s; omega
          omega
        have hRW := dread_walk (s.extract F E) wr hszE
        rw [← ByteArray.toList_eq, hln] at hRW
        have hkp : 0 < k := by omega
        cases hi : instrS ((s.data.toList.drop F).take (E - F)) with
        | none =>
          have RR := Lib.hid (show R = .error (20, (k : Int) + 1) from by rw [← LO.out, loop_bad HNE.out hf hk hcc hkp (by rw [hc1]; exact hi)])
          have RN : Calls Tryz.prog 14 #[.string (s.extract F E)] wr fun e w' => (∃ (qo qn : Int) (qx : Nat), e = .returned (.tuple #[.agg #[.int .i64 qo, .int .i64 qn, .float .f64 qx], .bool false])) ∧ Below wr.heap.size wr w' := by
            refine hRW.mono ?_
            rintro e w' ⟨⟨q, ok, he, ha, hb⟩, b⟩
            cases ok
            · exact ⟨⟨q.op, q.n, q.x, he⟩, b⟩
            · rw [ha rfl] at hi; cases hi
          clear hc hc1 hc2 hcc hln hf he hRW hi hszE
          go_wp2_with (go_at_call 14; refine RN.mono ?_; rintro e w6 ⟨⟨qo, qn, qx, rfl⟩, b6⟩; have C6 := Lib.hid (CH.out.trans (Chg.of_below b6)); have Y2 := Lib.hid (zrow (Chg.of_below (S := []) b6) Z2.out); have Y5 := Lib.hid (zrow (Chg.of_below (S := []) b6) Z5.out); obtain ⟨p0, p1, p2, p3, p4⟩ := row2a Y2.out; obtain ⟨q0, q1, q2, q3, q4⟩ := row2a Y5.out; have P4 := Lib.hid p4; clear b6 p4 q4)
          refine bodyPost_ret (pd_out (e := 20) (a := (k : Int) + 1) (two_row (x := .int .i64 0) (y := .slice none 0 0) (P4.out _)) rfl rfl rfl) rfl ?_
          rw [RR.out]
          exact ⟨rfl, below_of_chg (((C6.out.alloc _).setCell (.inr (Nat.le_refl _)) _).setCell (.inr (Nat.le_refl _)) _)⟩
        | some p =>
          obtain ⟨f', hf', hl'⟩ := loop_ins (tag := tag) (l := ll) HNE.out hf hk hcc hkp (by rw [hc1]; exact hi)
          rw [hc2] at hf' hl'
          have NX := Lib.hid (show readLoop f' (s.data.toList.drop (E + 1)) (k + 1) tag (ll ++ [p]) = R from by rw [← hl', LO.out])
          have RS : Calls Tryz.prog 14 #[.string (s.extract F E)] wr fun e w' => e = .returned (.tuple #[p.v, .bool true]) ∧ Below wr.heap.size wr w' := by
            refine hRW.mono ?_
            rintro e w' ⟨⟨q, ok, he, ha, hb⟩, b⟩
            cases ok
            · rw [hb rfl] at hi; cases hi
            · rw [ha rfl] at hi
              cases hi
              exact ⟨he, b⟩
          obtain ⟨op, nn, x⟩ := p
          unfold Ins.v at RS
          simp only at RS
          obtain ⟨i0, hi0, hz0, hs0, hby0⟩ := info_of33
          have I0 := Lib.hid hi0
          obtain ⟨a9, c9, rfl⟩ := OW.out.form
          obtain ⟨v, hv⟩ : ∃ v, v = Value.slice a9 ll.length c9 := ⟨_, rfl⟩
          rw [← hv] at Z6 OW
          have hl25 : ll.length ≤ 1025 := by omega
          clear hc hc1 hc2 hcc hln hf he hRW hi hszE hl' hi0 hv
          go_wp2_with (first
            | (go_at_call 14; refine RS.mono ?_; rintro e w6 ⟨rfl, b6⟩; have C6 := Lib.hid (CH.out.trans (Chg.of_below b6)); have Y2 := Lib.hid (zrow (Chg.of_below (S := []) b6) Z2.out); have Y5 := Lib.hid (zrow (Chg.of_below (S := []) b6) Z5.out); have Y6 := Lib.hid (zrow (Chg.of_below (S := []) b6) Z6.out); obtain ⟨p0, p1, p2, p3, p4⟩ := row2a Y6.out; have O6 := Lib.hid (OW.out.keep0 (Chg.of_below b6)); clear b6 p4)
            | (refine wpList_append_lies _ rfl (.tmp 76) (.tmp 78) 23 rfl (w.heap.size + 3) 33 i0 _ 3 24 under27 I0.out hz0 hs0 hby0 rfl (by decide) v ll.length (flat ll) rfl ((O6.out.keep0 ((Chg.refl _ _).alloc _)).keep0 ((Chg.refl _ _).alloc _)) _ 1 1 [.int .i64 op, .int .i64 nn, .float .f64 x] rfl rfl
                (World.news_of_block (by simpa using heap_alloc_new (w6.alloc (.cells #[.int .i64 op, .int .i64 nn, .float .f64 x] 33)) (.cells #[.int .i64 op, .int .i64 nn, .float .f64 x] 33))) (by simp [Value.oneCell']) (by decide) (by unfold maxLen; omega) (by omega) (by have := lt_of_heap Y6.out; simp; omega) _ rfl ?_
               intro g cap w7 h2 h3 h4 h5
               have hg7 : ∀ j o, j < w.heap.size + 3 → w6.heap[j]? = some o → w7.heap[j]? = some o := fun j o hj ho => (h3.block _ (by have := lt_of_heap ho; simp; omega) (fun e => by have := (O6.out.blk _ e.symm).1; omega)).trans ((Below.heap_alloc _ _ _ (by have := lt_of_heap ho; simp; omega)).trans ((Below.heap_alloc _ _ _ (lt_of_heap ho)).trans ho))
               have X2 := Lib.hid (hg7 _ _ (by omega) Y2.out)
               have X5 := Lib.hid (hg7 _ _ (by omega) Y5.out)
               have X6 := Lib.hid (hg7 _ _ (by omega) Y6.out)
               have hv7 := cell_of_row _ _ 1 _ _ _ X6.out
               have hf7 := frozen_of_row _ _ 1 _ _ X6.out
               have O7 := Lib.hid h2
               have C7 := Lib.hid (((C6.out.alloc _).alloc _).grown h3 fun j hj => .inr (by have := (O6.out.blk j hj).1; omega))
               clear h2 h3 h4 h5 hg7))
          go_roundw
          case rel =>
            refine ⟨E + 1, k + 1, f', tag, .slice (some ⟨g, 0, none⟩) (ll.length + 1) cap, ll ++ [⟨op, nn, x⟩], by go_num, by go_num, by omega, by omega, hf', NX.out, by simp; omega, ?_, ?_, ?_, ?_, ?_⟩
            · exact (Below.heap_setCell _ _ _ _ (by first | (simp; done) | (simp; omega))).trans X2.out
            · exact (Below.heap_setCell _ _ _ _ (by first | (simp; done) | (simp; omega))).trans X5.out
            · exact heap_put X6.out rfl
            · exact own_put3 O7.out
            · exact C7.out.setCell (.inr (by first | (simp; done) | (simp; omega))) _
          case measure => simp [intOf]; omega
    · obtain rfl : F = s.size := by omega
      have k1 : ¬ (s.size : Int) < s.size := by omega
      have hnil : s.data.toList.drop s.size = [] := List.drop_eq_nil_of_le (by rw [Lib.size_eq]; exact Nat.le_refl _)
      have RR := Lib.hid (show R = .ok (k, tag, ll) from by rw [← LO.out, hnil, loop_nil])
      clear LO hf hnil hlt hF
      obtain ⟨a, c, rfl⟩ := OW.out.form
      have v0 := cell_of_row _ _ 0 _ _ _ Z6.out
      have v1 := cell_of_row _ _ 1 _ _ _ Z6.out
      have y0 := cell_of_row _ _ 0 _ _ _ Z5.out
      have y1 := cell_of_row _ _ 1 _ _ _ Z5.out
      have u0 := frozen_of_row _ _ 0 _ _ Z2.out
      have u1 := frozen_of_row _ _ 1 _ _ Z2.out
      have x0 := cell_of_row _ _ 0 _ _ _ Z2.out
      have x1 := cell_of_row _ _ 1 _ _ _ Z2.out
      by_cases hl0 : ll = []
      · have FR := Lib.hid (show finR R = .error (20, (k : Int) + 1) from by rw [RR.out]; show readFin k tag ll = _; unfold readFin; rw [if_pos hl0])
        subst hl0
        go_wp2
        refine bodyPost_ret (pd_out (e := 20) (a := (k : Int) + 1) (two_row (x := .int .i64 0) (y := .slice none 0 0) Z2.out) rfl rfl rfl) rfl ?_
        rw [FR.out]
        exact ⟨rfl, below_of_chg ((CH.out.setCell (.inr (Nat.le_refl _)) _).setCell (.inr (Nat.le_refl _)) _)⟩
      obtain ⟨n, hn⟩ : ∃ n, n = ll.length := ⟨_, rfl⟩
      have hn0 : 0 < n := by rw [hn]; exact List.length_pos_iff.2 hl0
      have h4 : ((n : Int) == 0) = false := by simp; omega
      have HN := Lib.hid hn
      have RL := Lib.hid (OW.out.rd)
      rw [← hn] at Z6 v1
      have RL2 := Lib.hid (show RdC wr (.slice a n c) ll from by rw [hn]; exact RL.out)
      have OW2 := Lib.hid (show OwnC wr (w.heap.size + 3) (.slice a n c) ll from by rw [hn]; exact OW.out)
      have FG := Lib.hid (show (∀ j (hj : j < ll.length), mayS ll[j] n = true) → finR R = .ok (tag, ll) from fun h => by
        rw [RR.out]; show readFin k tag ll = _; unfold readFin; rw [if_neg hl0]; rw [← hn, badAt_none ll 0 h])
      have FB := Lib.hid (show ∀ j (hj : j < ll.length), (∀ q (hq : q < ll.length), q < j → mayS ll[q] n = true) → mayS ll[j] n = false → finR R = .error (50, (j : Int) + 2) from fun j hj h1 h2 => by
        rw [RR.out]; show readFin k tag ll = _; unfold readFin; rw [if_neg hl0]; rw [← hn, badAt_some ll 0 j hj h1 h2, Nat.zero_add])
      clear hn hl0 RR OW RL
      go_wp2
      go_loopw [91] (fun i w2 => ∃ j : Nat, i = .int .i64 j ∧ j ≤ n ∧ Chg [] wr w2 ∧ ∀ q (hq : q < ll.length), q < j → mayS ll[q] n = true) (fun i _ => n - (intOf i).toNat)
      case atStart => exact ⟨0, rfl, by omega, Chg.refl _ _, fun q _ h => by omega⟩
      case round =>
        obtain ⟨j, rfl, hj, hc2, hall⟩ := hrel
        have C2 := Lib.hid hc2
        have ALL := Lib.hid hall
        have B2 := Lib.hid (zrow hc2 Z2.out)
        have B5 := Lib.hid (zrow hc2 Z5.out)
        have B6 := Lib.hid (zrow hc2 Z6.out)
        clear hc2 hall v0 v1 y0 y1 u0 u1 x0 x1
        have x0 := cell_of_row _ _ 0 _ _ _ B6.out
        have x1 := cell_of_row _ _ 1 _ _ _ B6.out
        have x1a := fun o : Obj => (World.cell?_alloc_some _ _ o (by rw [x1]; rfl)).trans x1
        by_cases h : j < n
        · have h' : (j : Int) < n := by omega
          have hjl : j < ll.length := by have := HN.out; omega
          obtain ⟨b, off, rfl, -, c0, c1, c2⟩ := (RL2.out.keep0 C2.out).at hjl
          obtain ⟨q, hq⟩ : ∃ q, q = ll[j] := ⟨_, rfl⟩
          rw [← hq] at c0 c1 c2
          have HQ := Lib.hid hq
          clear hq
          obtain ⟨op, nn, x⟩ := q
          simp only at c0 c1 c2
          cases hm : mayS ⟨op, nn, x⟩ n
          · have FE := Lib.hid (FB.out j hjl ALL.out (by rw [← HQ.out]; exact hm))
            go_wp2_with (go_at_call 15; refine (rmay_at _ _ _ _ _ _ hm).mono ?_; rintro e w3 ⟨rfl, b3⟩; have C3 := Lib.hid ((C2.out.alloc _).trans (Chg.of_below b3)); have Y2 := Lib.hid (zrow C3.out Z2.out); have Y5 := Lib.hid (zrow C3.out Z5.out); have q0 := cell_of_row _ _ 0 _ _ _ Y5.out; have q1 := cell_of_row _ _ 1 _ _ _ Y5.out; have p0 := cell_of_row _ _ 0 _ _ _ Y2.out; have p1 := cell_of_row _ _ 1 _ _ _ Y2.out; have p2 := frozen_of_row _ _ 0 _ _ Y2.out; have p3 := frozen_of_row _ _ 1 _ _ Y2.out; clear b3)
            refine bodyPost_ret (pd_out (e := 50) (a := (j : Int) + 2) (two_row (x := .int .i64 0) (y := .slice none 0 0) Y2.out) rfl rfl rfl) rfl ?_
            rw [FE.out]
            exact ⟨rfl, below_of_chg (((CH.out.trans C3.out).setCell (.inr (Nat.le_refl _)) _).setCell (.inr (Nat.le_refl _)) _)⟩
          · go_wp2_with (go_at_call 15; refine (rmay_at _ _ _ _ _ _ hm).mono ?_; rintro e w3 ⟨rfl, b3⟩; have B3 := Lib.hid b3; clear b3)
            go_roundw
            case rel =>
              refine ⟨j + 1, by go_num, by omega, (C2.out.alloc _).trans (Chg.of_below B3.out), fun q hq hqj => ?_⟩
              rcases Nat.lt_succ_iff_lt_or_eq.1 hqj with h5 | rfl
              · exact ALL.out q hq h5
              · rw [← HQ.out]; exact hm
            case measure => simp [intOf]; omega
        · obtain rfl : j = n := by omega
          have h' : ¬ (j : Int) < j := by omega
          have FE := Lib.hid (FG.out fun q hq => ALL.out q hq (by rw [HN.out]; exact hq))
          have p0 := cell_of_row _ _ 0 _ _ _ B2.out
          have p1 := cell_of_row _ _ 1 _ _ _ B2.out
          have p2 := frozen_of_row _ _ 0 _ _ B2.out
          have p3 := frozen_of_row _ _ 1 _ _ B2.out
          go_wp2
          refine bodyPost_ret (pd_out (e := 0) (a := 0) (two_row (x := .int .i64 tag) (y := .slice a j c) B2.out) rfl rfl rfl) rfl ?_
          rw [FE.out]
          refine ⟨_, rfl, ?_, ?_⟩
          · refine (((OW2.out.keep0 C2.out).keep (S := [w.heap.size]) (((Chg.refl _ _).setCell (.inl (by simp)) _).setCell (.inl (by simp)) _) fun q hq => ?_).mono (by omega))
            have := ((OW2.out.keep0 C2.out).blk q hq).1
            simp
            omega
          · exact below_of_chg (((CH.out.trans C2.out).setCell (.inr (Nat.le_refl _)) _).setCell (.inr (Nat.le_refl _)) _)

/-- The document's Parse. -/
theorem dcode_walk (s : ByteArray) (w : World) : Calls Tryz.prog 7 #[.string s] w (CodePost w (codeS s.data.toList)) := by
  unfold codeS
  split
  · exact dcode_long s w (by assumption)
  · exact dcode_from s w (by assumption)
end Go.Proofs.YtjlnhifleepnoaaGreatDoor
