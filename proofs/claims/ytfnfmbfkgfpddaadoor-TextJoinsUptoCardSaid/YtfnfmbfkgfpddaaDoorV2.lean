import Derived.Test.YtfnfmbfkgfpddaaDoorV1
import Derived.Test.YtfnfmbfkgfpddaaDoorW1
set_option linter.unusedVariables false
set_option linter.unusedSimpArgs false
namespace Go.Proofs.YtfnfmbfkgfpddaaDoor
open Go.RowKit

def HasSplit (s : ByteArray) (l : List ByteArray) (E : Int) : Prop := splitL s = l ∧ splitE s = E
theorem split_at (s : ByteArray) (w : World) (l : List ByteArray) (E : Int) (h : HasSplit s l E) : Calls Tryd.prog 23 #[.string s] w fun e w' => ∃ v, e = .returned (.tuple #[v, .int .i64 E]) ∧ RdS w' v l ∧ Chg [] w w' := by
  obtain ⟨rfl, rfl⟩ := h
  exact (split_walk s w).mono fun e w' ⟨v, h1, h2, h3⟩ => ⟨v, h1, h2.rd, h3⟩
theorem lines_at (t : ByteArray) (w : World) (m : List ByteArray) (k : Nat) (hk : m.length = k) (h : ∀ W, Calls Tryd.prog 26 #[.string t] W fun e w' => ∃ v, e = .returned v ∧ OwnS w' W.heap.size v m ∧ Chg [] W w') : Calls Tryd.prog 26 #[.string t] w fun e w' => ∃ a c, e = .returned (.slice a k c) ∧ RdS w' (.slice a k c) m ∧ Chg [] w w' := by
  subst hk
  exact (h w).mono fun e w' ⟨v, h1, h2, h3⟩ => by
    obtain ⟨a, c, rfl⟩ := h2.rd.slice
    exact ⟨a, c, h1, h2.rd, h3⟩
theorem RdS.head {w : World} {a : Option Addr} {n c : Nat} {l : List ByteArray} (h : RdS w (.slice a n c) l) (hn : 0 < n) (hl : l.length = n) : ∃ b off, a = some ⟨b, off, none⟩ ∧ ∀ i, i < n → w.cell? ⟨b, off + i, none⟩ = some (.string (l.getD i emp)) := by
  obtain ⟨b, off, c', h1, h2, h3⟩ := h.blk (by omega)
  simp only [Value.slice.injEq] at h1
  exact ⟨b, off, h1.1, fun i hi => h3 i (by omega)⟩
theorem jn_mono (l : List ByteArray) : ∀ k i, (jn l i).size ≤ (jn l (i + k)).size
  | 0, i => Nat.le_refl _
  | k + 1, i => by
    have h := jn_mono l k i
    have h2 : (jn l (i + k)).size ≤ (jn l (i + k + 1)).size := by
      rw [jn, size_app]
      split
      · rw [size_app]; omega
      · omega
    exact Nat.le_trans h h2
theorem al_mono (l : List ByteArray) : ∀ k i, (al l i).size ≤ (al l (i + k)).size
  | 0, i => Nat.le_refl _
  | k + 1, i => by
    have h := al_mono l k i
    have h2 : (al l (i + k)).size ≤ (al l (i + k + 1)).size := by
      rw [al, size_app, size_app]; omega
    exact Nat.le_trans h h2

theorem splits_facts (s : ByteArray) : (∀ x ∈ splitL s, Good x) ∧ (jn (splitL s) (splitL s).length).size ≤ 1024 ∧ HasSplit (jn (splitL s) (splitL s).length) (splitL s) 0 ∧ ((splitE s = 2 ∧ 1024 < s.size ∧ (splitL s).length = 0) ∨ (splitE s = 0 ∧ s.size ≤ 1024)) := by
  have hg : (∀ x ∈ splitL s, Good x) ∧ (jn (splitL s) (splitL s).length).size ≤ 1024 := by
    unfold splitL
    split
    · exact ⟨by simp, Nat.zero_le _⟩
    · have := words_good s
      exact ⟨this.1, by omega⟩
  refine ⟨hg.1, hg.2, ⟨?_, ?_⟩, ?_⟩
  · have e : ∀ x : ByteArray, x.size ≤ 1024 → splitL x = words x := fun x hx => by
      unfold splitL
      rw [if_neg (by omega)]
    rw [e _ hg.2, words_again _ hg.1]
  · unfold splitE
    rw [if_neg (by omega)]
  · unfold splitE splitL
    by_cases h : 1024 < s.size
    · simp [h]
    · right; simp [h]; omega

theorem byte_of_good {x : ByteArray} (h : Good x) {k : Nat} (hk : k < x.size) : ¬ (((x[k]'hk).toNat : Int) = 32) ∧ ¬ (((x[k]'hk).toNat : Int) = 9) := by
  have := h.2 k hk
  rw [bt_eq hk] at this
  unfold blank at this
  constructor <;> omega
theorem byte_of_nonl {x : ByteArray} (h : NoNl x) {k : Nat} (hk : k < x.size) : ¬ (((x[k]'hk).toNat : Int) = 10) := by
  have := h k hk
  rw [bt_eq hk] at this
  omega

set_option maxRecDepth 100000 in
set_option maxHeartbeats 2000000 in
theorem joins (w : World) (s t : ByteArray) (hs : s.size ≤ 1048576) (ht : t.size ≤ 1048576) (L : Laid w) : Calls Tryd.prog 10 #[.string s, .string t] w (Fine w) := by
  obtain ⟨G, Z, S2, HE⟩ := splits_facts s
  have S1 : HasSplit s (splitL s) (splitE s) := ⟨rfl, rfl⟩
  have ln := splitL_len s
  obtain ⟨l, hl⟩ : ∃ l, l = splitL s := ⟨_, rfl⟩
  obtain ⟨E, hE⟩ : ∃ n, n = splitE s := ⟨_, rfl⟩
  rw [← hl] at G Z S2 S1 ln HE
  rw [← hE] at S1 HE
  clear hl hE
  have PL := fun W => lines_walk t W (by omega)
  unfold LinesPost at PL
  obtain ⟨G2, BK⟩ := lines_back t
  obtain ⟨m, hm⟩ : ∃ l, l = lines t := ⟨_, rfl⟩
  have lm := lines_len t
  rw [← hm] at PL G2 BK lm
  clear hm
  obtain ⟨n, hn⟩ : ∃ n, l.length = n := ⟨_, rfl⟩
  rw [hn] at Z S2 ln HE
  have HN := Lib.hid hn
  have LD := Lib.hid L
  have GG := Lib.hid G
  have ZZ := Lib.hid Z
  have GG2 := Lib.hid G2
  have BBK := Lib.hid BK
  have HHE := Lib.hid HE
  clear L G Z G2 BK HE hn
  go_enter Tryd.func10, Tryd.ntmps10
  go_wp2_with (go_at_call 23; refine (split_at _ _ _ _ (by assumption)).mono ?_; rintro e w1 ⟨v1, rfl, r1, c1⟩; have C1 := Lib.hid c1; have R1 := Lib.hid r1; clear r1 c1)
  obtain ⟨a1, x1, rfl⟩ := R1.out.slice
  rw [HN.out] at R1
  rw [HN.out]
  go_loopw [7, 8, 9] (fun J f i wr => ∃ j : Nat, wr = w1 ∧ i = .int .i64 j ∧ f = .bool true ∧ J = .string (jn l j) ∧ j ≤ n) (fun _ _ i _ => n - (intOf i).toNat)
  case atStart => exact ⟨0, rfl, rfl, rfl, rfl, by omega⟩
  case round =>
    obtain ⟨j, rfl, rfl, rfl, rfl, hj⟩ := hrel
    by_cases h : j < n
    · have h' : (j : Int) < n := by omega
      obtain ⟨b, off, rfl, hc⟩ := R1.out.head (by omega) HN.out
      have c1 := hc j h
      obtain ⟨x, hx⟩ : ∃ x, x = l.getD j emp := ⟨_, rfl⟩
      have hgx : Good x := by
        have hj' : j < l.length := by have := HN.out; omega
        rw [hx]
        simp only [List.getD, List.getElem?_eq_getElem hj', Option.getD_some]
        exact GG.out _ (List.getElem_mem hj')
      have hjs : (jn l j).size + x.size ≤ 1024 := by
        have h1 := jn_mono l (n - (j + 1)) (j + 1)
        rw [show j + 1 + (n - (j + 1)) = n by omega, jn, size_app, ← hx] at h1
        have h2 := ZZ.out
        split at h1
        · rw [size_app] at h1; omega
        · omega
      have hj1 : jn l (j + 1) = (if 0 < j then jn l j ++ sp1 else jn l j) ++ x := by rw [jn, hx]
      rw [← hx] at c1
      have hx0 : x.toList.isEmpty = false := isEmpty_eq _ _ (decide_eq_false (by have := hgx.1; omega))
      have hx1 : ¬ x.toList = [] := fun e => by have := hgx.1; rw [(empty_iff x).1 e] at this; omega
      obtain ⟨J, hJ⟩ : ∃ J, J = jn l j := ⟨_, rfl⟩
      rw [← hJ] at hj1 hjs ⊢
      have HJ1 := Lib.hid hj1
      have GX := Lib.hid hgx
      clear hc hx hj1 hJ
      by_cases h0 : 0 < j
      · have h0' : (0 : Int) < j := by omega
        have hz1 : ¬ 9223372036854775807 < J.size + 1 := by omega
        have hz2 : ¬ 9223372036854775807 < (J ++ (⟨#[32]⟩ : ByteArray)).size + x.size := by rw [size_app]; show ¬ _ < J.size + 1 + x.size; omega
        go_wp2
        go_loopw [10, 11] (fun o kk wr2 => ∃ q : Nat, wr2 = wr ∧ o = .bool true ∧ kk = .int .i64 q ∧ q ≤ x.size) (fun _ kk _ => x.size - (intOf kk).toNat)
        case atStart => exact ⟨0, rfl, rfl, rfl, by omega⟩
        case round =>
          obtain ⟨q, rfl, rfl, rfl, hq⟩ := hrel
          by_cases hqx : q < x.size
          · have hqx' : (q : Int) < x.size := by omega
            obtain ⟨b1, b2⟩ := byte_of_good GX.out hqx
            go_wp2
            go_roundw
            case rel => exact ⟨q + 1, trivial, congrArg Value.bool (by simp [b1, b2]), by go_num, by omega⟩
            case measure => simp [intOf]; omega
          · obtain rfl : q = x.size := by omega
            go_wp2
            go_roundw
            case rel => exact ⟨j + 1, trivial, by go_num, rfl, by rw [HJ1.out, if_pos h0]; rfl, by omega⟩
            case measure => simp [intOf]; omega
      · have h0' : ¬ (0 : Int) < j := by omega
        have hz2 : ¬ 9223372036854775807 < J.size + x.size := by omega
        go_wp2
        go_loopw [10, 11] (fun o kk wr2 => ∃ q : Nat, wr2 = wr ∧ o = .bool true ∧ kk = .int .i64 q ∧ q ≤ x.size) (fun _ kk _ => x.size - (intOf kk).toNat)
        case atStart => exact ⟨0, rfl, rfl, rfl, by omega⟩
        case round =>
          obtain ⟨q, rfl, rfl, rfl, hq⟩ := hrel
          by_cases hqx : q < x.size
          · have hqx' : (q : Int) < x.size := by omega
            obtain ⟨b1, b2⟩ := byte_of_good GX.out hqx
            go_wp2
            go_roundw
            case rel => exact ⟨q + 1, trivial, congrArg Value.bool (by simp [b1, b2]), by go_num, by omega⟩
            case measure => simp [intOf]; omega
          · obtain rfl : q = x.size := by omega
            go_wp2
            go_roundw
            case rel => exact ⟨j + 1, trivial, by go_num, rfl, by rw [HJ1.out, if_neg h0], by omega⟩
            case measure => simp [intOf]; omega
    · obtain rfl : j = n := by omega
      have h' : ¬ (j : Int) < j := by omega
      obtain ⟨k, hk⟩ : ∃ k, m.length = k := ⟨_, rfl⟩
      have HK := Lib.hid hk
      rw [hk] at BBK lm
      have hal : (al m k).size ≤ t.size + 1 := by
        rcases BBK.out with h1 | ⟨h1, _⟩
        · rw [h1]; omega
        · rw [h1, size_app]; show t.size + 1 ≤ _; omega
      have ll : l.length ≤ 9223372036854775807 := by have := HN.out; omega
      have HAL := Lib.hid hal
      clear hal hk
      rcases HHE.out with ⟨rfl, hbig, rfl⟩ | ⟨rfl, hsm⟩
      all_goals try have hbig' : (1024 : Int) < s.size := by omega
      all_goals try have hsm' : (s.size : Int) ≤ 1024 := by omega
      all_goals
        clear HHE
        go_wp2_with (first | (go_at_call 23; refine (split_at _ _ _ _ (by assumption)).mono ?_; rintro e w3 ⟨v3, rfl, r3, c3⟩; have R1 := Lib.hid (R1.out.keep0 c3); have R3 := Lib.hid r3; have C1 := Lib.hid (C1.out.trans c3); clear r3 c3) | (go_at_call 25; refine (same_at2 _ _ v3 l R1.out R3.out ll).mono ?_; rintro e w4 ⟨rfl, q4, rfl⟩; have C1 := Lib.hid (C1.out.drewN q4)) | (go_at_call 26; refine (lines_at t _ m k HK.out PL).mono ?_; rintro e w5 ⟨a5, x5, rfl, r5, c5⟩; have R5 := Lib.hid r5; have C1 := Lib.hid (C1.out.trans c5); clear r5 c5))
        go_loopw [8, 15, 115] (fun f A i wr2 => ∃ q : Nat, wr2 = w5 ∧ f = .bool true ∧ A = .string (al m q) ∧ i = .int .i64 q ∧ q ≤ k) (fun _ _ i _ => k - (intOf i).toNat)
        case atStart => exact ⟨0, rfl, rfl, rfl, rfl, by omega⟩
        case round =>
          obtain ⟨q, rfl, rfl, rfl, rfl, hq⟩ := hrel
          by_cases hqk : q < k
          · have hqk' : (q : Int) < k := by omega
            obtain ⟨b, off, rfl, hc⟩ := R5.out.head (by omega) HK.out
            have c1 := hc q hqk
            obtain ⟨x, hx⟩ : ∃ x, x = m.getD q emp := ⟨_, rfl⟩
            have hgx : NoNl x := by
              have hj' : q < m.length := by have := HK.out; omega
              rw [hx]
              simp only [List.getD, List.getElem?_eq_getElem hj', Option.getD_some]
              exact GG2.out _ (List.getElem_mem hj')
            have hjs : (al m q).size + x.size + 1 ≤ t.size + 1 := by
              have h1 := al_mono m (k - (q + 1)) (q + 1)
              rw [show q + 1 + (k - (q + 1)) = k by omega, al, size_app, size_app, ← hx] at h1
              have h2 := HAL.out
              have h3 : nl1.size = 1 := rfl
              omega
            have hj1 : al m (q + 1) = al m q ++ x ++ nl1 := by rw [al, hx]
            rw [← hx] at c1
            obtain ⟨J, hJ⟩ : ∃ J, J = al m q := ⟨_, rfl⟩
            rw [← hJ] at hj1 hjs ⊢
            have HJ1 := Lib.hid hj1
            have GX := Lib.hid hgx
            clear hc hx hj1 hJ hgx
            have hz1 : ¬ 9223372036854775807 < J.size + x.size := by omega
            have hz2 : ¬ 9223372036854775807 < (J ++ x).size + 1 := by rw [size_app]; omega
            go_wp2
            go_loopw [8, 18] (fun f kk wr3 => ∃ r : Nat, wr3 = wr ∧ f = .bool true ∧ kk = .int .i64 r ∧ r ≤ x.size) (fun _ kk _ => x.size - (intOf kk).toNat)
            case atStart => exact ⟨0, rfl, rfl, rfl, by omega⟩
            case round =>
              obtain ⟨r, rfl, rfl, rfl, hr⟩ := hrel
              by_cases hrx : r < x.size
              · have hrx' : (r : Int) < x.size := by omega
                have b1 := byte_of_nonl GX.out hrx
                go_wp2
                go_roundw
                case rel => exact ⟨r + 1, trivial, congrArg Value.bool (by simp [b1]), by go_num, by omega⟩
                case measure => simp [intOf]; omega
              · obtain rfl : r = x.size := by omega
                go_wp2
                go_roundw
                case rel => exact ⟨q + 1, trivial, rfl, by rw [HJ1.out]; rfl, by go_num, by omega⟩
                case measure => simp [intOf]; omega
          · obtain rfl : q = k := by omega
            have hqk' : ¬ (q : Int) < q := by omega
            have hz3 : ¬ 9223372036854775807 < t.size + 1 := by omega
            rcases BBK.out with hb | ⟨hb, hb2⟩
            · rw [hb]
              have t9 : (t.toList == t.toList) = true := by simp
              go_wp2_with (go_at_call 16; refine (live_walk _ (LD.out.below (below_of_chg C1.out))).mono ?_; rintro e w7 ⟨rfl, b7⟩; have C7 := Lib.hid (C1.out.trans (Chg.of_below (S := []) b7)); clear b7)
              all_goals go_ret
              all_goals exact fine_of (below_of_chg C7.out)
            · rw [hb]
              have t8 : ((t ++ nl1).toList == t.toList) = false := by
                rw [beq_eq_false_iff_ne, ByteArray.toList_eq, ByteArray.toList_eq, tl_app]
                intro h
                have := congrArg List.length h
                simp [nl1] at this
              have t9 : ((t ++ nl1).toList == (t ++ nl1).toList) = true := by simp
              have k4 : t.toList.isEmpty = false := isEmpty_eq _ _ (decide_eq_false (by omega))
              have k5 : ¬ t.toList = [] := fun h => by have := (empty_iff t).1 h; omega
              unfold nl1 at t8 t9 ⊢
              go_wp2_with (go_at_call 16; refine (live_walk _ (LD.out.below (below_of_chg C1.out))).mono ?_; rintro e w7 ⟨rfl, b7⟩; have C7 := Lib.hid (C1.out.trans (Chg.of_below (S := []) b7)); clear b7)
              all_goals go_ret
              all_goals exact fine_of (below_of_chg C7.out)
end Go.Proofs.YtfnfmbfkgfpddaaDoor
