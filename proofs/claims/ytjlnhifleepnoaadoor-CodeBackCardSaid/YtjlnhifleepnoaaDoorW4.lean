import Derived.Test.YtjlnhifleepnoaaDoorU3
import Derived.Test.YtjlnhifleepnoaaDoorW2
import Derived.Test.YtjlnhifleepnoaaDoorO1
set_option linter.unusedVariables false
set_option linter.unusedSimpArgs false
namespace Go.Proofs.YtjlnhifleepnoaaDoor
open Go.RowKit

theorem loop_err : ∀ (f : Nat) (s : List UInt8) (k : Nat) (tag : Int) (l : List Ins) (x : Int × Int), readLoop f s k tag l = .error x → x.1 ≠ 0
  | 0, s, k, tag, l, x, h => by unfold readLoop at h; cases h
  | f + 1, s, k, tag, l, x, h => by
    unfold readLoop at h
    split at h
    · cases h
    split at h
    · cases h; simp
    split at h
    · cases h; simp
    split at h
    · split at h
      · exact loop_err f _ _ _ _ x h
      · cases h; simp
    split at h
    · exact loop_err f _ _ _ _ x h
    split at h
    · exact loop_err f _ _ _ _ x h
    · cases h; simp
theorem code_err {s : List UInt8} {x : Int × Int} (h : codeS s = .error x) : x.1 ≠ 0 := by
  unfold codeS at h
  split at h
  · cases h; simp
  · unfold readS at h
    cases hr : readLoop s.length s 0 0 [] with
    | error e => rw [hr] at h; cases h; exact loop_err _ _ _ _ _ _ hr
    | ok r =>
      rw [hr] at h
      simp only at h
      unfold readFin at h
      split at h
      · cases h; simp
      · split at h
        · cases h; simp
        · cases h
theorem print_size (tag : Int) (l : List Ins) (hok : okP tag l) (hx : ∀ p ∈ l, p.x < 18446744073709551616) : (printS tag l).length ≤ 65536 := by
  have h1 := tagS_len tag
  have h2 := lines_len l fun p hp => line_len p l.length (hx p hp) (hok.2.2.2 p hp) (by have := hok.2.2.1; omega)
  have h3 := hok.2.2.1
  simp only [printS, List.length_append, List.length_singleton]
  omega

set_option maxRecDepth 100000 in
set_option maxHeartbeats 16000000 in
theorem back_all (tag : Int) (a1 : Option Addr) (n1 c1 : Nat) (l : List Ins) (s : List UInt8) (w : World) (L : Laid2 w) (h1 : RdC w (.slice a1 n1 c1) l) (hx : ∀ p ∈ l, p.x < 18446744073709551616) (hb : l.length * 24 ≤ 140737488351232) :
    Calls Tryd.prog 6 #[.agg #[.int .i64 tag, .slice a1 n1 c1], .string (S s)] w fun e w' => e = .returned (.bool true) ∧ Below w.heap.size w w' := by
  have LD := Lib.hid L
  have RD := Lib.hid h1
  obtain ⟨e1, he1⟩ : ∃ e, e = checkS tag l := ⟨_, rfl⟩
  obtain ⟨t, ht⟩ : ∃ t, t = if okP tag l then printS tag l else [] := ⟨_, rfl⟩
  have CP : ∀ W, Laid2 W → RdC W (.slice a1 n1 c1) l → Calls Tryd.prog 11 #[.agg #[.int .i64 tag, .slice a1 n1 c1]] W fun e w' => e = .returned (.tuple #[.string (S t), .int .i64 e1]) ∧ Below W.heap.size W w' := fun W L h => by
    rw [he1, ht]; exact cprint_walk tag _ l W L.laid h hx
  have CK : ∀ W, RdC W (.slice a1 n1 c1) l → Calls Tryd.prog 14 #[.agg #[.int .i64 tag, .slice a1 n1 c1]] W fun e w' => e = .returned (.int .i64 e1) ∧ Below W.heap.size W w' := fun W h => he1 ▸ check_walk tag _ l W h
  have CC := fun W L => code_walk s W L
  clear L h1
  cases hc : codeS s with
  | error x =>
    obtain ⟨c, n⟩ := x
    have hc0 : ¬ c = 0 := code_err hc
    have hc1 : (c == 0) = false := by simpa using hc0
    rw [hc] at CC
    clear hc
    by_cases hok : okP tag l
    · obtain ⟨l', hr, sm⟩ := read_print tag l hok hx
      have SM := Lib.hid sm
      have hsz := print_size tag l hok hx
      rw [if_pos hok] at ht
      rw [show checkS tag l = 0 by unfold checkS; rw [if_pos hok]] at he1
      have CT := fun W L => code_walk t W L
      rw [show codeS t = .ok (tag, l') by unfold codeS; rw [ht, if_neg (by omega)]; exact hr] at CT
      have hlt : ((S t).size : Int) ≤ 65536 := by rw [S_size, ht]; omega
      have hmax : l.length ≤ 9223372036854775807 := by omega
      subst he1
      clear ht hok hr sm hsz
      go_enter Tryd.func6, Tryd.ntmps6
      go_wp2_with (first
    | (go_at_call 7; refine (live_walk _ (LD.out.below (below_of_chg ((Chg.refl _ _).alloc _)))).mono ?_; rintro e w1 ⟨rfl, b1⟩; have C1 := Lib.hid (((Chg.refl [] w).alloc _).trans (Chg.of_below b1)); have ZP1 := Lib.hid (zrow (Chg.of_below (S := []) b1) (heap_alloc_new w (.cells #[.int .i64 tag, .slice a1 n1 c1] 29))); obtain ⟨xp0, xp1, xp2, xp3⟩ := row2 ZP1.out; clear b1)
    | (go_at_call 11; first
      | (refine (CP _ (LD.out.below (below_of_chg C1.out)) (RD.out.keep0 C1.out)).mono ?_; rintro e w2 ⟨rfl, b2⟩; have K2 := Lib.hid ((Chg.refl [] _).trans (Chg.of_below (S := []) b2) : Chg [] w1 w2); have C2 := Lib.hid (C1.out.trans K2.out); have ZP2 := Lib.hid (zrow K2.out ZP1.out); obtain ⟨xp0, xp1, xp2, xp3⟩ := row2 ZP2.out; clear b2))
    | (go_at_call 14; first
      | (refine (CK _ (RD.out.keep0 C2.out)).mono ?_; rintro e w3 ⟨rfl, b3⟩; have K3 := Lib.hid ((Chg.refl [] _).trans (Chg.of_below (S := []) b3) : Chg [] w2 w3); have C3 := Lib.hid (C2.out.trans K3.out); have ZP3 := Lib.hid (zrow K3.out ZP2.out); obtain ⟨xp0, xp1, xp2, xp3⟩ := row2 ZP3.out; clear b3))
    | (go_at_call 18; first
      | (have _t := C5
         refine (CC _ (LD.out.below (below_of_chg C5.out))).mono ?_; rintro e w6 ⟨rfl, b6⟩; have C6 := Lib.hid (C5.out.trans (Chg.of_below (S := []) b6)); clear b6)
      | (refine (CT _ (LD.out.below (below_of_chg C3.out))).mono ?_; rintro e w4 ⟨v4, rfl, o4, b4⟩; obtain ⟨a2, c2, rfl⟩ := o4.form; have O4 := Lib.hid o4; clear o4; have K4 := Lib.hid ((Chg.refl [] _).trans (Chg.of_below (S := []) b4) : Chg [] w3 w4); have C4 := Lib.hid (C3.out.trans K4.out); have ZP4 := Lib.hid (zrow K4.out ZP3.out); obtain ⟨xp0, xp1, xp2, xp3⟩ := row2 ZP4.out; clear b4))
    | (go_at_call 15; refine (csame_walk tag tag _ _ l l' _ true (RD.out.keep0 (C4.out.alloc _)) (O4.out.keep0 ((Chg.refl [] _).alloc _)).rd hmax ⟨fun _ => SM.out, fun _ => rfl⟩).mono ?_; rintro e w5 ⟨rfl, b5⟩; have K5 := Lib.hid (((Chg.refl [] _).alloc _).trans (Chg.of_below (S := []) b5) : Chg [] w4 w5); have C5 := Lib.hid (C4.out.trans K5.out); clear b5))
      go_ret
      exact ⟨rfl, below_of_chg (C6.out.alloc _)⟩
    · rw [show checkS tag l = 50 by unfold checkS; rw [if_neg hok]] at he1
      subst he1
      clear ht hok
      go_enter Tryd.func6, Tryd.ntmps6
      go_wp2_with (first
    | (go_at_call 7; refine (live_walk _ (LD.out.below (below_of_chg ((Chg.refl _ _).alloc _)))).mono ?_; rintro e w1 ⟨rfl, b1⟩; have C1 := Lib.hid (((Chg.refl [] w).alloc _).trans (Chg.of_below b1)); have ZP1 := Lib.hid (zrow (Chg.of_below (S := []) b1) (heap_alloc_new w (.cells #[.int .i64 tag, .slice a1 n1 c1] 29))); obtain ⟨xp0, xp1, xp2, xp3⟩ := row2 ZP1.out; clear b1)
    | (go_at_call 11; first
      | (refine (CP _ (LD.out.below (below_of_chg C1.out)) (RD.out.keep0 C1.out)).mono ?_; rintro e w2 ⟨rfl, b2⟩; have K2 := Lib.hid ((Chg.refl [] _).trans (Chg.of_below (S := []) b2) : Chg [] w1 w2); have C2 := Lib.hid (C1.out.trans K2.out); have ZP2 := Lib.hid (zrow K2.out ZP1.out); obtain ⟨xp0, xp1, xp2, xp3⟩ := row2 ZP2.out; clear b2))
    | (go_at_call 14; first
      | (refine (CK _ (RD.out.keep0 C2.out)).mono ?_; rintro e w3 ⟨rfl, b3⟩; have K3 := Lib.hid ((Chg.refl [] _).trans (Chg.of_below (S := []) b3) : Chg [] w2 w3); have C3 := Lib.hid (C2.out.trans K3.out); have ZP3 := Lib.hid (zrow K3.out ZP2.out); obtain ⟨xp0, xp1, xp2, xp3⟩ := row2 ZP3.out; clear b3))
    | (go_at_call 18; refine (CC _ (LD.out.below (below_of_chg C3.out))).mono ?_; rintro e w6 ⟨rfl, b6⟩; have C6 := Lib.hid (C3.out.trans (Chg.of_below (S := []) b6)); clear b6))
      go_ret
      exact ⟨rfl, below_of_chg (C6.out.alloc _)⟩
  | ok x =>
    obtain ⟨tag2, l2⟩ := x
    have hrs : readS s = .ok (tag2, l2) := by
      unfold codeS at hc
      split at hc
      · cases hc
      · exact hc
    obtain ⟨ok2, pr2, hx2⟩ := read_back hrs
    have CQ : ∀ W, Laid2 W → ∀ {a3 : Option Addr} {c3 : Nat}, RdC W (.slice a3 l2.length c3) l2 → Calls Tryd.prog 11 #[.agg #[.int .i64 tag2, .slice a3 l2.length c3]] W fun e w' => e = .returned (.tuple #[.string (S s), .int .i64 0]) ∧ Below W.heap.size W w' := fun W L a3 c3 h => by
      have := cprint_walk tag2 _ l2 W L.laid h hx2
      rwa [if_pos ok2, pr2, show checkS tag2 l2 = 0 by unfold checkS; rw [if_pos ok2]] at this
    have CR : ∀ W, ∀ {a3 : Option Addr} {c3 : Nat}, RdC W (.slice a3 l2.length c3) l2 → Calls Tryd.prog 14 #[.agg #[.int .i64 tag2, .slice a3 l2.length c3]] W fun e w' => e = .returned (.int .i64 0) ∧ Below W.heap.size W w' := fun W a3 c3 h => by
      have := check_walk tag2 _ l2 W h
      rwa [show checkS tag2 l2 = 0 by unfold checkS; rw [if_pos ok2]] at this
    rw [hc] at CC
    clear hc hrs ok2 pr2 hx2
    by_cases hok : okP tag l
    · obtain ⟨l', hr, sm⟩ := read_print tag l hok hx
      have SM := Lib.hid sm
      have hsz := print_size tag l hok hx
      rw [if_pos hok] at ht
      rw [show checkS tag l = 0 by unfold checkS; rw [if_pos hok]] at he1
      have CT := fun W L => code_walk t W L
      rw [show codeS t = .ok (tag, l') by unfold codeS; rw [ht, if_neg (by omega)]; exact hr] at CT
      have hlt : ((S t).size : Int) ≤ 65536 := by rw [S_size, ht]; omega
      have hmax : l.length ≤ 9223372036854775807 := by omega
      subst he1
      clear ht hok hr sm hsz
      go_enter Tryd.func6, Tryd.ntmps6
      go_wp2_with (first
    | (go_at_call 7; refine (live_walk _ (LD.out.below (below_of_chg ((Chg.refl _ _).alloc _)))).mono ?_; rintro e w1 ⟨rfl, b1⟩; have C1 := Lib.hid (((Chg.refl [] w).alloc _).trans (Chg.of_below b1)); have ZP1 := Lib.hid (zrow (Chg.of_below (S := []) b1) (heap_alloc_new w (.cells #[.int .i64 tag, .slice a1 n1 c1] 29))); obtain ⟨xp0, xp1, xp2, xp3⟩ := row2 ZP1.out; clear b1)
    | (go_at_call 11; first
      | (have _t := C6
         refine (CQ _ (LD.out.below (below_of_chg (C6.out.alloc _))) (O6.out.keep0 ((Chg.refl [] _).alloc _)).rd).mono ?_; rintro e w7 ⟨rfl, b7⟩; have K7 := Lib.hid (((Chg.refl [] _).alloc _).trans (Chg.of_below (S := []) b7) : Chg [] w6 w7); have C7 := Lib.hid (C6.out.trans K7.out); have ZQ7 := Lib.hid (zrow (Chg.of_below (S := []) b7) (heap_alloc_new w6 (.cells #[.int .i64 tag2, .slice a3 l2.length c3] 29))); obtain ⟨xq0, xq1, xq2, xq3⟩ := row2 ZQ7.out; clear b7; have O7 := Lib.hid (O6.out.keep0 K7.out))
      | (refine (CP _ (LD.out.below (below_of_chg C1.out)) (RD.out.keep0 C1.out)).mono ?_; rintro e w2 ⟨rfl, b2⟩; have K2 := Lib.hid ((Chg.refl [] _).trans (Chg.of_below (S := []) b2) : Chg [] w1 w2); have C2 := Lib.hid (C1.out.trans K2.out); have ZP2 := Lib.hid (zrow K2.out ZP1.out); obtain ⟨xp0, xp1, xp2, xp3⟩ := row2 ZP2.out; clear b2))
    | (go_at_call 14; first
      | (have _t := C7
         refine (CR _ (O7.out.rd)).mono ?_; rintro e w8 ⟨rfl, b8⟩; have C8 := Lib.hid (C7.out.trans (Chg.of_below b8)); clear b8)
      | (refine (CK _ (RD.out.keep0 C2.out)).mono ?_; rintro e w3 ⟨rfl, b3⟩; have K3 := Lib.hid ((Chg.refl [] _).trans (Chg.of_below (S := []) b3) : Chg [] w2 w3); have C3 := Lib.hid (C2.out.trans K3.out); have ZP3 := Lib.hid (zrow K3.out ZP2.out); obtain ⟨xp0, xp1, xp2, xp3⟩ := row2 ZP3.out; clear b3))
    | (go_at_call 18; first
      | (have _t := C5
         refine (CC _ (LD.out.below (below_of_chg C5.out))).mono ?_; rintro e w6 ⟨v6, rfl, o6, b6⟩; obtain ⟨a3, c3, rfl⟩ := o6.form; have O6 := Lib.hid o6; clear o6; have C6 := Lib.hid (C5.out.trans (Chg.of_below (S := []) b6)); clear b6)
      | (refine (CT _ (LD.out.below (below_of_chg C3.out))).mono ?_; rintro e w4 ⟨v4, rfl, o4, b4⟩; obtain ⟨a2, c2, rfl⟩ := o4.form; have O4 := Lib.hid o4; clear o4; have K4 := Lib.hid ((Chg.refl [] _).trans (Chg.of_below (S := []) b4) : Chg [] w3 w4); have C4 := Lib.hid (C3.out.trans K4.out); have ZP4 := Lib.hid (zrow K4.out ZP3.out); obtain ⟨xp0, xp1, xp2, xp3⟩ := row2 ZP4.out; clear b4))
    | (go_at_call 15; refine (csame_walk tag tag _ _ l l' _ true (RD.out.keep0 (C4.out.alloc _)) (O4.out.keep0 ((Chg.refl [] _).alloc _)).rd hmax ⟨fun _ => SM.out, fun _ => rfl⟩).mono ?_; rintro e w5 ⟨rfl, b5⟩; have K5 := Lib.hid (((Chg.refl [] _).alloc _).trans (Chg.of_below (S := []) b5) : Chg [] w4 w5); have C5 := Lib.hid (C4.out.trans K5.out); clear b5))
      go_ret
      exact ⟨rfl, below_of_chg C8.out⟩
    · rw [show checkS tag l = 50 by unfold checkS; rw [if_neg hok]] at he1
      subst he1
      clear ht hok
      go_enter Tryd.func6, Tryd.ntmps6
      go_wp2_with (first
    | (go_at_call 7; refine (live_walk _ (LD.out.below (below_of_chg ((Chg.refl _ _).alloc _)))).mono ?_; rintro e w1 ⟨rfl, b1⟩; have C1 := Lib.hid (((Chg.refl [] w).alloc _).trans (Chg.of_below b1)); have ZP1 := Lib.hid (zrow (Chg.of_below (S := []) b1) (heap_alloc_new w (.cells #[.int .i64 tag, .slice a1 n1 c1] 29))); obtain ⟨xp0, xp1, xp2, xp3⟩ := row2 ZP1.out; clear b1)
    | (go_at_call 11; first
      | (have _t := C6
         refine (CQ _ (LD.out.below (below_of_chg (C6.out.alloc _))) (O6.out.keep0 ((Chg.refl [] _).alloc _)).rd).mono ?_; rintro e w7 ⟨rfl, b7⟩; have K7 := Lib.hid (((Chg.refl [] _).alloc _).trans (Chg.of_below (S := []) b7) : Chg [] w6 w7); have C7 := Lib.hid (C6.out.trans K7.out); have ZQ7 := Lib.hid (zrow (Chg.of_below (S := []) b7) (heap_alloc_new w6 (.cells #[.int .i64 tag2, .slice a3 l2.length c3] 29))); obtain ⟨xq0, xq1, xq2, xq3⟩ := row2 ZQ7.out; clear b7; have O7 := Lib.hid (O6.out.keep0 K7.out))
      | (refine (CP _ (LD.out.below (below_of_chg C1.out)) (RD.out.keep0 C1.out)).mono ?_; rintro e w2 ⟨rfl, b2⟩; have K2 := Lib.hid ((Chg.refl [] _).trans (Chg.of_below (S := []) b2) : Chg [] w1 w2); have C2 := Lib.hid (C1.out.trans K2.out); have ZP2 := Lib.hid (zrow K2.out ZP1.out); obtain ⟨xp0, xp1, xp2, xp3⟩ := row2 ZP2.out; clear b2))
    | (go_at_call 14; first
      | (have _t := C7
         refine (CR _ (O7.out.rd)).mono ?_; rintro e w8 ⟨rfl, b8⟩; have C8 := Lib.hid (C7.out.trans (Chg.of_below b8)); clear b8)
      | (refine (CK _ (RD.out.keep0 C2.out)).mono ?_; rintro e w3 ⟨rfl, b3⟩; have K3 := Lib.hid ((Chg.refl [] _).trans (Chg.of_below (S := []) b3) : Chg [] w2 w3); have C3 := Lib.hid (C2.out.trans K3.out); have ZP3 := Lib.hid (zrow K3.out ZP2.out); obtain ⟨xp0, xp1, xp2, xp3⟩ := row2 ZP3.out; clear b3))
    | (go_at_call 18; refine (CC _ (LD.out.below (below_of_chg C3.out))).mono ?_; rintro e w6 ⟨v6, rfl, o6, b6⟩; obtain ⟨a3, c3, rfl⟩ := o6.form; have O6 := Lib.hid o6; clear o6; have C6 := Lib.hid (C3.out.trans (Chg.of_below (S := []) b6)); clear b6))
      go_ret
      exact ⟨rfl, below_of_chg C8.out⟩

theorem back (v : Value) (b : ByteArray) (w : World) (L : Laid2 w) (i : InProg w v) (_hs : b.size ≤ 281474976710656) : Calls Tryd.prog 6 #[v, .string b] w fun e w' => e = .returned (.bool true) ∧ Below w.heap.size w w' := by
  obtain ⟨t1, s1, l1, rfl, r1, hx, hb⟩ := i
  obtain ⟨a1, c1, rfl⟩ := r1.slice
  have e : b = S b.data.toList := by simp [S]
  rw [e]
  exact back_all t1 a1 _ c1 l1 _ w L r1 hx hb
end Go.Proofs.YtjlnhifleepnoaaDoor
