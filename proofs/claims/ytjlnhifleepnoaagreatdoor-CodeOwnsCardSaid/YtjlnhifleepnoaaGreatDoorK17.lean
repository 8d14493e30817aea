import Derived.Test.YtjlnhifleepnoaaGreatDoorK16
import Derived.Deep.RegionLaw
set_option linter.unusedVariables false
set_option linter.unusedSimpArgs false
namespace Go.Proofs.YtjlnhifleepnoaaGreatDoor
open Go.RowKit

def finR : Except (Int × Int) (Nat × Int × List Ins) → Except (Int × Int) (Int × List Ins)
  | .error e => .error e
  | .ok r => readFin r.1 r.2.1 r.2.2
theorem readS_eq (s : List UInt8) : readS s = finR (readLoop s.length s 0 0 []) := by
  unfold readS finR
  split <;> simp_all

/-- A region whose ends are all panics. -/
def POnly (R : List PanicEntry → World → Prop) : Exit → Act → World → Prop
  | .panic c, a, w => a.defers = [] ∧ R c w
  | _, _, _ => False
theorem wp_region_panics {P : Program} {id : Nat} {ops : Array Oper} {b : Bool} {Q : Exit → Act → World → Prop} {a : Act} {w : World} (R : List PanicEntry → World → Prop) (hR : ∀ c (a : Act) w, a.defers = [] → R c w → Q (.panic c) a w) (h : (Code.region id ops b).wp P (POnly R) a w) : (Code.region id ops b).wp P Q a w :=
  Code.wp_mono (fun e a w h => by cases e <;> first | exact hR _ _ _ h.1 h.2 | exact (h : False).elim) h

theorem cut_le (s : List UInt8) : (Lib.cut s [10]).1.length ≤ s.length := by
  unfold Lib.cut
  split
  · simp only [List.length_take]; omega
  · simp
theorem own_put {W : World} {B g cap : Nat} {op n : Int} {x : Nat} {l : List Ins} {u : Value} (h : W.ownsRow (B + 2) 33 3 (.slice (some ⟨g, 0, none⟩) (l.length + 1) cap) (l.length + 1) (flat l ++ [.int .i64 op, .int .i64 n, .float .f64 x])) :
    OwnC (W.setCell ⟨B + 1, 1, none⟩ u) (B + 2) (.slice (some ⟨g, 0, none⟩) (l.length + 1) cap) (l ++ [⟨op, n, x⟩]) := by
  have h0 : OwnC W (B + 2) (.slice (some ⟨g, 0, none⟩) (l.length + 1) cap) (l ++ [⟨op, n, x⟩]) := by
    unfold OwnC
    rw [flat_app, List.length_append]
    exact h
  refine h0.keep (S := [B + 1]) ((Chg.refl _ _).setCell (.inl (by simp)) _) fun k hk => ?_
  have := (h0.blk k hk).1
  simp
  omega

def lenOf : Value → Nat
  | .string b => b.size
  | _ => 0

set_option maxRecDepth 100000 in
set_option maxHeartbeats 4000000 in
theorem read_walk (s : List UInt8) (w : World) (L : Laid2 w) (hs : s.length < 4294967281) : Calls Tryz.prog 13 #[.string (S s)] w (ReadPost w (readS s)) := by
  rw [readS_eq]
  obtain ⟨R, hR⟩ : ∃ R, R = readLoop s.length s 0 0 [] := ⟨_, rfl⟩
  have HR := Lib.hid hR
  rw [← hR]
  have LD := Lib.hid L
  clear hR L
  have CW : ∀ sl : List UInt8, sl.length < 4294967281 → ∀ W, Laid2 W → Calls Tryz.prog 23 #[.string (S sl), .string ⟨#[10]⟩] W fun e w' => e = .returned (.tuple #[.string (S (Lib.cut sl [10]).1), .string (S (Lib.cut sl [10]).2.1), .bool (Lib.cut sl [10]).2.2]) ∧ Below W.heap.size W w' := fun sl hl W l => by
    have h := cut_walk (S sl) ⟨#[10]⟩ W l (by rw [S_size]; exact hl)
    rwa [show (⟨#[10]⟩ : ByteArray).toList = [10] by rw [ByteArray.toList_eq], show (S sl).toList = sl by simp [S]] at h
  go_enter Tryz.func13, Tryz.ntmps13
  go_wp2
  go_loopw [0, 4] (fun x n wr => ∃ (sl : List UInt8) (k f : Nat) (tag : Int) (v : Value) (l : List Ins), x = .string (S sl) ∧ n = .int .i64 k ∧ k ≤ 1025 ∧ sl.length ≤ f ∧ sl.length < 4294967281 ∧ readLoop f sl k tag l = R ∧ l.length ≤ k ∧
      wr.heap[w.heap.size]? = some (.cells #[.int .i64 0, .slice none 0 0] 25 (0, 0)) ∧ wr.heap[w.heap.size + 1]? = some (.cells #[.int .i64 tag, v] 25 (0, 0)) ∧ OwnC wr (w.heap.size + 2) v l ∧ Chg [] w wr) (fun x _ _ => lenOf x)
  case atStart =>
    refine ⟨s, 0, s.length, 0, .slice none 0 0, [], rfl, rfl, by omega, Nat.le_refl _, hs, HR.out.symm, Nat.le_refl _, ?_, ?_, OwnC.nil _ _, ((Chg.refl _ _).alloc _).alloc _⟩
    · rw [Below.heap_alloc _ _ _ (by simp)]; exact heap_alloc_new _ _
    · simpa using heap_alloc_new (w.alloc (.cells #[.int .i64 0, .slice none 0 0] 25)) (.cells #[.int .i64 0, .slice none 0 0] 25)
  case round =>
    obtain ⟨sl, k, f, tag, v, l, rfl, rfl, hk25, hf, hsl, hloop, hlk, hz1, hz2, hown, hchg⟩ := hrel
    have Z1 := Lib.hid hz1
    have Z2 := Lib.hid hz2
    have OW := Lib.hid hown
    have CH := Lib.hid hchg
    have LO := Lib.hid hloop
    clear HR
    have CW1 := CW sl hsl
    clear hz1 hz2 hown hchg hloop CW
    by_cases hnil : sl = []
    · subst hnil
      have RR := Lib.hid (show R = .ok (k, tag, l) from by rw [← LO.out, loop_nil])
      clear LO CW1 hf hsl
      have hb : (S []).toList.isEmpty = true := by simp [S]
      obtain ⟨a, c, rfl⟩ := OW.out.form
      have y0 := cell_of_row _ _ 0 _ _ _ Z2.out
      have y1 := cell_of_row _ _ 1 _ _ _ Z2.out
      by_cases hl : l = []
      · have FR := Lib.hid (show finR R = .error (20, (k : Int) + 1) from by rw [RR.out]; show readFin k tag l = _; unfold readFin; rw [if_pos hl])
        subst hl
        go_wp2
        refine ⟨rfl, ?_⟩
        rw [FR.out]
        exact ⟨rfl, below_of_chg CH.out⟩
      obtain ⟨n, hn⟩ : ∃ n, n = l.length := ⟨_, rfl⟩
      have hn0 : 0 < n := by rw [hn]; exact List.length_pos_iff.2 hl
      have h4 : ((n : Int) == 0) = false := by simp; omega
      have HN := Lib.hid hn
      have RL := Lib.hid (OW.out.rd)
      rw [← hn] at Z2 y1
      have RL2 := Lib.hid (show RdC wr (.slice a n c) l from by rw [hn]; exact RL.out)
      have OW2 := Lib.hid (show OwnC wr (w.heap.size + 2) (.slice a n c) l from by rw [hn]; exact OW.out)
      have FG := Lib.hid (show (∀ j (hj : j < l.length), mayS l[j] n = true) → finR R = .ok (tag, l) from fun h => by
        rw [RR.out]; show readFin k tag l = _; unfold readFin; rw [if_neg hl]; rw [← hn, badAt_none l 0 h])
      have FB := Lib.hid (show ∀ j (hj : j < l.length), (∀ q (hq : q < l.length), q < j → mayS l[q] n = true) → mayS l[j] n = false → finR R = .error (50, (j : Int) + 2) from fun j hj h1 h2 => by
        rw [RR.out]; show readFin k tag l = _; unfold readFin; rw [if_neg hl]; rw [← hn, badAt_some l 0 j hj h1 h2, Nat.zero_add])
      have hz1 := Z1.out
      have L1 := lt_of_heap Z1.out
      have L2 := lt_of_heap Z2.out
      clear hn hl RR OW RL
      have sf := run_store_float
      go_wp2
      go_loopw [68] (fun i w2 => ∃ j : Nat, i = .int .i64 j ∧ j ≤ n ∧ Chg [] wr w2 ∧ ∀ q (hq : q < l.length), q < j → mayS l[q] n = true) (fun i _ => n - (intOf i).toNat)
      case atStart => exact ⟨0, rfl, by omega, Chg.refl _ _, fun q _ h => by omega⟩
      case round =>
        obtain ⟨j, rfl, hj, hc2, hall⟩ := hrel
        have C2 := Lib.hid hc2
        have ALL := Lib.hid hall
        have X1 := zrow hc2 Z1.out
        have X2 := zrow hc2 Z2.out
        have B1 := Lib.hid X1
        have B2 := Lib.hid X2
        clear hc2 hall y0 y1
        have x0 := cell_of_row _ _ 0 _ _ _ B2.out
        have x1 := cell_of_row _ _ 1 _ _ _ B2.out
        have x1a := fun o : Obj => (World.cell?_alloc_some _ _ o (by rw [x1]; rfl)).trans x1
        by_cases h : j < n
        · have h' : (j : Int) < n := by omega
          have hjl : j < l.length := by have := HN.out; omega
          obtain ⟨b, off, rfl, -, c0, c1, c2⟩ := (RL2.out.keep0 C2.out).at hjl
          obtain ⟨q, hq⟩ : ∃ q, q = l[j] := ⟨_, rfl⟩
          rw [← hq] at c0 c1 c2
          have HQ := Lib.hid hq
          clear hq
          obtain ⟨op, nn, x⟩ := q
          simp only at c0 c1 c2
          cases hm : mayS ⟨op, nn, x⟩ n
          · have FE := Lib.hid (FB.out j hjl ALL.out (by rw [← HQ.out]; exact hm))
            go_wp2_with (go_at_call 22; refine (may_at _ _ _ _ _ _ hm).mono ?_; rintro e w3 ⟨rfl, b3⟩; have B3 := Lib.hid b3; clear b3)
            refine ⟨rfl, ?_⟩
            rw [FE.out]
            exact ⟨rfl, below_of_chg ((CH.out.trans (C2.out.alloc _)).trans (Chg.of_below B3.out))⟩
          · go_wp2_with (go_at_call 22; refine (may_at _ _ _ _ _ _ hm).mono ?_; rintro e w3 ⟨rfl, b3⟩; have B3 := Lib.hid b3; clear b3)
            go_roundw
            case rel =>
              refine ⟨j + 1, by go_num, by omega, (C2.out.alloc _).trans (Chg.of_below B3.out), fun q hq hqj => ?_⟩
              rcases Nat.lt_succ_iff_lt_or_eq.1 hqj with h5 | rfl
              · exact ALL.out q hq h5
              · rw [← HQ.out]; exact hm
            case measure => simp [intOf]; omega
        · obtain rfl : j = n := by omega
          have h' : ¬ (j : Int) < j := by omega
          have FE := Lib.hid (FG.out fun q hq => ALL.out q hq (by rw [HN.out]; exact hq))
          have u0 := frozen_of_row _ _ 0 _ _ B1.out
          have u1 := frozen_of_row _ _ 1 _ _ B1.out
          have v0 := cell_of_row _ _ 0 _ _ _ B1.out
          have v1 := cell_of_row _ _ 1 _ _ _ B1.out
          go_wp2
          have R2 := heap_put (heap_put B1.out (i := 0) (v := .int .i64 tag) (cs' := #[.int .i64 tag, .slice none 0 0]) rfl) (i := 1) (v := .slice a j c) (cs' := #[.int .i64 tag, .slice a j c]) rfl
          refine bodyPost_ret (results_cell_row (p := 2) (ty := 25) (by kernel_rfl) _ _ w.heap.size 25 _ (0, 0) _ rfl R2 Tryz.underlying25 rfl (by kernel_rfl)) rfl ?_
          rw [FE.out]
          refine ⟨_, rfl, ?_, ?_⟩
          · refine (((OW2.out.keep0 C2.out).keep (S := [w.heap.size]) (((Chg.refl _ _).setCell (.inl (by simp)) _).setCell (.inl (by simp)) _) fun q hq => ?_).mono (by omega))
            have := ((OW2.out.keep0 C2.out).blk q hq).1
            simp
            omega
          · exact below_of_chg (((CH.out.trans C2.out).setCell (.inr (Nat.le_refl _)) _).setCell (.inr (Nat.le_refl _)) _)
    have hb : (S sl).toList.isEmpty = false := by simpa [S] using hnil
    obtain ⟨ln, hln⟩ : ∃ x, x = (Lib.cut sl [10]).1 := ⟨_, rfl⟩
    obtain ⟨rs, hrs⟩ : ∃ x, x = (Lib.cut sl [10]).2.1 := ⟨_, rfl⟩
    obtain ⟨en, hen⟩ : ∃ x, x = (Lib.cut sl [10]).2.2 := ⟨_, rfl⟩
    rw [← hln, ← hrs, ← hen] at CW1
    by_cases hk : 1025 < k + 1
    · have hk' : (1025 : Int) < (k : Int) + 1 := by omega
      have RR := Lib.hid (show R = .error (50, (k : Int) + 1) from by rw [← LO.out, loop_long hnil hf hk])
      clear LO hnil hln hrs hen hk
      go_wp2_with (first | (go_at_call 23; refine (CW1 _ (LD.out.below (below_of_chg CH.out))).mono ?_; rintro e w1 ⟨rfl, b1⟩; have C1 := Lib.hid (CH.out.trans (Chg.of_below b1)); have Y1 := Lib.hid (zrow (Chg.of_below b1) Z1.out); have Y2 := Lib.hid (zrow (Chg.of_below b1) Z2.out); have O1 := Lib.hid (OW.out.keep0 (Chg.of_below b1)); clear b1))
      refine ⟨rfl, ?_⟩
      rw [RR.out]
      exact ⟨rfl, below_of_chg C1.out⟩
    have hk' : ¬ (1025 : Int) < (k : Int) + 1 := by omega
    cases en
    · have RR := Lib.hid (show R = .error (20, (k : Int) + 1) from by rw [← LO.out, loop_open hnil hf hk hen.symm])
      clear LO hnil hln hrs hen hk
      go_wp2_with (first | (go_at_call 23; refine (CW1 _ (LD.out.below (below_of_chg CH.out))).mono ?_; rintro e w1 ⟨rfl, b1⟩; have C1 := Lib.hid (CH.out.trans (Chg.of_below b1)); have Y1 := Lib.hid (zrow (Chg.of_below b1) Z1.out); have Y2 := Lib.hid (zrow (Chg.of_below b1) Z2.out); have O1 := Lib.hid (OW.out.keep0 (Chg.of_below b1)); clear b1))
      refine ⟨rfl, ?_⟩
      rw [RR.out]
      exact ⟨rfl, below_of_chg C1.out⟩
    have hk26 : ¬ 1025 < k + 1 := hk
    by_cases hk0 : 0 < k
    · have hk1 : (1 : Int) < (k : Int) + 1 := by omega
      cases hi : instrS ln with
      | none =>
        have RR := Lib.hid (show R = .error (20, (k : Int) + 1) from by rw [← LO.out, loop_bad hnil hf hk26 hen.symm hk0 (by rw [← hln]; exact hi)])
        have IW : ∀ W, Laid2 W → Calls Tryz.prog 24 #[.string (S ln), .int .i64 ((k : Int) + 1)] W fun e w' => e = wrongE 20 ((k : Int) + 1) ∧ Below W.heap.size W w' := fun W l => by
          have h := instr_walk (S ln) ((k : Int) + 1) W l (by rw [S_size, hln]; exact Nat.lt_of_le_of_lt (cut_le sl) hsl)
          rwa [show (S ln).toList = ln by simp [S], hi] at h
        clear LO hnil hln hrs hen hk hi
        go_wp2_with (first | (go_at_call 23; refine (CW1 _ (LD.out.below (below_of_chg CH.out))).mono ?_; rintro e w1 ⟨rfl, b1⟩; have C1 := Lib.hid (CH.out.trans (Chg.of_below b1)); have Y1 := Lib.hid (zrow (Chg.of_below b1) Z1.out); have Y2 := Lib.hid (zrow (Chg.of_below b1) Z2.out); have O1 := Lib.hid (OW.out.keep0 (Chg.of_below b1)); clear b1))
        refine wp_region_panics (fun c W => c = [{ v := .iface 40 (.agg #[.int .i64 20, .int .i64 ((k : Int) + 1)]), recovered := false }] ∧ Chg [] w W) ?_ ?_
        · rintro c a W hd ⟨rfl, cW⟩
          refine ⟨hd, ?_⟩
          rw [RR.out]
          exact ⟨rfl, below_of_chg cW⟩
        have hv : w1.cell? ⟨w.heap.size + 1, 1, none⟩ = some v := cell_of_row _ _ _ _ _ _ Y2.out
        refine wp_region_held_drew (S := fun w' => w'.cell? ⟨w.heap.size + 1, 1, none⟩ = some v) (by kernel_rfl) hv (fun hHeld => ?_)
        refine wpAnyH_take (i := 0) (oi := { dst := some 38, op := Op.fieldAddr 25 (Operand.tmp 3) 1, type := 0, pos := "code.go:193", after := #[], guard := none }) (v := ?_) rfl (by kernel_rfl) (by kernel_rfl) (by kernel_rfl) (fun _ _ _ h => h) (Or.inl ⟨by rfl, ?_⟩) (by assumption) ?_
        rotate_left 1
        · intro w hSw; (try dsimp only at hSw); go_simp; (try with_reducible rfl)
        simp only [Act.put, List.setIfInBounds_toArray, List.set_cons_zero, List.set_cons_succ]
        refine wpAnyH_take (i := 1) (oi := { dst := some 39, op := Op.load 23 (Operand.tmp 38), type := 23, pos := "code.go:193", after := #[{ on := 0, ground := Ground.data }], guard := none }) (v := ?_) rfl (by kernel_rfl) (by kernel_rfl) (by kernel_rfl) (fun _ _ _ h => h) (Or.inl ⟨by rfl, ?_⟩) (by assumption) ?_
        rotate_left 1
        · intro w hSw; (try dsimp only at hSw); go_simp; (try with_reducible rfl)
        simp only [Act.put, List.setIfInBounds_toArray, List.set_cons_zero, List.set_cons_succ]
        refine wpAnyH_take (i := 2) (oi := { dst := some 40, op := Op.move (Operand.tmp 5), type := 9, pos := "code.go:193", after := #[], guard := none }) (v := ?_) rfl (by kernel_rfl) (by kernel_rfl) (by kernel_rfl) (fun _ _ _ h => h) (Or.inl ⟨by rfl, ?_⟩) (by assumption) ?_
        rotate_left 1
        · intro w hSw; (try dsimp only at hSw); go_simp; (try with_reducible rfl)
        simp only [Act.put, List.setIfInBounds_toArray, List.set_cons_zero, List.set_cons_succ]
        refine wpAnyH_take (i := 3) (oi := { dst := some 41, op := Op.move (Operand.tmp 4), type := 3, pos := "code.go:193", after := #[], guard := none }) (v := ?_) rfl (by kernel_rfl) (by kernel_rfl) (by kernel_rfl) (fun _ _ _ h => h) (Or.inl ⟨by rfl, ?_⟩) (by assumption) ?_
        rotate_left 1
        · intro w hSw; (try dsimp only at hSw); go_simp; (try with_reducible rfl)
        simp only [Act.put, List.setIfInBounds_toArray, List.set_cons_zero, List.set_cons_succ]
        refine wpAnyH_ready (rs := [4]) (by kernel_rfl) (by simp) ?_
        refine AllReadyH.cons (o := { dst := some 42, op := Op.call { callee := Callee.value (Operand.func 24), args := #[Operand.tmp 40, Operand.tmp 41], argTypes := #[9, 3] }, type := 33, pos := "code.go:193", after := #[{ on := 2, ground := Ground.data }, { on := 3, ground := Ground.data }], guard := none }) rfl (fun K hK => ?_) AllReadyH.nil
        go_simp
        go_at_call 24
        refine (IW _ (LD.out.below (below_of_chg C1.out.drew))).mono ?_
        rintro e w5 ⟨he, b5⟩
        unfold wrongE at he
        subst he
        exact ⟨rfl, rfl, C1.out.drew.trans (Chg.of_below b5)⟩
      | some p =>
        obtain ⟨op, n, x⟩ := p
        obtain ⟨f', hf', hl'⟩ := loop_ins (tag := tag) (l := l) hnil hf hk26 hen.symm hk0 (by rw [← hln]; exact hi)
        rw [← hrs] at hf' hl'
        have hrl : rs.length < sl.length := by rw [hrs]; exact cut_less hnil hen.symm
        have NX := Lib.hid (show readLoop f' rs (k + 1) tag (l ++ [⟨op, n, x⟩]) = R from by rw [← hl', LO.out])
        have IW : ∀ W, Laid2 W → Calls Tryz.prog 24 #[.string (S ln), .int .i64 ((k : Int) + 1)] W fun e w' => e = .returned (.agg #[.int .i64 op, .int .i64 n, .float .f64 x]) ∧ Below W.heap.size W w' := fun W l => by
          have h := instr_walk (S ln) ((k : Int) + 1) W l (by rw [S_size, hln]; exact Nat.lt_of_le_of_lt (cut_le sl) hsl)
          rwa [show (S ln).toList = ln by simp [S], hi] at h
        obtain ⟨i0, hi0, hz0, hs0, hby0⟩ : ∃ i, Tryz.prog.info? 33 = some i ∧ i.zero = some (.agg #[.int .i64 0, .int .i64 0, .float .f64 0]) ∧ i.size = 3 ∧ i.bytes = 24 := by
          have h := info41
          cases h2 : Tryz.prog.info? 33 with
          | none => rw [h2] at h; cases h
          | some i => rw [h2] at h; simp at h; exact ⟨i, rfl, h.1, h.2.1, h.2.2⟩
        have I0 := Lib.hid hi0
        clear LO hnil hln hrs hen hk hi hl' hi0
        have sf := run_store_float
        go_wp2_with (first | (go_at_call 23; refine (CW1 _ (LD.out.below (below_of_chg CH.out))).mono ?_; rintro e w1 ⟨rfl, b1⟩; have C1 := Lib.hid (CH.out.trans (Chg.of_below b1)); have Y1 := Lib.hid (zrow (Chg.of_below b1) Z1.out); have Y2 := Lib.hid (zrow (Chg.of_below b1) Z2.out); have O1 := Lib.hid (OW.out.keep0 (Chg.of_below b1)); clear b1))
        refine wp_region_noPanic ?_
        have hv : w1.drew.cell? ⟨w.heap.size + 1, 1, none⟩ = some v := cell_of_row _ _ _ _ _ _ Y2.out
        have hl25 : l.length ≤ 1025 := by omega
        go_region_law (first
          | (refine step_append_lies _ rfl (.tmp 39) (.tmp 43) 23 rfl (w.heap.size + 2) 33 i0 _ 3 24 under27 I0.out hz0 hs0 hby0 rfl (by decide) v l.length (flat l) rfl (OC5.out.keep0 ((Chg.refl _ _).alloc _)) _ 1 1 [.int .i64 op, .int .i64 n, .float .f64 x] rfl rfl
              (World.news_of_block (heap_alloc_new _ _)) (by simp [Value.oneCell']) (by decide) (by unfold maxLen; omega) (by omega) (by have := C5.out.size; have := Y5b.out; have := lt_of_heap this; simp; omega) _ rfl ?_
             intro g cap w6 h2 h3 h4 h5
             have Y6 := Lib.hid (show w6.heap[w.heap.size + 1]? = some (.cells #[.int .i64 tag, v] 25 (0, 0)) from (h3.block _ (by have := lt_of_heap Y5b.out; simp; omega) (fun e => by have := (OC5.out.blk _ e.symm).1; omega)).trans ((Below.heap_alloc _ _ _ (lt_of_heap Y5b.out)).trans Y5b.out))
             have X6 := Lib.hid (show w6.heap[w.heap.size]? = some (.cells #[.int .i64 0, .slice none 0 0] 25 (0, 0)) from (h3.block _ (by have := lt_of_heap Y5a.out; simp; omega) (fun e => by have := (OC5.out.blk _ e.symm).1; omega)).trans ((Below.heap_alloc _ _ _ (lt_of_heap Y5a.out)).trans Y5a.out))
             have hv6 := cell_of_row _ _ 1 _ _ _ Y6.out
             have hf6 := frozen_of_row _ _ 1 _ _ Y6.out
             have O6 := Lib.hid h2
             have G6 := Lib.hid h3
             clear h2 h3 h4 h5)
          | (go_simp; go_at_call 24; refine (IW _ (LD.out.below (below_of_chg C1.out.drew))).mono ?_; rintro e w5 ⟨rfl, b5⟩; have C5 := Lib.hid (C1.out.drew.trans (Chg.of_below b5)); have hv5 : w5.cell? ⟨w.heap.size + 1, 1, none⟩ = some v := (b5.cell (lt_of_heap Y2.out)).trans hv; have hv5a : ∀ o : Obj, (w5.alloc o).cell? ⟨w.heap.size + 1, 1, none⟩ = some v := fun o => (World.cell?_alloc_some _ _ _ (by rw [hv5]; rfl)).trans hv5; have Y5a := Lib.hid (zrow (Chg.of_below b5) Y1.out); have Y5b := Lib.hid (zrow (Chg.of_below b5) Y2.out); have OC5 := Lib.hid ((O1.out.keep0 (Chg.refl _ _).drew).keep0 (Chg.of_below b5)); clear b5))
        all_goals
          refine NoPanic.normal ?_
          go_wp2
          go_roundw
          case rel =>
            refine ⟨rs, k + 1, f', tag, .slice (some ⟨g, 0, none⟩) (l.length + 1) cap, l ++ [⟨op, n, x⟩], rfl, by go_num, by omega, hf', by omega, NX.out, by simp; omega, ?_, ?_, ?_, ?_⟩
            · exact (Below.heap_setCell _ _ _ _ (by simp)).trans X6.out
            · exact heap_put Y6.out rfl
            · exact own_put O6.out
            · exact (((C5.out.alloc _).grown G6.out fun j hj => .inr (by have := (OC5.out.blk j hj).1; omega)).setCell (.inr (Nat.le_succ _)) _)
          case measure => simp only [lenOf, S_size]; omega
    · have hk1 : ¬ (1 : Int) < (k : Int) + 1 := by omega
      obtain rfl : k = 0 := by omega
      have TW1 : ∀ W, Calls Tryz.prog 18 #[.int .i64 1] W fun e w' => e = .returned (.string (S (tagS 1))) ∧ w' = W := fun W => tag_walk 1 W
      have TW2 : ∀ W, Calls Tryz.prog 18 #[.int .i64 2] W fun e w' => e = .returned (.string (S (tagS 2))) ∧ w' = W := fun W => tag_walk 2 W
      have hrl : rs.length < sl.length := by rw [hrs]; exact cut_less hnil hen.symm
      by_cases h1 : ln = tagS 1
      · obtain ⟨f', hf', hl'⟩ := loop_one (tag := tag) (l := l) hnil hf hen.symm (by rw [← hln]; exact h1)
        rw [← hrs] at hf' hl'
        have NX := Lib.hid (show readLoop f' rs 1 1 l = R from by rw [← hl', LO.out])
        obtain ⟨t1, ht1⟩ : ∃ t, t = tagS 1 := ⟨_, rfl⟩
        rw [← ht1] at TW1
        have e1 : ((S ln).toList == (S t1).toList) = true := by rw [ht1, h1]; exact beq_self_eq_true _
        clear LO hnil hln hrs hen hk hl' ht1 h1
        go_wp2_with (first | (go_at_call 23; refine (CW1 _ (LD.out.below (below_of_chg CH.out))).mono ?_; rintro e w1 ⟨rfl, b1⟩; have C1 := Lib.hid (CH.out.trans (Chg.of_below b1)); have Y1 := Lib.hid (zrow (Chg.of_below b1) Z1.out); have Y2 := Lib.hid (zrow (Chg.of_below b1) Z2.out); have O1 := Lib.hid (OW.out.keep0 (Chg.of_below b1)); have y0 := cell_of_row _ _ 0 _ _ _ Y2.out; have y1 := frozen_of_row _ _ 0 _ _ Y2.out; clear b1) | (go_at_call 18; refine (TW1 _).mono ?_; rintro e w2 ⟨rfl, rfl⟩))
        go_roundw
        case rel =>
          refine ⟨rs, 1, f', 1, v, l, rfl, by go_num, by omega, hf', by omega, NX.out, by omega, ?_, ?_, ?_, ?_⟩
          · exact (Below.heap_setCell _ _ _ _ (by simp)).trans Y1.out
          · exact heap_put Y2.out rfl
          · refine O1.out.keep (S := [w.heap.size + 1]) ((Chg.refl _ _).setCell (.inl (by simp)) _) fun j hj => ?_
            have := (O1.out.blk j hj).1
            simp
            omega
          · exact C1.out.setCell (.inr (Nat.le_succ _)) _
        case measure => simp only [lenOf, S_size]; omega
      by_cases h2 : ln = tagS 2
      · obtain ⟨f', hf', hl'⟩ := loop_two (tag := tag) (l := l) hnil hf hen.symm (by rw [← hln]; exact h1) (by rw [← hln]; exact h2)
        rw [← hrs] at hf' hl'
        have NX := Lib.hid (show readLoop f' rs 1 2 l = R from by rw [← hl', LO.out])
        obtain ⟨t1, ht1⟩ : ∃ t, t = tagS 1 := ⟨_, rfl⟩
        obtain ⟨t2, ht2⟩ : ∃ t, t = tagS 2 := ⟨_, rfl⟩
        rw [← ht1] at TW1 h1
        rw [← ht2] at TW2 h2
        have e1 : ((S ln).toList == (S t1).toList) = false := by simpa [S] using h1
        have e2 : ((S ln).toList == (S t2).toList) = true := by rw [h2]; exact beq_self_eq_true _
        clear LO hnil hln hrs hen hk hl' ht1 ht2 h1 h2
        go_wp2_with (first | (go_at_call 23; refine (CW1 _ (LD.out.below (below_of_chg CH.out))).mono ?_; rintro e w1 ⟨rfl, b1⟩; have C1 := Lib.hid (CH.out.trans (Chg.of_below b1)); have Y1 := Lib.hid (zrow (Chg.of_below b1) Z1.out); have Y2 := Lib.hid (zrow (Chg.of_below b1) Z2.out); have O1 := Lib.hid (OW.out.keep0 (Chg.of_below b1)); have y0 := cell_of_row _ _ 0 _ _ _ Y2.out; have y1 := frozen_of_row _ _ 0 _ _ Y2.out; clear b1) | (go_at_call 18; first | (refine (TW1 _).mono ?_; rintro e w2 ⟨rfl, rfl⟩) | (refine (TW2 _).mono ?_; rintro e w3 ⟨rfl, rfl⟩)))
        go_roundw
        case rel =>
          refine ⟨rs, 1, f', 2, v, l, rfl, by go_num, by omega, hf', by omega, NX.out, by omega, ?_, ?_, ?_, ?_⟩
          · exact (Below.heap_setCell _ _ _ _ (by simp)).trans Y1.out
          · exact heap_put Y2.out rfl
          · refine O1.out.keep (S := [w.heap.size + 1]) ((Chg.refl _ _).setCell (.inl (by simp)) _) fun j hj => ?_
            have := (O1.out.blk j hj).1
            simp
            omega
          · exact C1.out.setCell (.inr (Nat.le_succ _)) _
        case measure => simp only [lenOf, S_size]; omega
      · have RR := Lib.hid (show R = .error (20, 1) from by rw [← LO.out, loop_no hnil hf hen.symm (by rw [← hln]; exact h1) (by rw [← hln]; exact h2)])
        obtain ⟨t1, ht1⟩ : ∃ t, t = tagS 1 := ⟨_, rfl⟩
        obtain ⟨t2, ht2⟩ : ∃ t, t = tagS 2 := ⟨_, rfl⟩
        rw [← ht1] at TW1 h1
        rw [← ht2] at TW2 h2
        have e1 : ((S ln).toList == (S t1).toList) = false := by simpa [S] using h1
        have e2 : ((S ln).toList == (S t2).toList) = false := by simpa [S] using h2
        clear LO hnil hln hrs hen hk ht1 ht2 h1 h2
        go_wp2_with (first | (go_at_call 23; refine (CW1 _ (LD.out.below (below_of_chg CH.out))).mono ?_; rintro e w1 ⟨rfl, b1⟩; have C1 := Lib.hid (CH.out.trans (Chg.of_below b1)); have Y1 := Lib.hid (zrow (Chg.of_below b1) Z1.out); have Y2 := Lib.hid (zrow (Chg.of_below b1) Z2.out); have O1 := Lib.hid (OW.out.keep0 (Chg.of_below b1)); have y0 := cell_of_row _ _ 0 _ _ _ Y2.out; have y1 := frozen_of_row _ _ 0 _ _ Y2.out; clear b1) | (go_at_call 18; first | (refine (TW1 _).mono ?_; rintro e w2 ⟨rfl, rfl⟩) | (refine (TW2 _).mono ?_; rintro e w3 ⟨rfl, rfl⟩)))
        refine ⟨rfl, ?_⟩
        rw [RR.out]
        exact ⟨rfl, below_of_chg C1.out⟩
end Go.Proofs.YtjlnhifleepnoaaGreatDoor
