import Derived.Test.YtphaeodcomgffaaGreatE2
import Derived.Test.YtphaeodcomgffaaGreatE9
import Derived.Test.YtphaeodcomgffaaGreatFA
import Derived.Test.YtphaeodcomgffaaGreatEE
import Derived.Test.YtphaeodcomgffaaGreatEA
import Derived.Test.YtphaeodcomgffaaGreatQC
set_option linter.unusedVariables false
set_option linter.unusedSimpArgs false
namespace Go.Proofs.YtphaeodcomgffaaGreat
open Go.RowKit

set_option maxRecDepth 100000 in
theorem most_walk (C : Cfg) (h0 : 0 ≤ C.fuel) (h1 : C.fuel ≤ 1000000) (w : World) :
    Calls Tryz.prog 24 #[cfgV C] w fun e w' => e = .returned (.int .i64 (C.fuel * 4 + 6)) ∧ Below w.heap.size w w' := by
  unfold cfgV
  go_enter Tryz.func24, Tryz.ntmps24
  go_wp2
  go_ret
  exact ⟨rfl, (Below.refl _ _).alloc (Nat.le_refl _) _⟩
/-- Block B is the document's words: how many accesses there were. -/
structure WrdIs (ro : Nat → Nat) (r : Nat) (w : World) (B : Nat) (v : Value) (words : List Nat) (n : Int) : Prop where
  blk : Blk ro r w B #[v, .int .i64 n] 73
  own : OwnL cU ro (r + 1) w 40 1 v words
theorem WrdIs.keep {ro ro' : Nat → Nat} {r : Nat} {w w' : World} {B v words n R} (h : WrdIs ro r w B v words n) (m : Mv ro R w ro' w') (h1 : r ∉ R) (h2 : r + 1 ∉ R) : WrdIs ro' r w' B v words n := ⟨h.blk.keep m h1, h.own.keep m h2⟩

/-- What others do ahead of a step: the words behind it. -/
def setPoke (words : List Nat) (l : List (Int × Nat)) (i : Nat) : List Nat := match l[i]? with | none => words | some p => if p.1 < 0 then words else words.set (p.1 % words.length).toNat p.2
def PokedP (ro : Nat → Nat) (rm rw : Nat) (w : World) (MB WB : Nat) (v v2 : Value) (words words2 : List Nat) (op : Bool) (cnt k : Int) (e : Ending) (w' : World) : Prop :=
  e = .returned (.tuple #[]) ∧ MemIs ro rm w' MB v words op cnt ∧ WrdIs ro rw w' WB v2 words2 k ∧ Mv ro [rm + 1, rw + 1] w ro w'
set_option maxRecDepth 100000 in
set_option maxHeartbeats 1000000 in
theorem pokes_walk {ro : Nat → Nat} {rm rw : Nat} {w : World} {MB WB : Nat} {v v2 vp : Value} {words words2 : List Nat} {op : Bool} {cnt k : Int} {l : List (Int × Nat)} (hm : MemIs ro rm w MB v words op cnt) (hw : WrdIs ro rw w WB v2 words2 k) (hln : words2.length = words.length) (hr : rm + 1 < rw ∨ rw + 1 < rm) (hl : Rd w 2 vp (l.map cP)) (i : Nat) (hv : i < l.length → ∀ g, vp.ownBlock = some g → ro g ≠ rm + 1 ∧ ro g ≠ rw + 1) (hi : i < 1000000) (h0 : 0 < words.length) (h1 : words.length ≤ 4096) :
    Calls Tryz.prog 25 #[ptr MB, ptr WB, vp, .int .i64 i] w (PokedP ro rm rw w MB WB v v2 (setPoke words l i) (setPoke words2 l i) op cnt k) := by
  unfold setPoke
  by_cases hk : i < l.length
  · rw [List.getElem?_eq_getElem hk]
    obtain ⟨b, off, c, rfl, hb, hcell⟩ := hl.blk (by simp; omega)
    rw [List.length_map] at hcell ⊢
    have z0 := hcell i 0 hk (by decide)
    have z1 := hcell i 1 hk (by decide)
    simp only [List.getD, List.getElem?_map, List.getElem?_eq_getElem hk, Option.map_some, Option.getD_some, cP, List.getElem?_cons_zero, List.getElem?_cons_succ, Nat.add_zero] at z0 z1
    obtain ⟨at_, x, hp⟩ : ∃ a x, l[i] = (a, x) := ⟨_, _, rfl⟩
    rw [hp] at z0 z1 ⊢
    simp only at z0 z1 ⊢
    have ik : (i : Int) < l.length := by omega
    by_cases ha : at_ < 0
    · rw [if_pos ha]
      simp only [ptr]
      have HM := Lib.hid hm
      have HW := Lib.hid hw
      clear hm hw hl
      go_enter Tryz.func25, Tryz.ntmps25
      go_wp2_with (go_in)
      go_end0
      exact ⟨rfl, HM.out, HW.out, Mv.refl _ _ _⟩
    · rw [if_neg ha]
      have hbr := hv hk b rfl
      obtain ⟨g, c2, rfl, hg, -, -⟩ := hw.own.pos (by omega)
      have hc2 := hw.blk.cell
      rw [hln] at hc2 ⊢
      have hmd : at_.tmod (words.length : Int) = ((at_ % words.length).toNat : Int) := by
        rw [Int.tmod_eq_emod_of_nonneg (by omega)]
        have := Int.emod_nonneg at_ (show (words.length : Int) ≠ 0 by omega)
        omega
      have hlt : (at_ % words.length).toNat < words.length := by
        have := Int.emod_nonneg at_ (show (words.length : Int) ≠ 0 by omega)
        have := Int.emod_lt_of_pos at_ (show 0 < (words.length : Int) by omega)
        omega
      have KW := fun W (mv : Mv ro [] w ro W) => poke_ok (hm.keep mv (by simp) (by simp)) (at_ % words.length).toNat x hlt
      generalize hj : (at_ % words.length).toNat = j at *
      have zq : ∀ n, (w.drewN n).cell? ⟨b, off + i * 2 + 1, none⟩ = some (.int .u64 x) := fun n => z1
      simp only [ptr]
      have HM := Lib.hid hm
      have HW := Lib.hid hw
      clear hm hw hl hj
      go_enter Tryz.func25, Tryz.ntmps25
      go_wp2_with (go_in)
      go_quiet (fail)
      go_wp2_with (go_at_call 43; refine (KW _ ((Mv.refl _ _ _).drewN _)).mono ?_; rintro e w3 ⟨rfl, q3, m3⟩)
      have m3' : Mv ro [rm + 1] w ro w3 := ((Mv.refl ro [rm + 1] w).drewN _).trans m3
      have y1 := (World.cell?_of_block (w := w) (w' := w3) (a := ⟨b, off + i * 2 + 1, none⟩) (m3'.block b hb (by simp; exact hbr.1))).trans z1
      have W3 := HW.out.keep m3' (by simp; omega) (by simp; omega)
      have hc3 := W3.blk.cell
      have hx3 := W3.own.at1 cU_len (i := j) (by omega)
      simp only [cU, List.getElem?_cons_zero] at hx3
      have hf3 : w3.frozen? ⟨g, j, none⟩ = false := Own.free (n := words2.length) (by have := W3.own; unfold OwnL at this; exact this) j
      have Q3 := Lib.hid q3
      have WW := Lib.hid W3
      have MM := Lib.hid m3'
      have e5 : (j : Int) < words.length := by omega
      generalize words2[j]'(by omega) = y0 at *
      clear q3 W3 m3' m3 KW hc2
      go_region
      all_goals
        go_end0
        have hG : ro g ∈ [rw + 1] := by rw [hg]; simp
        have mv : Mv ro [rw + 1] w3 ro (w3.drew.setCell ⟨g, j, none⟩ (.int .u64 x)) := (Mv.refl ro [rw + 1] w3).drew.setCell hG _
        exact ⟨rfl, Q3.out.keep mv (by simp; omega) (by simp; omega), ⟨by have h9 := WW.out.blk.keep mv (by simp); rw [hln] at h9; exact h9, by have h9 := (WW.out.own.keep (Mv.refl ro [] w3).drew (by simp)).setU j x (by omega); rw [hln] at h9; exact h9⟩, (MM.out.mono (by simp)).trans (mv.mono (by simp))⟩
  · rw [List.getElem?_eq_none (by omega)]
    obtain ⟨a, c, rfl⟩ := hl.slice
    rw [List.length_map]
    have ik : (l.length : Int) ≤ i := by omega
    simp only [ptr]
    have HM := Lib.hid hm
    have HW := Lib.hid hw
    clear hm hw hl
    go_enter Tryz.func25, Tryz.ntmps25
    go_wp2_with (go_in)
    go_end0
    exact ⟨rfl, HM.out, HW.out, Mv.refl _ _ _⟩
end Go.Proofs.YtphaeodcomgffaaGreat
set_option linter.unusedVariables false
set_option linter.unusedSimpArgs false
namespace Go.Proofs.YtphaeodcomgffaaGreat
open Go.RowKit

set_option maxRecDepth 100000 in
set_option maxHeartbeats 1000000 in
theorem laid_none (C : Cfg) (vw : Value) (a : Option Addr) (n c : Nat) (hva : vw = .slice a n c) (w : World) (h : ¬ C.ok) : Calls Tryz.prog 23 #[cfgV C, vw] w fun e w' => e = .returned (.tuple #[.pointer none, .pointer none]) ∧ Chg [] w w' := by
  subst hva
  have PW := rplace_walk C
  unfold planE at PW
  rw [if_neg h] at PW
  unfold noPlan cfgV at PW
  unfold cfgV
  clear h
  go_enter Tryz.func23, Tryz.ntmps23
  go_wp2_with (go_at_call 70; refine (PW _).mono ?_; rintro e w1 ⟨rfl, b1⟩; have B1 := Lib.hid b1; clear b1)
  go_ret2
  exact ⟨rfl, (((Chg.refl _ _).alloc _).trans (Chg.of_below B1.out)).alloc _⟩

/-- What a law's laid leaves: the program's memory and the document's, with the same words. -/
def LaidP (ro : Nat → Nat) (rm rw : Nat) (w : World) (C : Cfg) (e : Ending) (w' : World) : Prop :=
  ∃ MB WB v v2 ro' words, e = .returned (.tuple #[ptr MB, ptr WB]) ∧ (words.length : Int) = 3 + C.threads + 3 * C.cells ∧ (∀ x ∈ words, x < 18446744073709551616) ∧ MemIs ro' rm w' MB v words false 0 ∧ WrdIs ro' rw w' WB v2 words 0 ∧ Mv ro [] w ro' w'
set_option maxRecDepth 100000 in
set_option maxHeartbeats 8000000 in
theorem laid_walk (ro : Nat → Nat) (rm rw : Nat) (C : Cfg) (vw : Value) (ws : List Nat) (w : World) (hfr : ∀ k, k < w.heap.size → ro k ∉ [rm + 1, rw + 1]) (hC : C.ok) (hr : rm + 1 < rw ∨ rw + 1 < rm) (hws : Rd w 1 vw (ws.map cU)) (hwx : ∀ x ∈ ws, x < 18446744073709551616) (hlen : ws.length ≤ 9223372036854775807) :
    Calls Tryz.prog 23 #[cfgV C, vw] w (LaidP ro rm rw w C) := by
  obtain ⟨C1, C2, C3, C4, _⟩ := id hC
  obtain ⟨n, hn⟩ : ∃ n : Nat, (n : Int) = 3 + C.threads + 3 * C.cells := ⟨(3 + C.threads + 3 * C.cells).toNat, by omega⟩
  have hn1 : n ≤ 4096 := by omega
  have hn3 : 1 ≤ n := by omega
  have hmk : ∀ u : World, (Instr.makeSlice 28 (.int .i64 n) (.int .i64 n)).run Tryz.prog u = .ok (.slice (some ⟨u.heap.size, 0, none⟩) n n) (u.alloc (.cells (madeCells #[.int .u64 0] n) 40)) := fun u => by
    obtain ⟨i, hi, hz, hs, hb⟩ := info_three infoU
    have := run_makeSlice (P := Tryz.prog) u 28 40 i (.int .u64 0) underU hi hz .i64 .i64 n n (by omega) (Int.le_refl _) (by rw [hs]; omega) (by rw [hb]; omega) (by omega)
    rw [hs, Nat.mul_one] at this
    exact this
  have PW := rplace_walk C
  unfold planE at PW
  rw [if_pos hC] at PW
  unfold planV cfgV at PW
  unfold cfgV
  rw [← hn] at PW
  have NW := fun ro' W => memnew_walk ro' rm n W (by omega) (by omega)
  unfold MemNewP at NW
  simp only [ptr, Int.toNat_natCast] at NW
  have HA := Lib.hid hws
  obtain ⟨a0, c0, e0⟩ := hws.slice
  rw [List.length_map] at e0
  subst e0
  have HN := Lib.hid hn
  clear hC hws hn
  go_enter Tryz.func23, Tryz.ntmps23
  go_wp2_with (first
    | (go_at_call 70; refine (PW _).mono ?_; rintro e w1 ⟨rfl, b1⟩; have M1 := Lib.hid (((Mv.refl ro [] w).alloc _).then_below b1); clear b1)
    | (go_at_call 17; refine (NW (setRo ro w1.heap.size (rm + rw + 2)) _).mono ?_; rintro e w2 ⟨MB, v, ro2, rfl, q2, m2⟩; have p2 := (Blk.new ro (rm + rw + 2) w1 _ _).keep m2 (by simp); have hc2 := p2.cell; have Q2 := Lib.hid q2; have M2 := Lib.hid ((M1.out.trans (((Mv.refl ro [] w1).alloc _).give (Nat.le_refl _))).trans m2); have P2 := Lib.hid p2; clear q2 m2 p2))
  have m2 := M2.out
  have mA : Mv ro2 [] w2 (setRo ro2 w2.heap.size (rw + 1)) (w2.alloc (.cells (madeCells #[.int .u64 0] n) 40)) := ((Mv.refl ro2 [] w2).alloc _).give (Nat.le_refl _)
  have mB : Mv (setRo ro2 w2.heap.size (rw + 1)) [] (w2.alloc (.cells (madeCells #[.int .u64 0] n) 40)) (setRo (setRo ro2 w2.heap.size (rw + 1)) (w2.heap.size + 1) rw) ((w2.alloc (.cells (madeCells #[.int .u64 0] n) 40)).alloc (.cells #[.slice (some ⟨w2.heap.size, 0, none⟩) n n, .int .i64 0] 73)) := ((Mv.refl _ [] _).alloc _).give (size_alloc_le _ _)
  have W4 : WrdIs (setRo (setRo ro2 w2.heap.size (rw + 1)) (w2.heap.size + 1) rw) rw ((w2.alloc (.cells (madeCells #[.int .u64 0] n) 40)).alloc (.cells #[.slice (some ⟨w2.heap.size, 0, none⟩) n n, .int .i64 0] 73)) (w2.heap.size + 1) (.slice (some ⟨w2.heap.size, 0, none⟩) n n) (List.replicate n 0) 0 :=
    ⟨⟨alloc2_heap _ _ _ _, setRo_at _ _ _⟩, (OwnL.zeros ro2 (rw + 1) w2 n (by unfold maxLen; omega)).keep mB (by simp)⟩
  have q4 := Q2.out.keep (mA.trans mB) (by simp) (by simp)
  have p4 := P2.out.keep (mA.trans mB) (by simp)
  have m4 := m2.trans (mA.trans mB)
  have e4 : ((w2.alloc (.cells (madeCells #[.int .u64 0] n) 40)).heap.size) = w2.heap.size + 1 := by simp
  generalize setRo (setRo ro2 w2.heap.size (rw + 1)) (w2.heap.size + 1) rw = ro4 at *
  generalize hW4 : (w2.alloc (.cells (madeCells #[.int .u64 0] n) 40)).alloc (.cells #[.slice (some ⟨w2.heap.size, 0, none⟩) n n, .int .i64 0] 73) = W3 at *
  have GW := Lib.hid W4
  have GQ := Lib.hid q4
  have GP := Lib.hid p4
  have GM := Lib.hid m4
  clear hW4 W4 q4 p4 m4 m2 mA mB Q2 P2 M2 hc2 NW PW M1
  go_loopw [11] (fun i wr => ∃ (k : Nat) (words : List Nat), i = .int .i64 k ∧ k ≤ n ∧ words.length = n ∧ (∀ x ∈ words, x < 18446744073709551616) ∧ MemIs ro4 rm wr MB v words false 0 ∧ WrdIs ro4 rw wr (w2.heap.size + 1) (.slice (some ⟨w2.heap.size, 0, none⟩) n n) words 0 ∧ Blk ro4 (rm + rw + 2) wr w1.heap.size #[.int .i64 0, .int .i64 1, .int .i64 2, .int .i64 3, .int .i64 (3 + C.threads), .int .i64 n] 38 ∧ Mv ro [] w ro4 wr) (fun i _ => n - (intOf i).toNat)
  case atStart => exact ⟨0, _, rfl, Nat.zero_le _, by simp, by intro x hx; rw [List.eq_of_mem_replicate hx]; decide, GQ.out, GW.out, GP.out, GM.out⟩
  case round =>
    obtain ⟨k, words, rfl, hk, hwl, hwf, hq, hwd, hp, hmv⟩ := hrel
    have hpc := hp.cell
    by_cases h1 : k < n
    · by_cases h2 : k < ws.length
      · have h1' : (k : Int) < n := by omega
        have h2' : (k : Int) < ws.length := by omega
        obtain ⟨b, off, c', e1, hb, hcell⟩ := (HA.out.keep0 hmv.chg).blk (by simp; omega)
        have hb' : b < w.heap.size := by obtain ⟨b2, _, _, e9, h9, _⟩ := HA.out.blk (by simp; omega); simp only [Value.slice.injEq] at e1 e9; obtain ⟨e8, _⟩ := e1; obtain ⟨e7, _⟩ := e9; rw [e8] at e7; cases e7; exact h9
        simp only [Value.slice.injEq, List.length_map] at e1
        rw [List.length_map] at hcell
        obtain ⟨rfl, -, rfl⟩ := e1
        have z0 := hcell k 0 h2 (by decide)
        simp only [List.getD, List.getElem?_map, List.getElem?_eq_getElem h2, Option.map_some, Option.getD_some, cU, List.getElem?_cons_zero, Nat.mul_one, Nat.add_zero] at z0
        have hx := hwx _ (List.getElem_mem h2)
        have KW := fun W (mv : Mv ro4 [] wr ro4 W) => poke_ok (hq.keep mv (by simp) (by simp)) k ws[k] (by omega)
        generalize ws[k] = x at *
        have HMV := Lib.hid hmv
        have HWD := Lib.hid hwd
        have HP := Lib.hid hp
        clear hmv hq hwd hp hcell
        go_wp2_with (go_at_call 43; refine (KW _ (Mv.refl _ _ _)).mono ?_; rintro e w5 ⟨rfl, q5, m5⟩)
        have HMV5 := ((HMV.out.mono (R' := [rm + 1]) (by simp)).trans m5).fresh (fun x hx j hj => fun e => hfr j hj (by rw [e]; simp at hx ⊢; omega))
        have W5 := HWD.out.keep m5 (by simp; omega) (by simp; omega)
        have p5 := HP.out.keep m5 (by simp; omega)
        have z5 := (World.cell?_of_block (w := wr) (w' := w5) (a := ⟨b, off + k, none⟩) (by have e1 := HMV5.block b hb' (by simp); have e2 := HMV.out.block b hb' (by simp); exact e1.trans e2.symm)).trans z0
        have hc5 := W5.blk.cell
        have hx5 := W5.own.at1 cU_len (i := k) (by omega)
        simp only [cU, List.getElem?_cons_zero] at hx5
        have hf5 : w5.frozen? ⟨w2.heap.size, k, none⟩ = false := Own.free (by have := W5.own; unfold OwnL at this; rw [hwl] at this; exact this) k
        have HW5 := Lib.hid W5
        have HP5 := Lib.hid p5
        have HQ5 := Lib.hid q5
        have HM5 := Lib.hid HMV5
        generalize words[k]'(by omega) = y0 at *
        clear W5 p5 q5 HMV5 hpc KW
        go_region
        all_goals
          go_wp2
          go_roundw
          case rel =>
            have hG : ro4 w2.heap.size ∈ [rw + 1] := by have := HW5.out.own.blk w2.heap.size rfl; simp; exact this.2
            have mv : Mv ro4 [rw + 1] w5 ro4 (w5.drew.setCell ⟨w2.heap.size, k, none⟩ (.int .u64 x)) := (Mv.refl ro4 [rw + 1] w5).drew.setCell hG _
            refine ⟨k + 1, words.set k x, by go_num, by omega, by simpa using hwl, set_fit hwf k hx, HQ5.out.keep mv (by simp; omega) (by simp; omega), ⟨HW5.out.blk.keep mv (by simp), ?_⟩, HP5.out.keep mv (by simp; omega), ((HM5.out.mono (R' := [rw + 1]) (by simp)).trans mv).fresh (fun x hx j hj => fun e => hfr j hj (by rw [e]; simp at hx ⊢; omega))⟩
            exact (HW5.out.own.keep (Mv.refl ro4 [] w5).drew (by simp)).setU k x (by omega)
          case measure => simp [intOf]; omega
      · have h2' : ¬ (k : Int) < ws.length := by omega
        have h1' : (k : Int) < n := by omega
        have HMV := Lib.hid hmv
        have HWD := Lib.hid hwd
        have HQ := Lib.hid hq
        clear hmv hwd hq hp
        go_wp2
        go_ret2
        exact ⟨MB, w2.heap.size + 1, v, _, ro4, words, rfl, by rw [hwl]; exact HN.out, hwf, HQ.out, HWD.out, HMV.out⟩
    · have h1' : ¬ (k : Int) < n := by omega
      have HMV := Lib.hid hmv
      have HWD := Lib.hid hwd
      have HQ := Lib.hid hq
      clear hmv hwd hq hp
      go_wp2
      go_ret2
      exact ⟨MB, w2.heap.size + 1, v, _, ro4, words, rfl, by rw [hwl]; exact HN.out, hwf, HQ.out, HWD.out, HMV.out⟩
end Go.Proofs.YtphaeodcomgffaaGreat
