import Derived.Test.YtphaeodcomgffaaGreatVL
import Derived.Test.YtphaeodcomgffaaGreatQC
import Derived.Test.YtphaeodcomgffaaGreatVT
import Derived.Test.YtphaeodcomgffaaGreatLF
import Derived.Test.YtphaeodcomgffaaGreatMB
import Derived.Deep.QuietTactic
set_option linter.unusedVariables false
set_option linter.unusedSimpArgs false
namespace Go.Proofs.YtphaeodcomgffaaGreat
open Go.RowKit

/-! The writer at its beginning; the chapter's first example. -/
theorem new_wwf {C : Cfg} {code : List Ins} {b : Bool} {args : List Nat} (hC : C.ok) (hb : b = false → (∀ x ∈ code, mayS x code.length = true) ∧ code.length ≤ 1024 ∧ ∀ x ∈ code, x.x < 18446744073709551616) (ha : ∀ x ∈ args, x < 18446744073709551616) : Wwf C code (newWr b args) := by
  have R := new_rwf hC hb ha
  exact ⟨R.wf, R.fit, new_fix b args, R.len, (by decide : (1 : Int) ≤ 1), (by decide : (1 : Int) ≤ 9), rfl, fun _ => rfl, fun k => absurd k (by show ¬ (5 : Int) ≤ 1; decide), rfl, (by intro y hy; cases hy), fun _ => rfl, fun k => absurd k (by show ¬ (1 : Int) = 5; decide), Int.le_refl _, Int.le_refl _, fun k => absurd k (by show ¬ (1 : Int) = 6; decide), fun b hb => (by cases hb), fun _ => rfl⟩
theorem wstep_len {C : Cfg} {tag : Int} {code : List Ins} {words : List Nat} {s : Wr} : (s.step C tag code words).2.1.length = words.length := by
  unfold Wr.step
  repeat' split
  all_goals simp
def W1 : Cfg := ⟨1, 2, 20, 1⟩
def wcode : List Ins := [⟨1, 0, 4617315517961601024⟩, ⟨1, 0, 0⟩, ⟨17, 0, 0⟩, ⟨20, 0, 0⟩]
theorem W1_ok : W1.ok := by unfold Cfg.ok W1; decide
/-- The writer behind k steps: it, the words, whether an access is open, how many there were. -/
def wliveAt : Nat → Wr × List Nat × Bool × Int
  | 0 => (newWr false [], List.replicate 8 0, false, 0)
  | k + 1 => (((wliveAt k).1.step W1 2 wcode (wliveAt k).2.1).1, ((wliveAt k).1.step W1 2 wcode (wliveAt k).2.1).2.1, !((wliveAt k).1.step W1 2 wcode (wliveAt k).2.1).2.2, if ((wliveAt k).1.step W1 2 wcode (wliveAt k).2.1).2.2 then (wliveAt k).2.2.2 + 1 else (wliveAt k).2.2.2)
theorem wbad1 : badS 2 wcode = false := by decide +kernel
theorem wlive_part : ∀ k < 14, (wliveAt k).1.part ≤ 8 := by decide +kernel
theorem wlive_over : ∀ k < 14, ((wliveAt (k + 1)).1.part == 9) = (k == 13) := by decide +kernel
theorem wlive_words : (wliveAt 14).2.1 = [1, 1, 1, 0, 0, 1, 4617315517961601024, 0] := by decide +kernel
theorem wlive_end : (wliveAt 14).1.part = 9 ∧ (wliveAt 14).1.m.how = 1 ∧ (wliveAt 14).1.m.ecode = 0 ∧ (wliveAt 14).1.m.err = 0 ∧ (wliveAt 14).1.ticket = 0 ∧ (wliveAt 14).1.number = 1 ∧ (wliveAt 14).1.steps = 14 ∧ (wliveAt 14).1.m.out.length = 0 ∧ (wliveAt 14).1.m.reads.length = 0 ∧ (wliveAt 14).1.m.writes.length = 1 := by decide +kernel
theorem wlive_cnt : ∀ k < 15, 0 ≤ (wliveAt k).2.2.2 ∧ (wliveAt k).2.2.2 ≤ 14 := by decide +kernel
theorem wlive_steps : ∀ k < 15, (wliveAt k).1.steps = k := by decide +kernel
end Go.Proofs.YtphaeodcomgffaaGreat
set_option linter.unusedVariables false
set_option linter.unusedSimpArgs false
namespace Go.Proofs.YtphaeodcomgffaaGreat
open Go.RowKit

/-! The chapter's first example, run. -/
theorem wlive_fit : ∀ k < 15, ∀ x ∈ (wliveAt k).2.1, x < 18446744073709551616 := by decide +kernel
theorem wlive_len : ∀ k < 15, (wliveAt k).2.1.length = 8 := by decide +kernel
theorem wlive_wf : ∀ k, k ≤ 14 → Wwf W1 wcode (wliveAt k).1
  | 0, _ => new_wwf W1_ok (fun _ => ⟨by decide +kernel, by decide, by decide⟩) (by simp)
  | k + 1, h => step_wwf W1_ok (wlive_wf k (by omega)) (wlive_part k (by omega)) (wlive_fit k (by omega))
theorem wlive_deed {ro : Nat → Nat} {w : World} {X : Nat} {q : Wp} (h : WIs ro 10 w X W1 2 wcode [] (wliveAt 14).1 q) :
    Calls Tryz.prog 38 #[ptr X] w fun e w' => ∃ ro' va vr vw vo, e = .returned (.agg (deedW 2 0 1 14 1 0 0 va vr vw vo)) ∧ (deedW 2 0 1 14 1 0 0 va vr vw vo).all (·.oneCell') = true ∧ Mv ro [] w ro' w' := by
  obtain ⟨e1, e2, e3, e4, e5, e6, e7, e8, e9, e10⟩ := wlive_end
  refine (wdeed_walk 70 h (by rw [e1]; decide) (by rw [e1]; decide) (by decide) (by rw [e9]; decide) (by rw [e10]; decide) (by rw [e8]; decide)).mono ?_
  rintro e w' ⟨ro', va, vr, vw, vo, he, o1, o2, o3, o4, m⟩
  obtain ⟨a1, c1, f1⟩ := o1.form
  obtain ⟨a2, c2, f2⟩ := o2.form
  obtain ⟨a3, c3, f3⟩ := o3.form
  obtain ⟨a, c, f4⟩ := o4.form
  have hm : (wliveAt 14).1.mark = 0 := by unfold Wr.mark; rw [e1, e5]; rfl
  rw [hm, if_pos e1, if_pos e1, if_pos e1, e2, e3, e4, e6, e7] at he
  subst f1 f2 f3 f4
  exact ⟨ro', _, _, _, _, he, by simp [deedW, Value.oneCell'], m⟩
theorem rd_wcode {w : World} {b : Nat} (h : w.heap[b]? = some (.cells #[.int .i64 1, .int .i64 0, .float .f64 4617315517961601024, .int .i64 1, .int .i64 0, .float .f64 0, .int .i64 17, .int .i64 0, .float .f64 0, .int .i64 20, .int .i64 0, .float .f64 0] 117 (0, 0))) : RdC w (.slice (some ⟨b, 0, none⟩) 4 4) wcode := by
  refine .inr ⟨b, 0, 4, rfl, by decide, lt_of_heap h, fun i j hi hj => ?_⟩
  rw [cell_of_row w b _ _ _ _ h]
  have hi' : i < 4 := hi
  match i, j, hi', hj with
  | 0, 0, _, _ | 0, 1, _, _ | 0, 2, _, _ | 1, 0, _, _ | 1, 1, _, _ | 1, 2, _, _ | 2, 0, _, _ | 2, 1, _, _ | 2, 2, _, _ | 3, 0, _, _ | 3, 1, _, _ | 3, 2, _, _ => rfl
set_option maxRecDepth 100000 in
set_option maxHeartbeats 8000000 in
theorem wlive_walk (w : World) : Calls Tryz.prog 34 #[] w fun e w' => e = .returned (.bool true) ∧ ∃ ro', Mv (fun _ => 0) [] w ro' w' := by
  have e20 := run_bits
  have NW := fun W => memnew_walk (fun _ => 0) 45 8 W (by decide) (by decide)
  unfold MemNewP at NW
  simp only [ptr] at NW
  have RW := fun ro W (v : Value) (h : RdC W v wcode) => wrnew_any ro 10 (by decide) W1 0 2 v (.slice none 0 0) wcode [] W W1_ok (by decide) (by decide) (by decide) h (.inl ⟨rfl, .inl rfl⟩) (by decide)
  unfold WNewP cfgV W1 at RW
  simp only [ptr] at RW
  have HRW := Lib.hid RW
  clear RW
  go_enter Tryz.func34, Tryz.ntmps34
  go_wp2_with (first
    | (go_at_call 17
       refine (NW _).mono ?_
       rintro e w2 ⟨MB, v, ro2, rfl, q2, m2⟩
       obtain ⟨z1, z2, z3⟩ := three_kept m2
       have hz1 := fun o => cell_of_row w2 _ o _ _ _ z1
       have hz3 := fun o => cell_of_row w2 _ o _ _ _ z3
       have RD := rd_wcode z2
       have M2 := Lib.hid (((((Mv.refl (fun _ => 0) [] w).alloc _).alloc _).alloc _).trans m2)
       have Q2 := Lib.hid q2
       clear m2 q2 z1 z2 z3)
    | (go_at_call 76
       refine (HRW.out ro2 _ _ RD).mono ?_
       rintro e w3 ⟨X, ro3, q, rfl, r3, m3⟩
       have R3 := Lib.hid r3
       have M3 := Lib.hid (M2.out.trans m3)
       have Q3 := Lib.hid (Q2.out.keep m3 (by simp) (by simp))
       clear r3 m3 hz1 hz3 RD))
  have r0 : WIs ro3 10 w3 X W1 2 wcode [] (wliveAt 0).1 q := by have := R3.out; rw [wbad1] at this; exact this
  have q0 : MemIs ro3 45 w3 MB v (wliveAt 0).2.1 (wliveAt 0).2.2.1 (wliveAt 0).2.2.2 := Q3.out
  have R0 := Lib.hid r0
  have Q0 := Lib.hid q0
  clear r0 q0 R3 Q3 NW HRW M2 Q2
  go_loopw [6, 7, 4] (fun a b c wr => ∃ (k : Nat) (ro' : Nat → Nat) (q' : Wp), a = .bool (k == 14) ∧ b = .int .i64 k ∧ c = .int .i64 0 ∧ k ≤ 14 ∧ WIs ro' 10 wr X W1 2 wcode [] (wliveAt k).1 q' ∧ MemIs ro' 45 wr MB v (wliveAt k).2.1 (wliveAt k).2.2.1 (wliveAt k).2.2.2 ∧ Mv (fun _ => 0) [] w ro' wr) (fun _ b _ _ => 14 - (intOf b).toNat)
  case atStart => exact ⟨0, ro3, q, rfl, rfl, rfl, by decide, R0.out, Q0.out, M3.out⟩
  case round =>
    clear R0 Q0 M3
    obtain ⟨k, ro', q', rfl, rfl, rfl, hk9, r, qm, hmv⟩ := hrel
    have HMV := Lib.hid hmv
    by_cases hlt9 : k < 14
    · have hlt' : (k : Int) < 14 := by omega
      have hk : (k == 14) = false := by simp; omega
      have w1' := wlive_wf k (by omega)
      have w2' := wlive_len k (by omega)
      obtain ⟨c0, c1⟩ := wlive_cnt k (by omega)
      have hst := wlive_steps k (by omega)
      obtain ⟨bb, hbb⟩ : ∃ bb, bb = (k + 1 == 14) := ⟨_, rfl⟩
      have ek8 : bb = (k == 13) := by rw [hbb]; simp
      have HBB := Lib.hid hbb
      have SW := writerstep_walk W1_ok r qm (by decide) (by rw [w2']; decide) c0 (by omega) (by omega) w1' (wlive_part k hlt9)
      have SW2 : Calls Tryz.prog 36 #[ptr X, ptr MB] wr (WrP ro' 10 45 wr X W1 2 wcode [] (wliveAt (k + 1)).1 MB v (wliveAt (k + 1)).2.1 (wliveAt (k + 1)).2.2.1 (wliveAt (k + 1)).2.2.2 (.tuple #[.bool ((wliveAt (k + 1)).1.part == 9), .int .i64 0])) := SW
      rw [wlive_over k hlt9, ← ek8] at SW2
      unfold WrP at SW2
      simp only [ptr] at SW2
      have HSW := Lib.hid SW2
      clear r qm hmv SW SW2 w1' w2' c0 c1 hst ek8 hbb
      go_wp2_with (go_at_call 36; refine HSW.out.mono ?_; rintro e w5 ⟨rfl, ro5, q5, r5, n5, m5⟩; have R5 := Lib.hid r5; have N5 := Lib.hid n5; have M5 := Lib.hid m5; clear r5 n5 m5)
      go_roundw
      case rel =>
        exact ⟨k + 1, ro5, q5, by rw [HBB.out], by go_num, rfl, by omega, R5.out, N5.out, ((HMV.out.mono (by simp)).trans M5.out).fresh (by intro y hy j hj; simp [wR] at hy; show (0 : Nat) ≠ y; omega)⟩
      case measure => simp [intOf]; omega
    · obtain rfl : k = 14 := by omega
      have DW := wlive_deed r
      obtain ⟨e1, -⟩ := wlive_end
      rw [wlive_words] at qm
      have QM := Lib.hid qm
      have RR := Lib.hid r
      have HDW := Lib.hid DW
      simp only [ptr] at HDW
      clear r qm hmv DW
      go_wp2_with (first
        | (go_at_call 38
           refine HDW.out.mono ?_
           rintro e w5 ⟨ro5, va, vr, vw, vo, rfl, hall, m5⟩
           have M5 := Lib.hid m5
           have HALL := Lib.hid hall
           clear m5 hall)
        | (refine wpList_plain rfl (fun K hK => ?_)
           go_simp
           refine hK _ _ ?_
           refine wpList_store_row rfl 63 (.tmp 8) (.tmp 46) rfl _ (deedW 2 0 1 14 1 0 0 va vr vw vo) rfl rfl 63 _ (heap_alloc_new _ _) (by kernel_rfl) rfl HALL.out ?_
           have D5 : Blk (setRo ro5 w5.heap.size 79) 79 ((w5.alloc (.cells #[.int .i64 0, .int .i64 0, .int .i64 0, .int .i64 0, .slice none 0 0, .int .i64 0, .int .i64 0, .slice none 0 0, .slice none 0 0, .slice none 0 0, .int .i64 0, .int .i64 0, .int .i64 0, .int .i64 0, .int .i64 0, .int .i64 0, .int .i64 0, .int .i64 0, .int .i64 0] 63)).setRow w5.heap.size (deedW 2 0 1 14 1 0 0 va vr vw vo)) w5.heap.size (deedW 2 0 1 14 1 0 0 va vr vw vo) 63 := (Blk.new ro5 79 w5 #[.int .i64 0, .int .i64 0, .int .i64 0, .int .i64 0, .slice none 0 0, .int .i64 0, .int .i64 0, .slice none 0 0, .slice none 0 0, .slice none 0 0, .int .i64 0, .int .i64 0, .int .i64 0, .int .i64 0, .int .i64 0, .int .i64 0, .int .i64 0, .int .i64 0, .int .i64 0] 63).setRow
           have N5 : Mv ro5 [] w5 (setRo ro5 w5.heap.size 79) ((w5.alloc (.cells #[.int .i64 0, .int .i64 0, .int .i64 0, .int .i64 0, .slice none 0 0, .int .i64 0, .int .i64 0, .slice none 0 0, .slice none 0 0, .slice none 0 0, .int .i64 0, .int .i64 0, .int .i64 0, .int .i64 0, .int .i64 0, .int .i64 0, .int .i64 0, .int .i64 0, .int .i64 0] 63)).setRow w5.heap.size (deedW 2 0 1 14 1 0 0 va vr vw vo)) := (((Mv.refl ro5 [] w5).alloc (.cells #[.int .i64 0, .int .i64 0, .int .i64 0, .int .i64 0, .slice none 0 0, .int .i64 0, .int .i64 0, .slice none 0 0, .slice none 0 0, .slice none 0 0, .int .i64 0, .int .i64 0, .int .i64 0, .int .i64 0, .int .i64 0, .int .i64 0, .int .i64 0, .int .i64 0, .int .i64 0] 63)).give (r := 79) (Nat.le_refl _)).setRowNew (Nat.le_refl _) _
           have M6 := Lib.hid (M5.out.trans N5)
           generalize (w5.alloc (.cells #[.int .i64 0, .int .i64 0, .int .i64 0, .int .i64 0, .slice none 0 0, .int .i64 0, .int .i64 0, .slice none 0 0, .slice none 0 0, .slice none 0 0, .int .i64 0, .int .i64 0, .int .i64 0, .int .i64 0, .int .i64 0, .int .i64 0, .int .i64 0, .int .i64 0, .int .i64 0] 63)).setRow w5.heap.size (deedW 2 0 1 14 1 0 0 va vr vw vo) = w6 at *
           generalize setRo ro5 w5.heap.size 79 = ro6 at *
           generalize w5.heap.size = DB at *
           have HD5 := Lib.hid D5
           have Q6 := Lib.hid (QM.out.keep M6.out (by simp) (by simp))
           have R6 := Lib.hid (RR.out.keep M6.out (by simp))
           clear D5 N5)
        | (go_at_call 41
           refine (mall_walk 80 Q6.out (by decide) (by decide)).mono ?_
           rintro e w7 ⟨vl, ro7, rfl, oa, m7⟩
           obtain ⟨ga, ca, rfl, -, -, -⟩ := oa.pos (by decide)
           have hx0 := oa.at1 cU_len (i := 0) (by decide)
           have hx1 := oa.at1 cU_len (i := 1) (by decide)
           have hx2 := oa.at1 cU_len (i := 2) (by decide)
           have hx5 := oa.at1 cU_len (i := 5) (by decide)
           have hx6 := oa.at1 cU_len (i := 6) (by decide)
           have hx7 := oa.at1 cU_len (i := 7) (by decide)
           simp only [cU, List.getElem_cons_zero, List.getElem_cons_succ, List.getElem?_cons_zero] at hx0 hx1 hx2 hx5 hx6 hx7
           have hc5 := (HD5.out.keep m7 (by simp)).cell
           unfold deedW at hc5
           have FW := fun W (mv : Mv ro7 [] w7 ro7 W) => wphase_walk ((R6.out.keep m7 (by simp)).keep mv (by simp))
           simp only [e1] at FW
           simp only [ptr] at FW
           have HFW := Lib.hid FW
           have M7 := Lib.hid (M6.out.trans m7)
           clear oa m7 FW)
        | fail)
      go_quiet ((go_at_call 37; exact Calls.quiet_of_same (HFW.out _ ((Mv.refl _ _ _).drewN _))))
      go_wp2
      go_ret
      exact ⟨rfl, _, (HMV.out.trans M7.out).drewN _⟩
end Go.Proofs.YtphaeodcomgffaaGreat
