import Derived.Test.YtphaeodcomgffaaGreatLD
import Derived.Test.YtphaeodcomgffaaGreatEH
import Derived.Test.YtphaeodcomgffaaGreatQC
set_option linter.unusedVariables false
set_option linter.unusedSimpArgs false
namespace Go.Proofs.YtphaeodcomgffaaGreat
open Go.RowKit

def C1 : Cfg := ⟨1, 2, 20, 1⟩
def code1 : List Ins := [⟨1, 0, 0⟩, ⟨16, 0, 0⟩, ⟨18, 0, 0⟩, ⟨20, 0, 0⟩]
def words1 : List Nat := [0, 0, 3, 0, 0, 4, 4619567317775286272, 4618441417868443648]
theorem C1_ok : C1.ok := by unfold Cfg.ok C1; decide
/-- The chapter's first example, behind k steps: the reader, the words, may an access be, how many were. -/
def liveAt : Nat → Rs × List Nat × Bool × Int
  | 0 => (newRs false [], words1, false, 0)
  | k + 1 => let p := liveAt k; let q := p.1.step C1 1 code1 1 p.2.1; (q.1, q.2.1, !q.2.2, if q.2.2 then p.2.2.2 + 1 else p.2.2.2)
theorem bad1 : badS 1 code1 = false := by decide +kernel
theorem live_part : ∀ k < 9, (liveAt k).1.part ≠ 4 := by decide +kernel
theorem live_over : ∀ k < 9, ((liveAt (k + 1)).1.part == 4) = (k == 8) := by decide +kernel
theorem live_word : (liveAt 4).2.1.getD 4 0 = 4 := by decide +kernel
theorem live_end : (liveAt 9).1.part = 4 ∧ (liveAt 9).1.m.how = 1 ∧ (liveAt 9).1.m.ecode = 0 ∧ (liveAt 9).1.m.err = 0 ∧ (liveAt 9).1.stamp = 3 ∧ (liveAt 9).1.steps = 9 ∧ (liveAt 9).1.m.out = [4618441417868443648] ∧ (liveAt 9).2.2.2 = 6 ∧ (liveAt 9).1.m.reads.length = 1 ∧ (liveAt 9).1.m.writes.length = 0 := by decide +kernel
theorem live_cnt : ∀ k < 10, 0 ≤ (liveAt k).2.2.2 ∧ (liveAt k).2.2.2 ≤ 9 := by decide +kernel
theorem live_steps : ∀ k < 10, (liveAt k).1.steps = k := by decide +kernel
theorem live_wf : ∀ k, k ≤ 9 → Rwf C1 code1 (liveAt k).1 ∧ (liveAt k).2.1.length = 8 ∧ ∀ x ∈ (liveAt k).2.1, x < 18446744073709551616
  | 0, _ => ⟨new_rwf C1_ok (fun _ => ⟨by decide +kernel, by decide, by decide⟩) (by simp), rfl, by decide⟩
  | k + 1, h => by
    obtain ⟨h1, h2, h3⟩ := live_wf k (by omega)
    have S := rdr_step_ok (C := C1) (tag := 1) (th := 1) h1 (live_part k (by omega)) h3
    exact ⟨S.rwf, S.len.trans h2, S.fit⟩
end Go.Proofs.YtphaeodcomgffaaGreat
set_option linter.unusedVariables false
set_option linter.unusedSimpArgs false
namespace Go.Proofs.YtphaeodcomgffaaGreat
open Go.RowKit

theorem live_deed {ro : Nat → Nat} {w : World} {X : Nat} {q : Rp} (h : RIs ro 10 w X C1 1 1 code1 [] (liveAt 9).1 q) :
    Calls Tryz.prog 22 #[ptr X] w fun e w' => ∃ ro' va vr vw a c, e = .returned (.agg (deedC 1 3 9 1 0 0 va vr vw (.slice a 1 c))) ∧ (deedC 1 3 9 1 0 0 va vr vw (.slice a 1 c)).all (·.oneCell') = true ∧ OwnL cF ro' 73 w' 74 1 (.slice a 1 c) [4618441417868443648] ∧ Mv ro [] w ro' w' := by
  obtain ⟨e1, e2, e3, e4, e5, e6, e7, e8, e9, e10⟩ := live_end
  refine (rdeed_walk 70 h (by decide) (by rw [e9]; decide) (by rw [e10]; decide) (by rw [e7]; decide)).mono ?_
  rintro e w' ⟨ro', va, vr, vw, vo, he, o1, o2, o3, o4, m⟩
  rw [e7] at o4
  obtain ⟨a1, c1, f1⟩ := o1.form
  obtain ⟨a2, c2, f2⟩ := o2.form
  obtain ⟨a3, c3, f3⟩ := o3.form
  obtain ⟨a, c, f4⟩ := o4.form
  have hm : (liveAt 9).1.mark = 3 := by unfold Rs.mark; rw [e1, e5]; rfl
  rw [hm, if_pos e1, if_pos e1, if_pos e1, e2, e3, e4, e6] at he
  subst f1 f2 f3 f4
  exact ⟨ro', _, _, _, a, c, he, by simp [deedC, Value.oneCell'], o4, m⟩
theorem three_kept {ro ro' : Nat → Nat} {w w' : World} {c1 c2 c3 : Array Value} {t1 t2 t3 : TypeId} (m : Mv ro [] (((w.alloc (.cells c1 t1)).alloc (.cells c2 t2)).alloc (.cells c3 t3)) ro' w') :
    w'.heap[w.heap.size]? = some (.cells c1 t1 (0, 0)) ∧ w'.heap[w.heap.size + 1]? = some (.cells c2 t2 (0, 0)) ∧ w'.heap[w.heap.size + 1 + 1]? = some (.cells c3 t3 (0, 0)) := by
  have e2 : ((w.alloc (.cells c1 t1)).alloc (.cells c2 t2)).heap.size = w.heap.size + 1 + 1 := by simp
  have h3 : w'.heap[w.heap.size + 1 + 1]? = some (.cells c3 t3 (0, 0)) := by
    rw [← e2]
    exact (m.block _ (by simp) (by simp)).trans (heap_alloc_new _ _)
  obtain ⟨h1, h2⟩ := two_kept (((Chg.refl [] ((w.alloc (.cells c1 t1)).alloc (.cells c2 t2))).alloc (.cells c3 t3)).trans m.chg)
  exact ⟨h1, h2, h3⟩
theorem rd_code1 {w : World} {b : Nat} (h : w.heap[b]? = some (.cells #[.int .i64 1, .int .i64 0, .float .f64 0, .int .i64 16, .int .i64 0, .float .f64 0, .int .i64 18, .int .i64 0, .float .f64 0, .int .i64 20, .int .i64 0, .float .f64 0] 117 (0, 0))) : RdC w (.slice (some ⟨b, 0, none⟩) 4 4) code1 := by
  refine .inr ⟨b, 0, 4, rfl, by decide, lt_of_heap h, fun i j hi hj => ?_⟩
  rw [cell_of_row w b _ _ _ _ h]
  have hi' : i < 4 := hi
  match i, j, hi', hj with
  | 0, 0, _, _ | 0, 1, _, _ | 0, 2, _, _ | 1, 0, _, _ | 1, 1, _, _ | 1, 2, _, _ | 2, 0, _, _ | 2, 1, _, _ | 2, 2, _, _ | 3, 0, _, _ | 3, 1, _, _ | 3, 2, _, _ => rfl
theorem words1_own (ro : Nat → Nat) (w : World) : OwnL cU (setRo ro w.heap.size 5) 5 (w.alloc (.cells #[.int .u64 0, .int .u64 0, .int .u64 3, .int .u64 0, .int .u64 0, .int .u64 4, .int .u64 4619567317775286272, .int .u64 4618441417868443648] 40)) 40 1 (.slice (some ⟨w.heap.size, 0, none⟩) 8 8) words1 := by
  have h := World.ownsRow_lit (base := 0) (size := 1) (e := 40) w #[.int .u64 0, .int .u64 0, .int .u64 3, .int .u64 0, .int .u64 0, .int .u64 4, .int .u64 4619567317775286272, .int .u64 4618441417868443648] 8 (Nat.zero_le _) (by decide) rfl
  refine ⟨h, fun k hk => ?_⟩
  simp only [Value.ownBlock, Option.some.injEq] at hk
  subst hk
  exact setRo_at _ _ _
set_option maxRecDepth 100000 in
set_option maxHeartbeats 8000000 in
theorem live_walk (w : World) : Calls Tryz.prog 15 #[] w fun e w' => e = .returned (.bool true) ∧ ∃ ro', Mv (fun _ => 0) [] w ro' w' := by
  have e20 := run_bits
  have NW := fun W => memnew_walk (fun _ => 0) 45 8 W (by decide) (by decide)
  unfold MemNewP at NW
  simp only [ptr] at NW
  have RW := fun ro W (v : Value) (h : RdC W v code1) => rnew_any ro 10 (by decide) C1 1 1 v (.slice none 0 0) code1 [] W C1_ok (by decide) (by decide) (by decide) h (.inl ⟨rfl, .inl rfl⟩) (by decide)
  unfold RNewP cfgV C1 at RW
  simp only [ptr] at RW
  have HRW := Lib.hid RW
  clear RW
  go_enter Tryz.func15, Tryz.ntmps15
  go_wp2_with (first
    | (go_at_call 17
       refine (NW _).mono ?_
       rintro e w2 ⟨MB, v, ro2, rfl, q2, m2⟩
       obtain ⟨z1, z2, z3⟩ := three_kept m2
       have hz1 := fun o => cell_of_row w2 _ o _ _ _ z1
       have hz3 := fun o => cell_of_row w2 _ o _ _ _ z3
       have RD := rd_code1 z2
       have M2 := Lib.hid (((((Mv.refl (fun _ => 0) [] w).alloc _).alloc _).alloc _).trans m2)
       have Q2 := Lib.hid q2
       clear m2 q2 z1 z2 z3)
    | (go_at_call 59
       refine (HRW.out ro2 _ _ RD).mono ?_
       rintro e w3 ⟨X, ro3, q, rfl, r3, m3⟩
       have R3 := Lib.hid r3
       have M3 := Lib.hid (M2.out.trans m3)
       have Q3 := Lib.hid (Q2.out.keep m3 (by simp) (by simp))
       clear r3 m3 hz1 hz3 RD))
  have OW := words1_own ro3 w3
  have MW : Mv ro3 [] w3 (setRo ro3 w3.heap.size 5) (w3.alloc (.cells #[.int .u64 0, .int .u64 0, .int .u64 3, .int .u64 0, .int .u64 0, .int .u64 4, .int .u64 4619567317775286272, .int .u64 4618441417868443648] 40)) := ((Mv.refl _ _ _).alloc _).give (Nat.le_refl _)
  have R4 := Lib.hid (show RIs _ 10 _ X C1 1 1 code1 [] (newRs (badS 1 code1) []) q from R3.out.keep MW (by simp))
  have Q4 := Lib.hid (show MemIs _ 45 _ MB v (words1.take 0 ++ List.replicate (8 - 0) 0) false 0 from Q3.out.keep MW (by simp) (by simp))
  have M4 := Lib.hid (M3.out.trans MW)
  have O4 := Lib.hid OW
  clear R3 Q3 M3 OW MW NW HRW M2 Q2
  generalize w3.alloc (.cells #[.int .u64 0, .int .u64 0, .int .u64 3, .int .u64 0, .int .u64 0, .int .u64 4, .int .u64 4619567317775286272, .int .u64 4618441417868443648] 40) = W4 at *
  generalize setRo ro3 w3.heap.size 5 = ro4 at *
  generalize w3.heap.size = WB at *
  have hf46 : ∀ y ∈ [46], ∀ k, k < w.heap.size → (fun _ : Nat => 0) k ≠ y := by intro y hy k hk; simp at hy; show (0 : Nat) ≠ y; omega
  go_loopw [41] (fun i wr => ∃ k : Nat, i = .int .i64 k ∧ k ≤ 8 ∧ RIs ro4 10 wr X C1 1 1 code1 [] (newRs (badS 1 code1) []) q ∧ MemIs ro4 45 wr MB v (words1.take k ++ List.replicate (8 - k) 0) false 0 ∧ OwnL cU ro4 5 wr 40 1 (.slice (some ⟨WB, 0, none⟩) 8 8) words1 ∧ Mv (fun _ => 0) [] w ro4 wr) (fun i _ => 8 - (intOf i).toNat)
  case atStart => exact ⟨0, rfl, by decide, R4.out, Q4.out, O4.out, M4.out⟩
  case round =>
    obtain ⟨k, rfl, hk, r, qm, o, hmv⟩ := hrel
    have RR := Lib.hid r
    have QQ := Lib.hid qm
    have OO := Lib.hid o
    have HMV := Lib.hid hmv
    by_cases hlt : k < 8
    · have hlt' : (k : Int) < 8 := by omega
      have hx := o.at1 cU_len (i := k) hlt
      simp only [cU, List.getElem?_cons_zero] at hx
      have hl : k < (words1.take k ++ List.replicate (8 - k) 0).length := by have : words1.length = 8 := rfl; simp; omega
      have hset : (words1.take k ++ List.replicate (8 - k) 0).set k (words1[k]'hlt) = words1.take (k + 1) ++ List.replicate (8 - (k + 1)) 0 := fill_set words1 0 k hlt
      have KW := poke_ok qm k (words1[k]'hlt) hl
      rw [hset] at KW
      generalize words1[k]'hlt = y at *
      have HKW := Lib.hid KW
      clear r qm o hmv KW hset
      go_wp2_with (go_at_call 43; refine HKW.out.mono ?_; rintro e w5 ⟨rfl, q5, m5⟩; have Q5 := Lib.hid q5; have M5 := Lib.hid m5; clear q5 m5)
      go_roundw
      case rel => exact ⟨k + 1, by go_num, by omega, RR.out.keep M5.out (by simp), Q5.out, OO.out.keep M5.out (by simp), ((HMV.out.mono (by simp)).trans M5.out).fresh hf46⟩
      case measure => simp [intOf]; omega
    · obtain rfl : k = 8 := by omega
      have r0 : RIs ro4 10 wr X C1 1 1 code1 [] (liveAt 0).1 q := by have := r; rw [bad1] at this; exact this
      have q0 : MemIs ro4 45 wr MB v (liveAt 0).2.1 (liveAt 0).2.2.1 (liveAt 0).2.2.2 := qm
      have R0 := Lib.hid r0
      have Q0 := Lib.hid q0
      clear r qm o hmv r0 q0 RR QQ OO
      go_wp2
      go_loopw [8, 9, 4] (fun a b c wr => ∃ (k : Nat) (ro' : Nat → Nat) (q' : Rp), a = .bool (k == 9) ∧ b = .int .i64 k ∧ c = .int .i64 0 ∧ k ≤ 9 ∧ RIs ro' 10 wr X C1 1 1 code1 [] (liveAt k).1 q' ∧ MemIs ro' 45 wr MB v (liveAt k).2.1 (liveAt k).2.2.1 (liveAt k).2.2.2 ∧ Mv (fun _ => 0) [] w ro' wr) (fun _ b _ _ => 9 - (intOf b).toNat)
      case atStart => exact ⟨0, ro4, q, rfl, rfl, rfl, by decide, R0.out, Q0.out, HMV.out⟩
      case round =>
        clear R0 Q0 HMV
        obtain ⟨k, ro', q', rfl, rfl, rfl, hk9, r, qm, hmv⟩ := hrel
        have HMV := Lib.hid hmv
        by_cases hlt9 : k < 9
        · have hlt' : (k : Int) < 9 := by omega
          have hk : (k == 9) = false := by simp; omega
          obtain ⟨w1', w2', w3'⟩ := live_wf k (by omega)
          obtain ⟨c0, c1⟩ := live_cnt k (by omega)
          have hst := live_steps k (by omega)
          obtain ⟨bb, hbb⟩ : ∃ bb, bb = (k + 1 == 9) := ⟨_, rfl⟩
          have ek8 : bb = (k == 8) := by rw [hbb]; simp
          have HBB := Lib.hid hbb
          have SW := runP_val (readerstep_walk C1_ok r qm (by decide) (by rw [w2']; decide) (by decide) (by decide) c0 (by omega) (by omega) (by omega) w1' (live_part k hlt9)) (show Value.tuple #[.bool bb, .int .i64 0] = _ from congrArg (fun b => Value.tuple #[.bool b, .int .i64 0]) (ek8.trans (live_over k hlt9).symm))
          have SW2 : Calls Tryz.prog 18 #[ptr X, ptr MB] wr (RunP ro' 10 45 wr X C1 1 1 code1 [] (liveAt (k + 1)).1 MB v (liveAt (k + 1)).2.1 (liveAt (k + 1)).2.2.1 (liveAt (k + 1)).2.2.2 (.tuple #[.bool bb, .int .i64 0])) := SW
          unfold RunP at SW2
          simp only [ptr] at SW2
          have PW : k = 3 → ∀ (ro2 : Nat → Nat) W, MemIs ro2 45 W MB v (liveAt (k + 1)).2.1 (liveAt (k + 1)).2.2.1 (liveAt (k + 1)).2.2.2 → Calls Tryz.prog 26 #[.pointer (some ⟨MB, 0, none⟩), .int .i64 4] W fun e w' => e = .returned (.tuple #[.int .u64 4, .int .i64 0]) ∧ ∃ q, w' = W.drewN q := fun h3 ro2 W hm => by
            subst h3
            have := peek_ok hm 4 (by rw [(live_wf 4 (by decide)).2.1]; decide)
            rw [live_word] at this
            exact this
          have HSW := Lib.hid SW2
          clear r qm hmv SW SW2 w1' w2' w3' c0 c1 hst ek8 hbb
          by_cases h3 : k = 3
          · have e3 : ((k : Int) == 3) = true := by simp [h3]
            have HPW := Lib.hid (PW h3)
            clear PW
            have hk3 : k + 1 ≤ 9 := by omega
            have hm3 : (k : Int) + 1 ≤ 9 := by omega
            go_wp2_with (first
              | (go_at_call 18; refine HSW.out.mono ?_; rintro e w5 ⟨rfl, ro5, q5, r5, n5, m5⟩; have R5 := Lib.hid r5; have N5 := Lib.hid n5; have M5 := Lib.hid m5; clear r5 n5 m5)
              | (go_at_call 26; refine (HPW.out _ _ N5.out).mono ?_; rintro e w6 ⟨rfl, nq6, e6⟩; have E6 := Lib.hid e6; clear e6))
            go_roundw
            case rel =>
              have mq : Mv ro5 [] w5 ro5 w6 := by rw [E6.out]; exact (Mv.refl _ _ _).drewN _
              exact ⟨k + 1, ro5, q5, by rw [HBB.out], by go_num, rfl, by omega, R5.out.keep mq (by simp), N5.out.keep mq (by simp) (by simp), ((HMV.out.mono (by simp)).trans (M5.out.trans (mq.mono (by simp)))).fresh (by intro y hy j hj; simp [rR] at hy; show (0 : Nat) ≠ y; omega)⟩
            case measure => simp [intOf]; omega
          · have e3 : ((k : Int) == 3) = false := by simp; omega
            clear PW
            go_wp2_with (go_at_call 18; refine HSW.out.mono ?_; rintro e w5 ⟨rfl, ro5, q5, r5, n5, m5⟩; have R5 := Lib.hid r5; have N5 := Lib.hid n5; have M5 := Lib.hid m5; clear r5 n5 m5)
            go_roundw
            case rel =>
              exact ⟨k + 1, ro5, q5, by rw [HBB.out], by go_num, rfl, by omega, R5.out, N5.out, ((HMV.out.mono (by simp)).trans M5.out).fresh (by intro y hy j hj; simp [rR] at hy; show (0 : Nat) ≠ y; omega)⟩
            case measure => simp [intOf]; omega
        · obtain rfl : k = 9 := by omega
          have DW := live_deed r
          obtain ⟨e1, e2, e3, e4, e5, e6, e7, e8, e9, e10⟩ := live_end
          have QM := Lib.hid qm
          have RR := Lib.hid r
          have HDW := Lib.hid DW
          have ord : (FloatKind.f64.format.order 4618441417868443648 4618441417868443648 == some Ordering.eq) = true := by decide +kernel
          simp only [ptr] at HDW
          clear r qm hmv DW e2 e3 e4 e5 e6 e7 e9 e10
          go_wp2_with (first
            | (go_at_call 22
               refine HDW.out.mono ?_
               rintro e w5 ⟨ro5, va, vr, vw, a, c, rfl, hall, od, m5⟩
               have OD := Lib.hid od
               have M5 := Lib.hid m5
               have HALL := Lib.hid hall
               clear od m5 hall)
            | (refine wpList_plain rfl (fun K hK => ?_)
               go_simp
               refine hK _ _ ?_
               refine wpList_store_row rfl 63 (.tmp 12) (.tmp 72) rfl _ (deedC 1 3 9 1 0 0 va vr vw (.slice a 1 c)) rfl rfl 63 _ (heap_alloc_new _ _) (by kernel_rfl) rfl HALL.out ?_
               have D5 : Blk (setRo ro5 w5.heap.size 79) 79 ((w5.alloc (.cells #[.int .i64 0, .int .i64 0, .int .i64 0, .int .i64 0, .slice none 0 0, .int .i64 0, .int .i64 0, .slice none 0 0, .slice none 0 0, .slice none 0 0, .int .i64 0, .int .i64 0, .int .i64 0, .int .i64 0, .int .i64 0, .int .i64 0, .int .i64 0, .int .i64 0, .int .i64 0] 63)).setRow w5.heap.size (deedC 1 3 9 1 0 0 va vr vw (.slice a 1 c))) w5.heap.size (deedC 1 3 9 1 0 0 va vr vw (.slice a 1 c)) 63 := (Blk.new ro5 79 w5 #[.int .i64 0, .int .i64 0, .int .i64 0, .int .i64 0, .slice none 0 0, .int .i64 0, .int .i64 0, .slice none 0 0, .slice none 0 0, .slice none 0 0, .int .i64 0, .int .i64 0, .int .i64 0, .int .i64 0, .int .i64 0, .int .i64 0, .int .i64 0, .int .i64 0, .int .i64 0] 63).setRow
               have N5 : Mv ro5 [] w5 (setRo ro5 w5.heap.size 79) ((w5.alloc (.cells #[.int .i64 0, .int .i64 0, .int .i64 0, .int .i64 0, .slice none 0 0, .int .i64 0, .int .i64 0, .slice none 0 0, .slice none 0 0, .slice none 0 0, .int .i64 0, .int .i64 0, .int .i64 0, .int .i64 0, .int .i64 0, .int .i64 0, .int .i64 0, .int .i64 0, .int .i64 0] 63)).setRow w5.heap.size (deedC 1 3 9 1 0 0 va vr vw (.slice a 1 c))) := (((Mv.refl ro5 [] w5).alloc (.cells #[.int .i64 0, .int .i64 0, .int .i64 0, .int .i64 0, .slice none 0 0, .int .i64 0, .int .i64 0, .slice none 0 0, .slice none 0 0, .slice none 0 0, .int .i64 0, .int .i64 0, .int .i64 0, .int .i64 0, .int .i64 0, .int .i64 0, .int .i64 0, .int .i64 0, .int .i64 0] 63)).give (r := 79) (Nat.le_refl _)).setRowNew (Nat.le_refl _) _
               have ox := (OD.out.keep N5 (by simp))
               have M6 := Lib.hid (M5.out.trans N5)
               generalize (w5.alloc (.cells #[.int .i64 0, .int .i64 0, .int .i64 0, .int .i64 0, .slice none 0 0, .int .i64 0, .int .i64 0, .slice none 0 0, .slice none 0 0, .slice none 0 0, .int .i64 0, .int .i64 0, .int .i64 0, .int .i64 0, .int .i64 0, .int .i64 0, .int .i64 0, .int .i64 0, .int .i64 0] 63)).setRow w5.heap.size (deedC 1 3 9 1 0 0 va vr vw (.slice a 1 c)) = w6 at *
               generalize setRo ro5 w5.heap.size 79 = ro6 at *
               generalize w5.heap.size = DB at *
               have hc5 := D5.cell
               unfold deedC at hc5
               have Q6 := QM.out.keep M6.out (by simp) (by simp)
               have R6 := RR.out.keep M6.out (by simp)
               have CW := mcount_walk Q6
               have FW := phase_walk R6
               rw [e8] at CW
               rw [e1] at FW
               obtain ⟨g, cp, eg, hg, q1, q2⟩ := ox.pos (by decide)
               simp only [Value.slice.injEq] at eg
               obtain ⟨rfl, -, rfl⟩ := eg
               have hx := ox.at1 cF_len (i := 0) (by decide)
               simp only [cF, List.getElem_cons_zero, List.getElem?_cons_zero] at hx
               simp only [ptr] at FW
               have HCW := Lib.hid CW
               have HFW := Lib.hid FW
               clear D5 N5 ox Q6 R6 CW FW)
            | (go_at_call 20; refine HCW.out.mono ?_; rintro e w7 ⟨rfl, rfl⟩)
            | (go_at_call 21; refine HFW.out.mono ?_; rintro e w7 ⟨rfl, rfl⟩))
          go_ret
          exact ⟨rfl, _, HMV.out.trans M6.out⟩
end Go.Proofs.YtphaeodcomgffaaGreat
