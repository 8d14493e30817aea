import Derived.Test.YtphaeodcomgffaaGreatE4
import Derived.Test.YtphaeodcomgffaaGreatC0
import Derived.Laws.MakeOwn
import Derived.Test.YtphaeodcomgffaaGreatBU
import Derived.Test.YtphaeodcomgffaaGreatEA
set_option linter.unusedVariables false
set_option linter.unusedSimpArgs false
namespace Go.Proofs.YtphaeodcomgffaaGreat
open Go.RowKit

theorem infoU : (Tryz.prog.info? 40).map (fun i => (i.zero, i.size, i.bytes)) = some (some (.int .u64 0), 1, 8) := by kernel_rfl
theorem underU : Tryz.prog.underlying 28 = some (.slice 40) := by kernel_rfl
theorem size_alloc_le (w : World) (o : Obj) : (w.alloc o).heap.size ≤ w.heap.size + 1 := by simp
theorem zeros_flat (n : Nat) : (List.replicate n 0).flatMap cU = List.replicate n (.int .u64 0) := by
  induction n with
  | zero => rfl
  | succ n ih => rw [List.replicate_succ, List.replicate_succ, List.flatMap_cons, ih]; rfl
/-- A new row of zero words. -/
theorem OwnL.zeros (ro : Nat → Nat) (r : Nat) (w : World) (n : Nat) (hn : n ≤ maxLen) : OwnL cU (setRo ro w.heap.size r) r (w.alloc (.cells (madeCells #[.int .u64 0] n) 40)) 40 1 (.slice (some ⟨w.heap.size, 0, none⟩) n n) (List.replicate n 0) := by
  have h := World.ownsRow_lit (base := 0) (size := 1) (e := 40) w (madeCells #[.int .u64 0] n) n (Nat.zero_le _) hn (by rw [size_madeCells, Nat.mul_one])
  rw [toList_madeCells_one] at h
  refine ⟨by rw [List.length_replicate, zeros_flat]; exact h, fun k hk => ?_⟩
  simp only [Value.ownBlock, Option.some.injEq] at hk
  subst hk
  exact setRo_at _ _ _
def MemNewP (ro : Nat → Nat) (r : Nat) (n : Int) (w : World) (e : Ending) (w' : World) : Prop := ∃ B v ro', e = .returned (.tuple #[ptr B, .int .i64 0]) ∧ MemIs ro' r w' B v (List.replicate n.toNat 0) false 0 ∧ Mv ro [] w ro' w'
set_option maxRecDepth 100000 in
theorem memnew_walk (ro : Nat → Nat) (r : Nat) (n : Int) (w : World) (h1 : 1 ≤ n) (h2 : n ≤ 4096) :
    Calls Tryz.prog 17 #[.int .i64 n] w (MemNewP ro r n w) := by
  have hmk : ∀ u : World, (Instr.makeSlice 28 (.int .i64 n) (.int .i64 n)).run Tryz.prog u = .ok (.slice (some ⟨u.heap.size, 0, none⟩) n.toNat n.toNat) (u.alloc (.cells (madeCells #[.int .u64 0] n.toNat) 40)) := fun u => by
    obtain ⟨i, hi, hz, hs, hb⟩ := info_three infoU
    have := run_makeSlice (P := Tryz.prog) u 28 40 i (.int .u64 0) underU hi hz .i64 .i64 n n (by omega) (Int.le_refl _) (by rw [hs]; omega) (by rw [hb]; omega) (by omega)
    rw [hs, Nat.mul_one] at this
    exact this
  have e1 : ¬ n < 1 := by omega
  have e2 : ¬ 4096 < n := by omega
  have hm : n.toNat ≤ maxLen := by unfold maxLen; omega
  clear h1 h2
  go_enter Tryz.func17, Tryz.ntmps17
  go_wp2
  go_ret2
  have m1 : Mv ro [] w (setRo ro w.heap.size (r + 1)) (w.alloc (.cells (madeCells #[.int .u64 0] n.toNat) 40)) := ((Mv.refl ro [] w).alloc _).give (Nat.le_refl _)
  have m2 : Mv (setRo ro w.heap.size (r + 1)) [] (w.alloc (.cells (madeCells #[.int .u64 0] n.toNat) 40)) (setRo (setRo ro w.heap.size (r + 1)) (w.heap.size + 1) r) ((w.alloc (.cells (madeCells #[.int .u64 0] n.toNat) 40)).alloc (.cells #[.slice (some ⟨w.heap.size, 0, none⟩) n.toNat n.toNat, .bool false, .int .i64 0] 121)) := ((Mv.refl _ [] _).alloc _).give (size_alloc_le _ _)
  exact ⟨w.heap.size + 1, _, _, rfl, ⟨⟨alloc2_heap _ _ _ _, setRo_at _ _ _⟩, (OwnL.zeros ro (r + 1) w n.toNat hm).keep m2 (by simp)⟩, m1.trans m2⟩
set_option maxRecDepth 100000 in
theorem phase_walk {ro : Nat → Nat} {r : Nat} {w : World} {X C th tag code args s q} (h : RIs ro r w X C th tag code args s q) :
    Calls Tryz.prog 21 #[ptr X] w fun e w' => e = .returned (.int .i64 s.part) ∧ w' = w := by
  have hc := h.blk.cell
  unfold xcells at hc
  simp only [ptr] at hc ⊢
  clear h
  go_enter Tryz.func21, Tryz.ntmps21
  go_wp2
  go_ret
  exact ⟨rfl, rfl⟩
end Go.Proofs.YtphaeodcomgffaaGreat
set_option linter.unusedVariables false
set_option linter.unusedSimpArgs false
namespace Go.Proofs.YtphaeodcomgffaaGreat
open Go.RowKit

/-- A new row with these in it. -/
def CopyP {α : Type} (f : α → List Value) (E size : Nat) (ro : Nat → Nat) (r : Nat) (w : World) (m : List α) (e : Ending) (w' : World) : Prop :=
  ∃ v', e = .returned v' ∧ OwnL f (newRo ro w.heap.size r) r w' E size v' m ∧ Mv ro [] w (newRo ro w.heap.size r) w'
set_option maxRecDepth 100000 in
set_option maxHeartbeats 1000000 in
theorem out_walk {ro : Nat → Nat} {r : Nat} {w : World} {M C tag code m p} (ro0 : Nat → Nat) (r0 : Nat) (h : MIs ro r w M C tag code m p) (hl : m.out.length ≤ 65536) :
    Calls Tryz.prog 80 #[ptr M] w (CopyP cF 74 1 ro0 r0 w m.out) := by
  have hc := h.blk.cell 32
  unfold mcells at hc
  simp only [List.getElem?_toArray, List.getElem?_cons_succ, List.getElem?_cons_zero] at hc
  have rd := h.out.rd cF_len
  obtain ⟨a, c, e1⟩ := h.out.form
  rw [e1] at hc rd
  simp only [ptr]
  have RD := Lib.hid rd
  clear h rd e1
  go_enter Tryz.func80, Tryz.ntmps80
  go_wp2_with (at_builtin; refine wpList_copy elF cF_len cF_one ro0 r0 rfl (.const (.slice none 0 0)) (.tmp 6) rfl m.out _ rfl rfl RD.out (by omega) ?_; intro v3 w3 o3 m3; have O3 := Lib.hid o3; clear o3)
  go_ret
  exact ⟨v3, rfl, O3.out, m3⟩
set_option maxRecDepth 100000 in
set_option maxHeartbeats 1000000 in
theorem reads_walk {ro : Nat → Nat} {r : Nat} {w : World} {M C tag code m p} (ro0 : Nat → Nat) (r0 : Nat) (h : MIs ro r w M C tag code m p) (hl : m.reads.length ≤ 65536) :
    Calls Tryz.prog 78 #[ptr M] w (CopyP cT 76 2 ro0 r0 w m.reads) := by
  have hc := h.blk.cell 33
  unfold mcells at hc
  simp only [List.getElem?_toArray, List.getElem?_cons_succ, List.getElem?_cons_zero] at hc
  have rd := h.rds.rd cT_len
  obtain ⟨a, c, e1⟩ := h.rds.form
  rw [e1] at hc rd
  simp only [ptr]
  have RD := Lib.hid rd
  clear h rd e1
  go_enter Tryz.func78, Tryz.ntmps78
  go_wp2_with (at_builtin; refine wpList_copy elT cT_len cT_one ro0 r0 rfl (.const (.slice none 0 0)) (.tmp 6) rfl m.reads _ rfl rfl RD.out (by omega) ?_; intro v3 w3 o3 m3; have O3 := Lib.hid o3; clear o3)
  go_ret
  exact ⟨v3, rfl, O3.out, m3⟩
set_option maxRecDepth 100000 in
theorem end_walk {ro : Nat → Nat} {r : Nat} {w : World} {M C tag code m p} (h : MIs ro r w M C tag code m p) :
    Calls Tryz.prog 81 #[ptr M] w fun e w' => e = .returned (.agg #[.int .i64 m.how, .int .i64 m.ecode, .int .i64 m.err]) ∧ Below w.heap.size w w' := by
  have hc := h.blk.cell
  have hlt := h.blk.lt
  unfold mcells at hc
  simp only [ptr] at hc ⊢
  clear h
  go_enter Tryz.func81, Tryz.ntmps81
  go_wp2
  refine bodyPost_ret (v := .agg #[.int .i64 m.how, .int .i64 m.ecode, .int .i64 m.err]) (by simp [results, Tryz.results81, go_sem]) rfl ⟨rfl, ?_⟩
  exact (Below.refl _ _).alloc (Nat.le_refl _) _
end Go.Proofs.YtphaeodcomgffaaGreat
set_option linter.unusedVariables false
set_option linter.unusedSimpArgs false
namespace Go.Proofs.YtphaeodcomgffaaGreat
open Go.RowKit Go.ChangeMaps

theorem set_flatT (l : List (Int × Nat)) (i : Nat) (x : Int × Nat) : (l.set i x).flatMap cT = ((l.flatMap cT).set (i * 2) (.int .i64 x.1)).set (i * 2 + 1) (.float .f64 x.2) := by
  induction l generalizing i with
  | nil => simp
  | cons a l ih =>
    cases i with
    | zero => simp [cT]
    | succ i =>
      have := ih i
      rw [List.set_cons_succ, List.flatMap_cons, List.flatMap_cons, this]
      simp [cT, Nat.succ_mul]
/-- A touch laid into a row of touches. -/
theorem OwnL.setTE {ro : Nat → Nat} {r : Nat} {w : World} {E g n cap : Nat} {l : List (Int × Nat)} (h : OwnL cT ro r w E 2 (.slice (some ⟨g, 0, none⟩) n cap) l) (i : Nat) (x : Int × Nat) (hi : i < l.length) :
    OwnL cT ro r ((w.setCell ⟨g, i * 2, none⟩ (.int .i64 x.1)).setCell ⟨g, i * 2 + 1, none⟩ (.float .f64 x.2)) E 2 (.slice (some ⟨g, 0, none⟩) n cap) (l.set i x) := by
  have hl : n = l.length := by obtain ⟨a, c, e⟩ := h.form; cases e; rfl
  subst hl
  refine ⟨?_, fun k hk => h.role k hk⟩
  rw [set_flatT, List.length_set]
  exact ((h.own.stored _ _).1.stored _ _).1
theorem zeros_flatT (n : Nat) : (List.replicate n ((0 : Int), 0)).flatMap cT = (madeCells #[.int .i64 0, .float .f64 0] (n * 2)).toList := by
  apply List.ext_getElem?
  intro i
  by_cases hi : i < n * 2
  · have h1 := flatMap_at cT 2 cT_len (List.replicate n ((0 : Int), 0)) (i / 2) (i % 2) (by simp; omega) (by omega)
    rw [show i / 2 * 2 + i % 2 = i by omega] at h1
    rw [h1]
    simp only [List.getElem_replicate, madeCells, Array.toList_map, Array.toList_range, List.getElem?_map, List.getElem?_range hi, Option.map_some]
    rcases (by omega : i % 2 = 0 ∨ i % 2 = 1) with e | e <;> simp [cT, e]
  · rw [List.getElem?_eq_none (by rw [flatMap_len cT 2 cT_len]; simp; omega), List.getElem?_eq_none (by simp [size_madeCells]; omega)]
theorem OwnL.zerosT (ro : Nat → Nat) (r : Nat) (w : World) (n : Nat) (hn : n ≤ maxLen) : OwnL cT (setRo ro w.heap.size r) r (w.alloc (.cells (madeCells #[.int .i64 0, .float .f64 0] (n * 2)) 76)) 76 2 (.slice (some ⟨w.heap.size, 0, none⟩) n n) (List.replicate n (0, 0)) := by
  have h := World.ownsRow_lit (base := 0) (size := 2) (e := 76) w (madeCells #[.int .i64 0, .float .f64 0] (n * 2)) n (Nat.zero_le _) hn (by rw [size_madeCells])
  refine ⟨by rw [List.length_replicate, zeros_flatT]; exact h, fun k hk => ?_⟩
  simp only [Value.ownBlock, Option.some.injEq] at hk
  subst hk
  exact setRo_at _ _ _
theorem wrote_key {l : List (Int × Nat)} (hn : (l.map (·.1)).Nodup) {k : Nat} (hk : k < l.length) : wrote l l[k].1 = some l[k].2 := by
  induction l generalizing k with
  | nil => simp at hk
  | cons a l ih =>
    rw [List.map_cons, List.nodup_cons] at hn
    cases k with
    | zero => simp [wrote]
    | succ k =>
      have hk' : k < l.length := by simpa using hk
      have := ih hn.2 hk'
      have hne : a.1 ≠ l[k].1 := fun e => hn.1 (by rw [e]; exact List.mem_map.2 ⟨_, List.getElem_mem hk', rfl⟩)
      unfold wrote at this ⊢
      simp only [List.getElem_cons_succ, List.find?_cons]
      rw [show (a.1 == l[k].1) = false by simpa using hne]
      exact this
theorem run_lookup_plain {ro : Nat → Nat} {r : Nat} {w : World} {b : Nat} {l : List (Int × Nat)} (h : MapB ro r w b l) (c : Int) :
    (Instr.lookup 228 (.map (some b)) (.int .i64 c) false).run Tryz.prog w = .ok (.float .f64 ((wrote l c).getD 0)) w := by
  obtain ⟨es, clk, hb, he⟩ := h.heap
  have hf := findL_wrote c l 0
  unfold Instr.lookup
  simp only [Sem.run_bind, run_underlying underMap w, Result.andThen_ok, MapKept.run_getObj_map hb, Sem.run_pure, run_checkKey_int, run_findKey he]
  cases hq : findL c l 0 with
  | none =>
    rw [hq] at hf
    have : wrote l c = none := by simpa using hf.symm
    simp [this, Sem.run_bind, zeroFloat]
  | some p =>
    rw [hq] at hf
    obtain ⟨x, hx⟩ : ∃ x, wrote l c = some x := by cases hw : wrote l c with
      | none => rw [hw] at hf; simp at hf
      | some x => exact ⟨x, rfl⟩
    rw [hx] at hf
    simp at hf
    simp [hx, hf, Sem.run_bind]
theorem fill_set {α : Type} (l : List α) (z : α) (k : Nat) (hk : k < l.length) : (l.take k ++ List.replicate (l.length - k) z).set k l[k] = l.take (k + 1) ++ List.replicate (l.length - (k + 1)) z := by
  rw [show l.length - k = (l.length - (k + 1)) + 1 by omega, List.replicate_succ, List.set_append_right _ _ (by simp; omega), show k - (l.take k).length = 0 by simp; omega, List.set_cons_zero, List.take_add_one, List.getElem?_eq_getElem hk]
  simp only [Option.toList_some, List.append_assoc, List.singleton_append]
theorem OwnL.freeT {ro : Nat → Nat} {r : Nat} {w : World} {E g n cap : Nat} {l : List (Int × Nat)} (h : OwnL cT ro r w E 2 (.slice (some ⟨g, 0, none⟩) n cap) l) (hl : 0 < l.length) : ∀ o, w.frozen? ⟨g, o, none⟩ = false := fun o => by
  rcases h.own.2 with ⟨h1, h2⟩ | ⟨g', cap', cur, h1, hB, hg, hc, hm, hs, ht⟩
  · cases h1
  · cases h1
    exact frozen_of_row w g o _ _ hg
theorem fill_at {l : List (Int × Nat)} {k : Nat} (hk : k < l.length) (h : k < (l.take k ++ List.replicate (l.length - k) ((0 : Int), 0)).length) : (l.take k ++ List.replicate (l.length - k) ((0 : Int), 0))[k] = (0, 0) := by
  rw [List.getElem_append_right (by simp; omega)]
  simp
def SetRoP {α : Type} (f : α → List Value) (E size : Nat) (ro : Nat → Nat) (r : Nat) (w : World) (m : List α) (e : Ending) (w' : World) : Prop :=
  ∃ v' ro', e = .returned v' ∧ OwnL f ro' r w' E size v' m ∧ Mv ro [] w ro' w'
set_option maxRecDepth 100000 in
set_option maxHeartbeats 2000000 in
theorem ball_walk {ro : Nat → Nat} {r : Nat} {w : World} {B D : Nat} {v : Value} {l : List (Int × Nat)} {most : Int} (r0 : Nat) (h : BufR ro r w B D v l most) (hn : (l.map (·.1)).Nodup) (hl : l.length ≤ 65536) :
    Calls Tryz.prog 118 #[ptr B] w (SetRoP cT 76 2 ro r0 w l) := by
  have hmk : ∀ u : World, (Instr.makeSlice 59 (.int .i64 l.length) (.int .i64 l.length)).run Tryz.prog u = .ok (.slice (some ⟨u.heap.size, 0, none⟩) l.length l.length) (u.alloc (.cells (madeCells #[.int .i64 0, .float .f64 0] (l.length * 2)) 76)) := fun u => by
    obtain ⟨i, hi, hz, hs, hb⟩ := info_three infoT
    have := run_makeSlice (P := Tryz.prog) u 59 76 i _ underT hi hz .i64 .i64 l.length l.length (by omega) (Int.le_refl _) (by rw [hs]; omega) (by rw [hb]; omega) (by omega)
    rw [hs] at this
    simp only [Int.toNat_natCast] at this
    exact this
  have hc := h.blk.cell
  have hlt := h.blk.lt
  obtain ⟨p, c, e1⟩ := h.own.form
  rw [List.length_map] at e1
  subst e1
  simp only [ptr]
  have m1 : Mv ro [] w (setRo ro w.heap.size r0) (w.alloc (.cells (madeCells #[.int .i64 0, .float .f64 0] (l.length * 2)) 76)) := ((Mv.refl ro [] w).alloc _).give (Nat.le_refl _)
  have o1 := OwnL.zerosT ro r0 w l.length (by unfold maxLen; omega)
  have H1 := Lib.hid h
  clear h
  go_enter Tryz.func118, Tryz.ntmps118
  go_wp2
  generalize setRo ro w.heap.size r0 = ro1 at *
  generalize hW1 : w.alloc (.cells (madeCells #[.int .i64 0, .float .f64 0] (l.length * 2)) 76) = W1 at *
  have O1 := Lib.hid o1
  have M1 := Lib.hid m1
  clear hW1 o1 m1
  go_loopw [17] (fun i wr => ∃ k : Nat, i = .int .i64 k ∧ k ≤ l.length ∧ OwnL cT ro1 r0 wr 76 2 (.slice (some ⟨w.heap.size, 0, none⟩) l.length l.length) (l.take k ++ List.replicate (l.length - k) (0, 0)) ∧ Mv ro [] w ro1 wr) (fun i _ => l.length - (intOf i).toNat)
  case atStart => exact ⟨0, rfl, Nat.zero_le _, by simpa using O1.out, M1.out⟩
  case round =>
    obtain ⟨k, rfl, hk, hown, hmv⟩ := hrel
    by_cases hlt2 : k < l.length
    · have hb := H1.out.keep hmv (by simp) (by simp) (by simp)
      have hc1 := hb.blk.cell
      have hltB := hb.blk.lt
      obtain ⟨g, cp, e1, hg, q1, q2⟩ := hb.own.pos (by simp; omega)
      simp only [Value.slice.injEq, List.length_map] at e1
      obtain ⟨rfl, -, rfl⟩ := e1
      have hx := hb.own.at1 cI_len (i := k) (by simpa using hlt2)
      simp only [cI, List.getElem_map, List.getElem?_cons_zero] at hx
      have hlk := run_lookup_plain hb.map l[k].1
      rw [wrote_key hn hlt2] at hlk
      simp only [Option.getD_some] at hlk
      have hrow := hown.at cT_len (i := k) (j := 0) (by simp; omega) (by decide)
      have hrow1 := hown.at cT_len (i := k) (j := 1) (by simp; omega) (by decide)
      have hrf := hown.freeT (by simp; omega)
      rw [fill_at hlt2] at hrow hrow1
      simp only [cT, List.getElem?_cons_zero, List.getElem?_cons_succ, Nat.add_zero] at hrow hrow1
      have hset := hown.setTE k l[k] (by simp; omega)
      rw [fill_set l (0, 0) k hlt2] at hset
      have hro := hown.blk w.heap.size rfl
      have hlt3 : (k : Int) < l.length := by omega
      generalize l[k] = x at *
      have HS := Lib.hid hset
      have HMV := Lib.hid hmv
      have sf := run_store_float
      clear hb hown hset hmv
      go_wp2
      refine ⟨⟨k + 1, by go_num, by omega, HS.out, (HMV.out.setNew (Nat.le_refl _) _).setNew (Nat.le_refl _) _⟩, ?_⟩
      · simp [intOf]; omega
    · obtain rfl : k = l.length := by omega
      have ho : OwnL cT ro1 r0 wr 76 2 (.slice (some ⟨w.heap.size, 0, none⟩) l.length l.length) l := by simpa using hown
      have HO := Lib.hid ho
      have HMV := Lib.hid hmv
      clear hown ho hmv
      go_wp2
      go_ret
      exact ⟨_, ro1, rfl, HO.out, HMV.out⟩
end Go.Proofs.YtphaeodcomgffaaGreat
set_option linter.unusedVariables false
set_option linter.unusedSimpArgs false
namespace Go.Proofs.YtphaeodcomgffaaGreat
open Go.RowKit

set_option maxRecDepth 100000 in
theorem writes_walk {ro : Nat → Nat} {r : Nat} {w : World} {M C tag code m p} (r0 : Nat) (h : MIs ro r w M C tag code m p) (hl : m.writes.length ≤ 65536) :
    Calls Tryz.prog 79 #[ptr M] w (SetRoP cT 76 2 ro r0 w m.writes) := by
  have hc := h.blk.cell
  have BW := ball_walk r0 h.buf h.nd hl
  unfold mcells at hc
  simp only [ptr] at hc BW ⊢
  clear h
  go_enter Tryz.func79, Tryz.ntmps79
  go_wp2_with (go_at_call 118; refine BW.mono ?_; rintro e w1 ⟨v1, ro1, rfl, o1, m1⟩; have O1 := Lib.hid o1; clear o1)
  go_ret
  exact ⟨v1, ro1, rfl, O1.out, m1⟩
end Go.Proofs.YtphaeodcomgffaaGreat
