import Derived.Test.YtphaeodcomgffaaGreatEE
import Derived.Laws.CopyOwn
import Derived.Deep.WholeRow
set_option linter.unusedVariables false
set_option linter.unusedSimpArgs false
namespace Go.Proofs.YtphaeodcomgffaaGreat
open Go.RowKit

theorem cU_one (x : Nat) : ∀ u ∈ cU x, u.oneCell' = true := by intro u hu; simp [cU] at hu; subst hu; rfl
theorem words_own (ro : Nat → Nat) (r : Nat) (w : World) (l : List Nat) (hn : l.length ≤ maxLen) : OwnL cU (setRo ro w.heap.size r) r (w.alloc (.cells (l.flatMap cU).toArray 40)) 40 1 (.slice (some ⟨w.heap.size, 0, none⟩) l.length l.length) l := by
  have hl : (l.flatMap cU).length = l.length := by rw [flatMap_len cU 1 cU_len, Nat.mul_one]
  have h := World.ownsRow_lit (base := 0) (size := 1) (e := 40) w (l.flatMap cU).toArray l.length (Nat.zero_le _) hn (by simp [hl])
  refine ⟨by simpa using h, fun k hk => ?_⟩
  simp only [Value.ownBlock, Option.some.injEq] at hk
  subst hk
  exact setRo_at _ _ _
set_option maxRecDepth 100000 in
set_option maxHeartbeats 2000000 in
theorem mall_walk {ro : Nat → Nat} {r : Nat} {w : World} {B : Nat} {v : Value} {words : List Nat} {op : Bool} {cnt : Int} (r0 : Nat) (h : MemIs ro r w B v words op cnt) (h0 : 0 < words.length) (h1 : words.length ≤ 4096) :
    Calls Tryz.prog 41 #[ptr B] w fun e w' => ∃ v' ro', e = .returned v' ∧ OwnL cU ro' r0 w' 40 1 v' words ∧ Mv ro [] w ro' w' := by
  have hmk : ∀ u : World, (Instr.makeSlice 28 (.int .i64 words.length) (.int .i64 words.length)).run Tryz.prog u = .ok (.slice (some ⟨u.heap.size, 0, none⟩) words.length words.length) (u.alloc (.cells (madeCells #[.int .u64 0] words.length) 40)) := fun u => by
    obtain ⟨i, hi, hz, hs, hb⟩ := info_three infoU
    have := run_makeSlice (P := Tryz.prog) u 28 40 i (.int .u64 0) underU hi hz .i64 .i64 words.length words.length (by omega) (Int.le_refl _) (by rw [hs]; omega) (by rw [hb]; omega) (by omega)
    rw [hs, Nat.mul_one] at this
    exact this
  have hsz : (Tryz.prog.info? 40).map (·.size) = some 1 := by kernel_rfl
  have hc := h.blk.cell
  have hlt := h.blk.lt
  obtain ⟨g, cap, rfl, hg, -, -⟩ := h.own.pos h0
  have hrd : ∀ j u, (words.flatMap cU)[j]? = some u → (w.alloc (.cells (madeCells #[.int .u64 0] words.length) 40)).cell? (Addr.add ⟨g, 0, none⟩ j) = some u := fun j u hj => by
    have hl : (words.flatMap cU).length = words.length := by rw [flatMap_len cU 1 cU_len, Nat.mul_one]
    have hj' : j < words.length := by have := (List.getElem?_eq_some_iff.1 hj).1; omega
    have k := h.own.keep ((Mv.refl ro [] w).alloc (.cells (madeCells #[.int .u64 0] words.length) 40)) (by simp)
    rw [Addr.add_lit, Nat.zero_add, Own.cellAt k (by omega)]
    exact hj
  have hl : (words.flatMap cU).length = words.length := by rw [flatMap_len cU 1 cU_len, Nat.mul_one]
  have hall : ∀ u ∈ words.flatMap cU, u.oneCell' = true := fun u hu => by
    obtain ⟨x, _, hx⟩ := List.mem_flatMap.1 hu
    exact cU_one x u hx
  have hw : (w.alloc (.cells (madeCells #[.int .u64 0] words.length) 40)).setRow w.heap.size ((madeCells #[.int .u64 0] words.length).toList.take 0 ++ (words.flatMap cU ++ (madeCells #[.int .u64 0] words.length).toList.drop (0 + (words.flatMap cU).length))).toArray = w.alloc (.cells (words.flatMap cU).toArray 40) := by
    rw [World.setRow_alloc_new, List.take_zero, List.nil_append, List.drop_eq_nil_of_le (by rw [Array.length_toList, size_madeCells, hl]; omega), List.append_nil]
  have HW := Lib.hid hw
  clear hw
  have OW := words_own ro r0 w words (by unfold maxLen; omega)
  simp only [ptr]
  have H := Lib.hid h
  have HRD := Lib.hid hrd
  have HALL := Lib.hid hall
  have HOW := Lib.hid OW
  have HL := Lib.hid hl
  clear h hrd hall OW hl
  go_enter Tryz.func41, Tryz.ntmps41
  go_wp2_with ((refine wpList_copy_own rfl (.tmp 10) (.tmp 14) 28 28 rfl 40 underU hsz w.heap.size 0 words.length words.length ⟨g, 0, none⟩ words.length cap rfl rfl (madeCells #[.int .u64 0] words.length) 40 (heap_alloc_new _ _) (words.flatMap cU) (by rw [HL.out]; simp) HRD.out (by rw [size_madeCells, HL.out]; simp) HALL.out ?_; rw [HW.out]))
  go_ret
  exact ⟨_, setRo ro w.heap.size r0, rfl, HOW.out, ((Mv.refl ro [] w).alloc _).give (Nat.le_refl _)⟩
end Go.Proofs.YtphaeodcomgffaaGreat
