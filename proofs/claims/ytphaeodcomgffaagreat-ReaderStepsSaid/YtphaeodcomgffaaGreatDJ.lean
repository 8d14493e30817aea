import Derived.Test.YtphaeodcomgffaaGreatE6
import Derived.Test.YtphaeodcomgffaaGreatDE
import Derived.Test.YtphaeodcomgffaaGreatEG
set_option linter.unusedVariables false
set_option linter.unusedSimpArgs false
namespace Go.Proofs.YtphaeodcomgffaaGreat
open Go.RowKit

set_option maxRecDepth 100000 in
set_option maxHeartbeats 1000000 in
/-- A step of a reader that is over. -/
theorem rstep_over {ro : Nat → Nat} {r rm : Nat} {w : World} {X : Nat} {C : Cfg} {th tag : Int} {code : List Ins} {args : List Nat} {s : Rs} {q : Rp} {MB : Nat} {v : Value} {words : List Nat} {op : Bool} {cnt : Int} (h : RIs ro r w X C th tag code args s q) (hm : MemIs ro rm w MB v words op cnt) (hl : (words.length : Int) = 3 + C.threads + 3 * C.cells) (hp : s.part = 4) :
    Calls Tryz.prog 18 #[ptr X, ptr MB] w fun e w' => e = .returned (.tuple #[.bool false, .int .i64 3]) ∧ ∃ n, w' = w.drewN n := by
  have hc := h.blk.cell
  have hlt := h.blk.lt
  have LW := fun W (mv : Mv ro [] w ro W) => mlen_walk (hm.keep mv (by simp) (by simp))
  have hle : ¬ (words.length : Int) < 3 + C.threads + 3 * C.cells := by omega
  unfold xcells at hc
  simp only [hp, ptr] at hc LW ⊢
  clear h hm hp
  go_enter Tryz.func18, Tryz.ntmps18
  go_wp2
  go_quiet ((go_at_call 61; exact Calls.quiet_of_same ((LW _ ((Mv.refl _ _ _).drewN _)).mono fun e w' h => ⟨h.1, h.2⟩)))
  go_wp2
  go_ret2
  exact ⟨rfl, _, rfl⟩
end Go.Proofs.YtphaeodcomgffaaGreat
set_option linter.unusedVariables false
set_option linter.unusedSimpArgs false
namespace Go.Proofs.YtphaeodcomgffaaGreat
open Go.RowKit

/-! The document's reader: its deed. -/
def Dr.mark (d : Dr) : Int := if d.part = 1 then -1 else IntKind.i64.wrap d.stamp
theorem cell_lt {w : World} {a : Addr} {v : Value} (h : w.cell? a = some v) : a.block < w.heap.size := by
  by_cases hn : a.block < w.heap.size
  · exact hn
  · have h0 : w.heap[a.block]? = none := Array.getElem?_eq_none (by omega)
    simp [World.cell?, h0] at h
/-- What is read of the reader and its machine. -/
def DjS (B M : Nat) (tag part : Int) (stamp : Nat) (steps h c e : Int) (va vr vb vo : Value) (W : World) : Prop :=
  W.cell? ⟨B, 6, none⟩ = some (.pointer (some ⟨M, 0, none⟩)) ∧ W.cell? ⟨B, 8, none⟩ = some (.int .i64 tag) ∧ W.cell? ⟨B, 9, none⟩ = some va ∧ W.cell? ⟨B, 10, none⟩ = some (.int .i64 part) ∧ W.cell? ⟨B, 13, none⟩ = some (.int .u64 stamp) ∧ W.cell? ⟨B, 17, none⟩ = some (.int .i64 steps) ∧ W.cell? ⟨M, 14, none⟩ = some (.int .i64 h) ∧ W.cell? ⟨M, 15, none⟩ = some (.int .i64 c) ∧ W.cell? ⟨M, 16, none⟩ = some (.int .i64 e) ∧ W.cell? ⟨M, 17, none⟩ = some vo ∧ W.cell? ⟨M, 18, none⟩ = some vr ∧ W.cell? ⟨M, 19, none⟩ = some vb
def DeedZ : Array Value := #[.int .i64 0, .int .i64 0, .int .i64 0, .int .i64 0, .slice none 0 0, .int .i64 0, .int .i64 0, .slice none 0 0, .slice none 0 0, .slice none 0 0, .int .i64 0, .int .i64 0, .int .i64 0, .int .i64 0, .int .i64 0, .int .i64 0, .int .i64 0, .int .i64 0, .int .i64 0]
set_option maxRecDepth 100000 in
set_option maxHeartbeats 8000000 in
theorem ddeed_cells {ro : Nat → Nat} {w : World} {B M : Nat} {tag part steps h c e : Int} {stamp n1 n2 n3 n4 c1 c2 c3 c4 : Nat} {a1 a2 a3 a4 : Option Addr} (r0 : Nat)
    (H : ∀ ro' W, Mv ro [] w ro' W → DjS B M tag part stamp steps h c e (.slice a1 n1 c1) (.slice a2 n2 c2) (.slice a3 n3 c3) (.slice a4 n4 c4) W) (p1 : 1 ≤ part) (p4 : part ≤ 4) :
    Calls Tryz.prog 33 #[ptr B] w fun e' w' => e' = .returned (.agg (deedC tag (if part = 1 then -1 else IntKind.i64.wrap stamp) steps (if part = 4 then h else 0) (if part = 4 then c else 0) (if part = 4 then e else 0) (.slice a1 n1 c1) (.slice a2 n2 c2) (.slice a3 n3 c3) (.slice a4 n4 c4))) ∧ ∃ ro', Mv ro [] w ro' w' := by
  have M1 : Mv ro [] w (setRo ro w.heap.size (r0 + 1)) (w.alloc (.cells DeedZ 63)) := ((Mv.refl ro [] w).alloc _).give (Nat.le_refl _)
  have A1 : Blk (setRo ro w.heap.size (r0 + 1)) (r0 + 1) (w.alloc (.cells DeedZ 63)) w.heap.size DeedZ 63 := Blk.new _ _ _ _ _
  unfold DeedZ at M1 A1
  have HS := Lib.hid H
  have HM1 := Lib.hid M1
  have HA1 := Lib.hid A1
  have S0 := H _ _ (Mv.refl ro [] w)
  unfold DjS at S0
  obtain ⟨sM, sT, sA, sP, sS, sN, sH, sC, sE, sO, sR, sB⟩ := S0
  have ltB := cell_lt sM
  have ltM := cell_lt sH
  clear H M1 A1 sM sT sA sP sS sN sH sC sE sO sR sB
  simp only [ptr]
  go_enter Tryz.func33, Tryz.ntmps33
  go_wp2
  generalize hW1 : w.alloc (.cells #[.int .i64 0, .int .i64 0, .int .i64 0, .int .i64 0, .slice none 0 0, .int .i64 0, .int .i64 0, .slice none 0 0, .slice none 0 0, .slice none 0 0, .int .i64 0, .int .i64 0, .int .i64 0, .int .i64 0, .int .i64 0, .int .i64 0, .int .i64 0, .int .i64 0, .int .i64 0] 63) = w1 at *
  generalize setRo ro w.heap.size (r0 + 1) = ro1 at *
  have HS1 := Lib.hid fun roC W (mv : Mv ro1 [] w1 roC W) => HS.out roC W (HM1.out.trans mv)
  have ltA := HA1.out.lt
  clear hW1
  refine wp_region_noPanic ?_
  refine wp_region_T (S := DjS B M tag part stamp steps h c e (.slice a1 n1 c1) (.slice a2 n2 c2) (.slice a3 n3 c3) (.slice a4 n4 c4)) (last := 35) (by kernel_rfl) (HS1.out _ _ (Mv.refl _ _ _).drew) (fun hHeld => ?_)
  refine' wpAnyT_take (i := 0) (v := _) rfl (by kernel_rfl) (by kernel_rfl) (by kernel_rfl) (by kernel_rfl) (fun _ _ _ h => h) (Or.inl ⟨by rfl, ?hy0u106⟩) (by assumption) ?rest0u106
  case hy0u106 => (intro w hSw; unfold DjS at hSw; obtain ⟨sM, sT, sA, sP, sS, sN, sH, sC, sE, sO, sR, sB⟩ := hSw; go_simp; try with_reducible rfl)
  try simp only [Act.put, List.setIfInBounds_toArray, List.set_cons_zero, List.set_cons_succ]
  refine' wpAnyT_take (i := 1) (v := _) rfl (by kernel_rfl) (by kernel_rfl) (by kernel_rfl) (by kernel_rfl) (fun _ _ _ h => h) (Or.inl ⟨by rfl, ?hy1u107⟩) (by assumption) ?rest1u107
  case hy1u107 => (intro w hSw; unfold DjS at hSw; obtain ⟨sM, sT, sA, sP, sS, sN, sH, sC, sE, sO, sR, sB⟩ := hSw; go_simp; try with_reducible rfl)
  try simp only [Act.put, List.setIfInBounds_toArray, List.set_cons_zero, List.set_cons_succ]
  refine' wpAnyT_take (i := 2) (v := _) rfl (by kernel_rfl) (by kernel_rfl) (by kernel_rfl) (by kernel_rfl) (fun _ _ _ h => h) (Or.inl ⟨by rfl, ?hy2u108⟩) (by assumption) ?rest2u108
  case hy2u108 => (intro w hSw; unfold DjS at hSw; obtain ⟨sM, sT, sA, sP, sS, sN, sH, sC, sE, sO, sR, sB⟩ := hSw; go_simp; try with_reducible rfl)
  try simp only [Act.put, List.setIfInBounds_toArray, List.set_cons_zero, List.set_cons_succ]
  refine' wpAnyT_take (i := 3) (v := _) rfl (by kernel_rfl) (by kernel_rfl) (by kernel_rfl) (by kernel_rfl) (fun _ _ _ h => h) (Or.inl ⟨by rfl, ?hy3u109⟩) (by assumption) ?rest3u109
  case hy3u109 => (intro w hSw; unfold DjS at hSw; obtain ⟨sM, sT, sA, sP, sS, sN, sH, sC, sE, sO, sR, sB⟩ := hSw; go_simp; try with_reducible rfl)
  try simp only [Act.put, List.setIfInBounds_toArray, List.set_cons_zero, List.set_cons_succ]
  refine' wpAnyT_take (i := 4) (v := _) rfl (by kernel_rfl) (by kernel_rfl) (by kernel_rfl) (by kernel_rfl) (fun _ _ _ h => h) (Or.inl ⟨by rfl, ?hy4u110⟩) (by assumption) ?rest4u110
  case hy4u110 => (intro w hSw; unfold DjS at hSw; obtain ⟨sM, sT, sA, sP, sS, sN, sH, sC, sE, sO, sR, sB⟩ := hSw; go_simp; try with_reducible rfl)
  try simp only [Act.put, List.setIfInBounds_toArray, List.set_cons_zero, List.set_cons_succ]
  refine' wpAnyT_take (i := 5) (v := _) rfl (by kernel_rfl) (by kernel_rfl) (by kernel_rfl) (by kernel_rfl) (fun _ _ _ h => h) (Or.inl ⟨by rfl, ?hy5u111⟩) (by assumption) ?rest5u111
  case hy5u111 => (intro w hSw; unfold DjS at hSw; obtain ⟨sM, sT, sA, sP, sS, sN, sH, sC, sE, sO, sR, sB⟩ := hSw; go_simp; try with_reducible rfl)
  try simp only [Act.put, List.setIfInBounds_toArray, List.set_cons_zero, List.set_cons_succ]
  refine' wpAnyT_take (i := 6) (v := _) rfl (by kernel_rfl) (by kernel_rfl) (by kernel_rfl) (by kernel_rfl) (fun _ _ _ h => h) (Or.inl ⟨by rfl, ?hy6u112⟩) (by assumption) ?rest6u112
  case hy6u112 => (intro w hSw; unfold DjS at hSw; obtain ⟨sM, sT, sA, sP, sS, sN, sH, sC, sE, sO, sR, sB⟩ := hSw; go_simp; try with_reducible rfl)
  try simp only [Act.put, List.setIfInBounds_toArray, List.set_cons_zero, List.set_cons_succ]
  refine' wpAnyT_take (i := 7) (v := _) rfl (by kernel_rfl) (by kernel_rfl) (by kernel_rfl) (by kernel_rfl) (fun _ _ _ h => h) (Or.inl ⟨by rfl, ?hy7u113⟩) (by assumption) ?rest7u113
  case hy7u113 => (intro w hSw; unfold DjS at hSw; obtain ⟨sM, sT, sA, sP, sS, sN, sH, sC, sE, sO, sR, sB⟩ := hSw; go_simp; try with_reducible rfl)
  try simp only [Act.put, List.setIfInBounds_toArray, List.set_cons_zero, List.set_cons_succ]
  refine' wpAnyT_take (i := 8) (v := _) rfl (by kernel_rfl) (by kernel_rfl) (by kernel_rfl) (by kernel_rfl) (fun _ _ _ h => h) (Or.inl ⟨by rfl, ?hy8u114⟩) (by assumption) ?rest8u114
  case hy8u114 => (intro w hSw; unfold DjS at hSw; obtain ⟨sM, sT, sA, sP, sS, sN, sH, sC, sE, sO, sR, sB⟩ := hSw; go_simp; try with_reducible rfl)
  try simp only [Act.put, List.setIfInBounds_toArray, List.set_cons_zero, List.set_cons_succ]
  refine' wpAnyT_take (i := 9) (v := _) rfl (by kernel_rfl) (by kernel_rfl) (by kernel_rfl) (by kernel_rfl) (fun _ _ _ h => h) (Or.inl ⟨by rfl, ?hy9u115⟩) (by assumption) ?rest9u115
  case hy9u115 => (intro w hSw; unfold DjS at hSw; obtain ⟨sM, sT, sA, sP, sS, sN, sH, sC, sE, sO, sR, sB⟩ := hSw; go_simp; try with_reducible rfl)
  try simp only [Act.put, List.setIfInBounds_toArray, List.set_cons_zero, List.set_cons_succ]
  refine' wpAnyT_take (i := 10) (v := _) rfl (by kernel_rfl) (by kernel_rfl) (by kernel_rfl) (by kernel_rfl) (fun _ _ _ h => h) (Or.inl ⟨by rfl, ?hy10u116⟩) (by assumption) ?rest10u116
  case hy10u116 => (intro w hSw; unfold DjS at hSw; obtain ⟨sM, sT, sA, sP, sS, sN, sH, sC, sE, sO, sR, sB⟩ := hSw; go_simp; try with_reducible rfl)
  try simp only [Act.put, List.setIfInBounds_toArray, List.set_cons_zero, List.set_cons_succ]
  refine' wpAnyT_take (i := 11) (v := _) rfl (by kernel_rfl) (by kernel_rfl) (by kernel_rfl) (by kernel_rfl) (fun _ _ _ h => h) (Or.inl ⟨by rfl, ?hy11u117⟩) (by assumption) ?rest11u117
  case hy11u117 => (intro w hSw; unfold DjS at hSw; obtain ⟨sM, sT, sA, sP, sS, sN, sH, sC, sE, sO, sR, sB⟩ := hSw; go_simp; try with_reducible rfl)
  try simp only [Act.put, List.setIfInBounds_toArray, List.set_cons_zero, List.set_cons_succ]
  refine' wpAnyT_take (i := 12) (v := _) rfl (by kernel_rfl) (by kernel_rfl) (by kernel_rfl) (by kernel_rfl) (fun _ _ _ h => h) (Or.inl ⟨by rfl, ?hy12u118⟩) (by assumption) ?rest12u118
  case hy12u118 => (intro w hSw; unfold DjS at hSw; obtain ⟨sM, sT, sA, sP, sS, sN, sH, sC, sE, sO, sR, sB⟩ := hSw; go_simp; try with_reducible rfl)
  try simp only [Act.put, List.setIfInBounds_toArray, List.set_cons_zero, List.set_cons_succ]
  refine' wpAnyT_take (i := 13) (v := _) rfl (by kernel_rfl) (by kernel_rfl) (by kernel_rfl) (by kernel_rfl) (fun _ _ _ h => h) (Or.inl ⟨by rfl, ?hy13u119⟩) (by assumption) ?rest13u119
  case hy13u119 => (intro w hSw; unfold DjS at hSw; obtain ⟨sM, sT, sA, sP, sS, sN, sH, sC, sE, sO, sR, sB⟩ := hSw; go_simp; try with_reducible rfl)
  try simp only [Act.put, List.setIfInBounds_toArray, List.set_cons_zero, List.set_cons_succ]
  refine' wpAnyT_take (i := 14) (v := _) rfl (by kernel_rfl) (by kernel_rfl) (by kernel_rfl) (by kernel_rfl) (fun _ _ _ h => h) (Or.inl ⟨by rfl, ?hy14u120⟩) (by assumption) ?rest14u120
  case hy14u120 => (intro w hSw; unfold DjS at hSw; obtain ⟨sM, sT, sA, sP, sS, sN, sH, sC, sE, sO, sR, sB⟩ := hSw; go_simp; try with_reducible rfl)
  try simp only [Act.put, List.setIfInBounds_toArray, List.set_cons_zero, List.set_cons_succ]
  refine' wpAnyT_take (i := 15) (v := _) rfl (by kernel_rfl) (by kernel_rfl) (by kernel_rfl) (by kernel_rfl) (fun _ _ _ h => h) (Or.inl ⟨by rfl, ?hy15u121⟩) (by assumption) ?rest15u121
  case hy15u121 => (intro w hSw; unfold DjS at hSw; obtain ⟨sM, sT, sA, sP, sS, sN, sH, sC, sE, sO, sR, sB⟩ := hSw; go_simp; try with_reducible rfl)
  try simp only [Act.put, List.setIfInBounds_toArray, List.set_cons_zero, List.set_cons_succ]
  refine' wpAnyT_take (i := 16) (v := _) rfl (by kernel_rfl) (by kernel_rfl) (by kernel_rfl) (by kernel_rfl) (fun _ _ _ h => h) (Or.inl ⟨by rfl, ?hy16u122⟩) (by assumption) ?rest16u122
  case hy16u122 => (intro w hSw; unfold DjS at hSw; obtain ⟨sM, sT, sA, sP, sS, sN, sH, sC, sE, sO, sR, sB⟩ := hSw; go_simp; try with_reducible rfl)
  try simp only [Act.put, List.setIfInBounds_toArray, List.set_cons_zero, List.set_cons_succ]
  refine' wpAnyT_take (i := 17) (v := _) rfl (by kernel_rfl) (by kernel_rfl) (by kernel_rfl) (by kernel_rfl) (fun _ _ _ h => h) (Or.inl ⟨by rfl, ?hy17u123⟩) (by assumption) ?rest17u123
  case hy17u123 => (intro w hSw; unfold DjS at hSw; obtain ⟨sM, sT, sA, sP, sS, sN, sH, sC, sE, sO, sR, sB⟩ := hSw; go_simp; try with_reducible rfl)
  try simp only [Act.put, List.setIfInBounds_toArray, List.set_cons_zero, List.set_cons_succ]
  refine' wpAnyT_take (i := 18) (v := _) rfl (by kernel_rfl) (by kernel_rfl) (by kernel_rfl) (by kernel_rfl) (fun _ _ _ h => h) (Or.inl ⟨by rfl, ?hy18u124⟩) (by assumption) ?rest18u124
  case hy18u124 => (intro w hSw; unfold DjS at hSw; obtain ⟨sM, sT, sA, sP, sS, sN, sH, sC, sE, sO, sR, sB⟩ := hSw; go_simp; try with_reducible rfl)
  try simp only [Act.put, List.setIfInBounds_toArray, List.set_cons_zero, List.set_cons_succ]
  refine' wpAnyT_take (i := 19) (v := _) rfl (by kernel_rfl) (by kernel_rfl) (by kernel_rfl) (by kernel_rfl) (fun _ _ _ h => h) (Or.inl ⟨by rfl, ?hy19u125⟩) (by assumption) ?rest19u125
  case hy19u125 => (intro w hSw; unfold DjS at hSw; obtain ⟨sM, sT, sA, sP, sS, sN, sH, sC, sE, sO, sR, sB⟩ := hSw; go_simp; try with_reducible rfl)
  try simp only [Act.put, List.setIfInBounds_toArray, List.set_cons_zero, List.set_cons_succ]
  refine' wpAnyT_take (i := 20) (v := _) rfl (by kernel_rfl) (by kernel_rfl) (by kernel_rfl) (by kernel_rfl) (fun _ _ _ h => h) (Or.inl ⟨by rfl, ?hy20u126⟩) (by assumption) ?rest20u126
  case hy20u126 => (intro w hSw; unfold DjS at hSw; obtain ⟨sM, sT, sA, sP, sS, sN, sH, sC, sE, sO, sR, sB⟩ := hSw; go_simp; try with_reducible rfl)
  try simp only [Act.put, List.setIfInBounds_toArray, List.set_cons_zero, List.set_cons_succ]
  refine' wpAnyT_take (i := 21) (v := _) rfl (by kernel_rfl) (by kernel_rfl) (by kernel_rfl) (by kernel_rfl) (fun _ _ _ h => h) (Or.inl ⟨by rfl, ?hy21u127⟩) (by assumption) ?rest21u127
  case hy21u127 => (intro w hSw; unfold DjS at hSw; obtain ⟨sM, sT, sA, sP, sS, sN, sH, sC, sE, sO, sR, sB⟩ := hSw; go_simp; try with_reducible rfl)
  try simp only [Act.put, List.setIfInBounds_toArray, List.set_cons_zero, List.set_cons_succ]
  refine' wpAnyT_take (i := 22) (v := _) rfl (by kernel_rfl) (by kernel_rfl) (by kernel_rfl) (by kernel_rfl) (fun _ _ _ h => h) (Or.inl ⟨by rfl, ?hy22u128⟩) (by assumption) ?rest22u128
  case hy22u128 => (intro w hSw; unfold DjS at hSw; obtain ⟨sM, sT, sA, sP, sS, sN, sH, sC, sE, sO, sR, sB⟩ := hSw; go_simp; try with_reducible rfl)
  try simp only [Act.put, List.setIfInBounds_toArray, List.set_cons_zero, List.set_cons_succ]
  refine' wpAnyT_take (i := 23) (v := _) rfl (by kernel_rfl) (by kernel_rfl) (by kernel_rfl) (by kernel_rfl) (fun _ _ _ h => h) (Or.inl ⟨by rfl, ?hy23u129⟩) (by assumption) ?rest23u129
  case hy23u129 => (intro w hSw; unfold DjS at hSw; obtain ⟨sM, sT, sA, sP, sS, sN, sH, sC, sE, sO, sR, sB⟩ := hSw; go_simp; try with_reducible rfl)
  try simp only [Act.put, List.setIfInBounds_toArray, List.set_cons_zero, List.set_cons_succ]
  refine' wpAnyT_take (i := 24) (v := _) rfl (by kernel_rfl) (by kernel_rfl) (by kernel_rfl) (by kernel_rfl) (fun _ _ _ h => h) (Or.inl ⟨by rfl, ?hy24u130⟩) (by assumption) ?rest24u130
  case hy24u130 => (intro w hSw; unfold DjS at hSw; obtain ⟨sM, sT, sA, sP, sS, sN, sH, sC, sE, sO, sR, sB⟩ := hSw; go_simp; try with_reducible rfl)
  try simp only [Act.put, List.setIfInBounds_toArray, List.set_cons_zero, List.set_cons_succ]
  refine' wpAnyT_take (i := 25) (v := _) rfl (by kernel_rfl) (by kernel_rfl) (by kernel_rfl) (by kernel_rfl) (fun _ _ _ h => h) (Or.inl ⟨by rfl, ?hy25u131⟩) (by assumption) ?rest25u131
  case hy25u131 => (intro w hSw; unfold DjS at hSw; obtain ⟨sM, sT, sA, sP, sS, sN, sH, sC, sE, sO, sR, sB⟩ := hSw; go_simp; try with_reducible rfl)
  try simp only [Act.put, List.setIfInBounds_toArray, List.set_cons_zero, List.set_cons_succ]
  refine' wpAnyT_take (i := 26) (v := _) rfl (by kernel_rfl) (by kernel_rfl) (by kernel_rfl) (by kernel_rfl) (fun _ _ _ h => h) (Or.inl ⟨by rfl, ?hy26u132⟩) (by assumption) ?rest26u132
  case hy26u132 => (intro w hSw; unfold DjS at hSw; obtain ⟨sM, sT, sA, sP, sS, sN, sH, sC, sE, sO, sR, sB⟩ := hSw; go_simp; try with_reducible rfl)
  try simp only [Act.put, List.setIfInBounds_toArray, List.set_cons_zero, List.set_cons_succ]
  refine' wpAnyT_take (i := 27) (v := _) rfl (by kernel_rfl) (by kernel_rfl) (by kernel_rfl) (by kernel_rfl) (fun _ _ _ h => h) (Or.inl ⟨by rfl, ?hy27u133⟩) (by assumption) ?rest27u133
  case hy27u133 => (intro w hSw; unfold DjS at hSw; obtain ⟨sM, sT, sA, sP, sS, sN, sH, sC, sE, sO, sR, sB⟩ := hSw; go_simp; try with_reducible rfl)
  try simp only [Act.put, List.setIfInBounds_toArray, List.set_cons_zero, List.set_cons_succ]
  refine' wpAnyT_take (i := 28) (v := _) rfl (by kernel_rfl) (by kernel_rfl) (by kernel_rfl) (by kernel_rfl) (fun _ _ _ h => h) (Or.inl ⟨by rfl, ?hy28u134⟩) (by assumption) ?rest28u134
  case hy28u134 => (intro w hSw; unfold DjS at hSw; obtain ⟨sM, sT, sA, sP, sS, sN, sH, sC, sE, sO, sR, sB⟩ := hSw; go_simp; try with_reducible rfl)
  try simp only [Act.put, List.setIfInBounds_toArray, List.set_cons_zero, List.set_cons_succ]
  refine' wpAnyT_take (i := 29) (v := _) rfl (by kernel_rfl) (by kernel_rfl) (by kernel_rfl) (by kernel_rfl) (fun _ _ _ h => h) (Or.inl ⟨by rfl, ?hy29u135⟩) (by assumption) ?rest29u135
  case hy29u135 => (intro w hSw; unfold DjS at hSw; obtain ⟨sM, sT, sA, sP, sS, sN, sH, sC, sE, sO, sR, sB⟩ := hSw; go_simp; try with_reducible rfl)
  try simp only [Act.put, List.setIfInBounds_toArray, List.set_cons_zero, List.set_cons_succ]
  refine' wpAnyT_take (i := 30) (v := _) rfl (by kernel_rfl) (by kernel_rfl) (by kernel_rfl) (by kernel_rfl) (fun _ _ _ h => h) (Or.inl ⟨by rfl, ?hy30u136⟩) (by assumption) ?rest30u136
  case hy30u136 => (intro w hSw; unfold DjS at hSw; obtain ⟨sM, sT, sA, sP, sS, sN, sH, sC, sE, sO, sR, sB⟩ := hSw; go_simp; try with_reducible rfl)
  try simp only [Act.put, List.setIfInBounds_toArray, List.set_cons_zero, List.set_cons_succ]
  refine' wpAnyT_take (i := 31) (v := _) rfl (by kernel_rfl) (by kernel_rfl) (by kernel_rfl) (by kernel_rfl) (fun _ _ _ h => h) (Or.inl ⟨by rfl, ?hy31u137⟩) (by assumption) ?rest31u137
  case hy31u137 => (intro w hSw; unfold DjS at hSw; obtain ⟨sM, sT, sA, sP, sS, sN, sH, sC, sE, sO, sR, sB⟩ := hSw; go_simp; try with_reducible rfl)
  try simp only [Act.put, List.setIfInBounds_toArray, List.set_cons_zero, List.set_cons_succ]
  refine' wpAnyT_take (i := 32) (v := _) rfl (by kernel_rfl) (by kernel_rfl) (by kernel_rfl) (by kernel_rfl) (fun _ _ _ h => h) (Or.inl ⟨by rfl, ?hy32u138⟩) (by assumption) ?rest32u138
  case hy32u138 => (intro w hSw; unfold DjS at hSw; obtain ⟨sM, sT, sA, sP, sS, sN, sH, sC, sE, sO, sR, sB⟩ := hSw; go_simp; try with_reducible rfl)
  try simp only [Act.put, List.setIfInBounds_toArray, List.set_cons_zero, List.set_cons_succ]
  refine' wpAnyT_take (i := 33) (v := _) rfl (by kernel_rfl) (by kernel_rfl) (by kernel_rfl) (by kernel_rfl) (fun _ _ _ h => h) (Or.inl ⟨by rfl, ?hy33u139⟩) (by assumption) ?rest33u139
  case hy33u139 => (intro w hSw; unfold DjS at hSw; obtain ⟨sM, sT, sA, sP, sS, sN, sH, sC, sE, sO, sR, sB⟩ := hSw; go_simp; try with_reducible rfl)
  try simp only [Act.put, List.setIfInBounds_toArray, List.set_cons_zero, List.set_cons_succ]
  refine wpAnyT_one (i := 34) (by kernel_rfl) rfl (fun K hK => ?_)
  go_simp
  have mA : Mv ro1 [] w1 (setRo ro1 w1.heap.size (r0 + 2)) (w1.alloc (.cells #[.int .i64 0, .int .i64 0, .int .i64 0, .int .i64 0, .slice none 0 0, .int .i64 0, .int .i64 0, .slice none 0 0, .slice none 0 0, .slice none 0 0, .int .i64 0, .int .i64 0, .int .i64 0, .int .i64 0, .int .i64 0, .int .i64 0, .int .i64 0, .int .i64 0, .int .i64 0] 63)).drew := (((Mv.refl ro1 [] w1).alloc _).give (Nat.le_refl _)).drew
  have B0 : Blk (setRo ro1 w1.heap.size (r0 + 2)) (r0 + 2) (w1.alloc (.cells #[.int .i64 0, .int .i64 0, .int .i64 0, .int .i64 0, .slice none 0 0, .int .i64 0, .int .i64 0, .slice none 0 0, .slice none 0 0, .slice none 0 0, .int .i64 0, .int .i64 0, .int .i64 0, .int .i64 0, .int .i64 0, .int .i64 0, .int .i64 0, .int .i64 0, .int .i64 0] 63)).drew w1.heap.size #[.int .i64 0, .int .i64 0, .int .i64 0, .int .i64 0, .slice none 0 0, .int .i64 0, .int .i64 0, .slice none 0 0, .slice none 0 0, .slice none 0 0, .int .i64 0, .int .i64 0, .int .i64 0, .int .i64 0, .int .i64 0, .int .i64 0, .int .i64 0, .int .i64 0, .int .i64 0] 63 := (Blk.new ro1 (r0 + 2) w1 _ _).keep (Mv.refl _ [] _).drew (by simp)
  have hBB : w1.heap.size ≤ w1.heap.size := Nat.le_refl _
  generalize (w1.alloc (.cells #[.int .i64 0, .int .i64 0, .int .i64 0, .int .i64 0, .slice none 0 0, .int .i64 0, .int .i64 0, .slice none 0 0, .slice none 0 0, .slice none 0 0, .int .i64 0, .int .i64 0, .int .i64 0, .int .i64 0, .int .i64 0, .int .i64 0, .int .i64 0, .int .i64 0, .int .i64 0] 63)).drew = wA at *
  generalize setRo ro1 w1.heap.size (r0 + 2) = roA at *
  refine hK.out _ _ (.inr (HS1.out _ _ mA)) (fun hHx => ?_)
  have hHeld := hHx.resolve_left (by decide)
  clear hK K hHx
  refine wpAnyT_one (i := 35) (by kernel_rfl) rfl (fun K hK => ?_)
  rw [if_pos (by rfl)]
  refine wp_store_row 63 (.tmp 3) (.tmp 37) rfl _ #[.int .i64 0, .int .i64 0, .int .i64 0, .int .i64 tag, .slice a1 n1 c1, .int .i64 (-1), .int .i64 0, .slice a2 n2 c2, .slice a3 n3 c3, .slice a4 n4 c4, .int .i64 0, .int .i64 0, .int .i64 0, .int .i64 0, .int .i64 0, .int .i64 steps, .int .i64 0, .int .i64 0, .int .i64 0] rfl rfl 63 _ B0.heap (by kernel_rfl) rfl (by simp [Value.oneCell']) ?_
  have B1 : Blk roA (r0 + 2) (wA.setRow w1.heap.size #[.int .i64 0, .int .i64 0, .int .i64 0, .int .i64 tag, .slice a1 n1 c1, .int .i64 (-1), .int .i64 0, .slice a2 n2 c2, .slice a3 n3 c3, .slice a4 n4 c4, .int .i64 0, .int .i64 0, .int .i64 0, .int .i64 0, .int .i64 0, .int .i64 steps, .int .i64 0, .int .i64 0, .int .i64 0]) w1.heap.size #[.int .i64 0, .int .i64 0, .int .i64 0, .int .i64 tag, .slice a1 n1 c1, .int .i64 (-1), .int .i64 0, .slice a2 n2 c2, .slice a3 n3 c3, .slice a4 n4 c4, .int .i64 0, .int .i64 0, .int .i64 0, .int .i64 0, .int .i64 0, .int .i64 steps, .int .i64 0, .int .i64 0, .int .i64 0] 63 := B0.setRow
  have nF : Mv ro1 [] w1 roA (wA.setRow w1.heap.size #[.int .i64 0, .int .i64 0, .int .i64 0, .int .i64 tag, .slice a1 n1 c1, .int .i64 (-1), .int .i64 0, .slice a2 n2 c2, .slice a3 n3 c3, .slice a4 n4 c4, .int .i64 0, .int .i64 0, .int .i64 0, .int .i64 0, .int .i64 0, .int .i64 steps, .int .i64 0, .int .i64 0, .int .i64 0]) := mA.setRowNew hBB _
  refine hK.out _ _ (.inl rfl) (fun _ => ?_)
  clear hK K hHeld
  refine wpAnyT_done (by kernel_rfl) ?_ _
  refine NoPanic.normal ?_
  generalize wA.setRow w1.heap.size #[.int .i64 0, .int .i64 0, .int .i64 0, .int .i64 tag, .slice a1 n1 c1, .int .i64 (-1), .int .i64 0, .slice a2 n2 c2, .slice a3 n3 c3, .slice a4 n4 c4, .int .i64 0, .int .i64 0, .int .i64 0, .int .i64 0, .int .i64 0, .int .i64 steps, .int .i64 0, .int .i64 0, .int .i64 0] = Wf at *
  obtain ⟨BB, hq⟩ : ∃ BB, BB = w1.heap.size := ⟨_, rfl⟩
  rw [← hq] at B1
  have hBB2 : w1.heap.size ≤ BB := by omega
  simp only [← hq]
  clear hBB B0 mA
  have hBB := hBB2
  clear hBB2 hq
  have sF := HS1.out _ _ nF
  unfold DjS at sF
  obtain ⟨sM, sT, sA, sP, sS, sN, sH, sC, sE, sO, sR, sB⟩ := sF
  have hltB := B1.lt
  have BA := HA1.out.keep nF (by simp)
  have hltA := BA.lt
  have hAB : w.heap.size ≠ BB := by omega
  have hAB' : BB ≠ w.heap.size := by omega
  have ne1 : B ≠ BB := by omega
  have ne2 : M ≠ BB := by omega
  have hcB := B1.cell
  have hfB := B1.free
  have HB1 := Lib.hid B1
  have HBA := Lib.hid BA
  have HNF := Lib.hid nF
  clear B1 BA nF HS1 HA1
  by_cases h1 : part = 1
  · have h4 : ¬ part = 4 := by omega
    rw [h1] at sP
    have HBX := HBA
    have HNX := HNF
    clear hcB hfB sM sT sA sS sN sH sC sE sO sR sB
    go_wp2_with (
      refine wpList_load_mid rfl 63 (.tmp 3) rfl BB 0 rfl [.int .i64 0, .int .i64 0, .int .i64 0, .int .i64 tag, .slice a1 n1 c1, .int .i64 (-1), .int .i64 0, .slice a2 n2 c2, .slice a3 n3 c3, .slice a4 n4 c4, .int .i64 0, .int .i64 0, .int .i64 0, .int .i64 0, .int .i64 0, .int .i64 steps, .int .i64 0, .int .i64 0, .int .i64 0] _ ?hrange Tryz.underlying63 rfl (by kernel_rfl) ?_
      go_loud (case hrange => exact Blk.range (show Blk roA (r0 + 2) Wf BB #[.int .i64 0, .int .i64 0, .int .i64 0, .int .i64 tag, .slice a1 n1 c1, .int .i64 (-1), .int .i64 0, .slice a2 n2 c2, .slice a3 n3 c3, .slice a4 n4 c4, .int .i64 0, .int .i64 0, .int .i64 0, .int .i64 0, .int .i64 0, .int .i64 steps, .int .i64 0, .int .i64 0, .int .i64 0] 63 from HB1.out))
      refine wpList_store_row rfl 63 (.tmp 2) (.tmp 62) rfl w.heap.size #[.int .i64 0, .int .i64 0, .int .i64 0, .int .i64 tag, .slice a1 n1 c1, .int .i64 (-1), .int .i64 0, .slice a2 n2 c2, .slice a3 n3 c3, .slice a4 n4 c4, .int .i64 0, .int .i64 0, .int .i64 0, .int .i64 0, .int .i64 0, .int .i64 steps, .int .i64 0, .int .i64 0, .int .i64 0] rfl rfl 63 _ HBX.out.heap (by kernel_rfl) rfl (by simp [Value.oneCell']) ?_
      have BAz := HBX.out.setRow (ds := #[.int .i64 0, .int .i64 0, .int .i64 0, .int .i64 tag, .slice a1 n1 c1, .int .i64 (-1), .int .i64 0, .slice a2 n2 c2, .slice a3 n3 c3, .slice a4 n4 c4, .int .i64 0, .int .i64 0, .int .i64 0, .int .i64 0, .int .i64 0, .int .i64 steps, .int .i64 0, .int .i64 0, .int .i64 0])
      have nz := (HM1.out.trans HNX.out).setRowNew (Nat.le_refl _) #[.int .i64 0, .int .i64 0, .int .i64 0, .int .i64 tag, .slice a1 n1 c1, .int .i64 (-1), .int .i64 0, .slice a2 n2 c2, .slice a3 n3 c3, .slice a4 n4 c4, .int .i64 0, .int .i64 0, .int .i64 0, .int .i64 0, .int .i64 0, .int .i64 steps, .int .i64 0, .int .i64 0, .int .i64 0]
      clear HBX
      generalize World.setRow _ w.heap.size #[.int .i64 0, .int .i64 0, .int .i64 0, .int .i64 tag, .slice a1 n1 c1, .int .i64 (-1), .int .i64 0, .slice a2 n2 c2, .slice a3 n3 c3, .slice a4 n4 c4, .int .i64 0, .int .i64 0, .int .i64 0, .int .i64 0, .int .i64 0, .int .i64 steps, .int .i64 0, .int .i64 0, .int .i64 0] = Wz at *)
    refine bodyPost_ret (v := .agg #[.int .i64 0, .int .i64 0, .int .i64 0, .int .i64 tag, .slice a1 n1 c1, .int .i64 (-1), .int .i64 0, .slice a2 n2 c2, .slice a3 n3 c3, .slice a4 n4 c4, .int .i64 0, .int .i64 0, .int .i64 0, .int .i64 0, .int .i64 0, .int .i64 steps, .int .i64 0, .int .i64 0, .int .i64 0]) (results_cell_row Tryz.results33 _ _ w.heap.size _ _ (0, 0) _ rfl BAz.heap Tryz.underlying63 rfl (by kernel_rfl)) rfl ?_
    exact ⟨by first | rfl | (rw [if_pos h1, if_neg h4, if_neg h4, if_neg h4]; rfl) | (show Ending.returned _ = Ending.returned (Value.agg (deedC tag (IntKind.i64.wrap stamp) steps _ _ _ _ _ _ _)); rw [IntWalk.i64_left]; rfl), _, nz⟩
  · have hb1 : (1 : Int) < part := by omega
    by_cases h4 : part = 4
    · have W9 : Blk roA (r0 + 2) ((((Wf.setCell ⟨BB, 5, none⟩ (.int .i64 (wrap64 stamp))).setCell ⟨BB, 10, none⟩ (.int .i64 h)).setCell ⟨BB, 11, none⟩ (.int .i64 c)).setCell ⟨BB, 12, none⟩ (.int .i64 e)) BB #[.int .i64 0, .int .i64 0, .int .i64 0, .int .i64 tag, .slice a1 n1 c1, .int .i64 (wrap64 stamp), .int .i64 0, .slice a2 n2 c2, .slice a3 n3 c3, .slice a4 n4 c4, .int .i64 h, .int .i64 c, .int .i64 e, .int .i64 0, .int .i64 0, .int .i64 steps, .int .i64 0, .int .i64 0, .int .i64 0] 63 := (((HB1.out.put (i := 5) rfl).put (i := 10) rfl).put (i := 11) rfl).put (i := 12) rfl
      have nX := (((HNF.out.setNew (p := ⟨BB, 5, none⟩) hBB (.int .i64 (wrap64 stamp))).setNew (p := ⟨BB, 10, none⟩) hBB (.int .i64 h)).setNew (p := ⟨BB, 11, none⟩) hBB (.int .i64 c)).setNew (p := ⟨BB, 12, none⟩) hBB (.int .i64 e)
      have HNX := Lib.hid nX
      have mX : Mv roA [r0 + 2] Wf roA _ := (((((Mv.refl roA [r0 + 2] Wf).setCell (p := ⟨BB, 5, none⟩) (by rw [HB1.out.role]; simp) (.int .i64 (wrap64 stamp))).setCell (p := ⟨BB, 10, none⟩) (by rw [HB1.out.role]; simp) (.int .i64 h)).setCell (p := ⟨BB, 11, none⟩) (by rw [HB1.out.role]; simp) (.int .i64 c)).setCell (p := ⟨BB, 12, none⟩) (by rw [HB1.out.role]; simp) (.int .i64 e))
      have HBX := Lib.hid (HBA.out.keep mX (by simp))
      have HW9 := Lib.hid W9
      clear W9 nX mX
      rw [h4] at sP hb1
      go_wp2_with (
        refine wpList_load_mid rfl 63 (.tmp 3) rfl BB 0 rfl [.int .i64 0, .int .i64 0, .int .i64 0, .int .i64 tag, .slice a1 n1 c1, .int .i64 (wrap64 stamp), .int .i64 0, .slice a2 n2 c2, .slice a3 n3 c3, .slice a4 n4 c4, .int .i64 h, .int .i64 c, .int .i64 e, .int .i64 0, .int .i64 0, .int .i64 steps, .int .i64 0, .int .i64 0, .int .i64 0] _ ?hrange Tryz.underlying63 rfl (by kernel_rfl) ?_
        go_loud (case hrange => exact Blk.range (show Blk roA (r0 + 2) _ BB #[.int .i64 0, .int .i64 0, .int .i64 0, .int .i64 tag, .slice a1 n1 c1, .int .i64 (wrap64 stamp), .int .i64 0, .slice a2 n2 c2, .slice a3 n3 c3, .slice a4 n4 c4, .int .i64 h, .int .i64 c, .int .i64 e, .int .i64 0, .int .i64 0, .int .i64 steps, .int .i64 0, .int .i64 0, .int .i64 0] 63 from HW9.out))
        refine wpList_store_row rfl 63 (.tmp 2) (.tmp 62) rfl w.heap.size #[.int .i64 0, .int .i64 0, .int .i64 0, .int .i64 tag, .slice a1 n1 c1, .int .i64 (wrap64 stamp), .int .i64 0, .slice a2 n2 c2, .slice a3 n3 c3, .slice a4 n4 c4, .int .i64 h, .int .i64 c, .int .i64 e, .int .i64 0, .int .i64 0, .int .i64 steps, .int .i64 0, .int .i64 0, .int .i64 0] rfl rfl 63 _ HBX.out.heap (by kernel_rfl) rfl (by simp [Value.oneCell']) ?_
        have BAz := HBX.out.setRow (ds := #[.int .i64 0, .int .i64 0, .int .i64 0, .int .i64 tag, .slice a1 n1 c1, .int .i64 (wrap64 stamp), .int .i64 0, .slice a2 n2 c2, .slice a3 n3 c3, .slice a4 n4 c4, .int .i64 h, .int .i64 c, .int .i64 e, .int .i64 0, .int .i64 0, .int .i64 steps, .int .i64 0, .int .i64 0, .int .i64 0])
        have nz := (HM1.out.trans HNX.out).setRowNew (Nat.le_refl _) #[.int .i64 0, .int .i64 0, .int .i64 0, .int .i64 tag, .slice a1 n1 c1, .int .i64 (wrap64 stamp), .int .i64 0, .slice a2 n2 c2, .slice a3 n3 c3, .slice a4 n4 c4, .int .i64 h, .int .i64 c, .int .i64 e, .int .i64 0, .int .i64 0, .int .i64 steps, .int .i64 0, .int .i64 0, .int .i64 0]
        clear HBX
        generalize World.setRow _ w.heap.size #[.int .i64 0, .int .i64 0, .int .i64 0, .int .i64 tag, .slice a1 n1 c1, .int .i64 (wrap64 stamp), .int .i64 0, .slice a2 n2 c2, .slice a3 n3 c3, .slice a4 n4 c4, .int .i64 h, .int .i64 c, .int .i64 e, .int .i64 0, .int .i64 0, .int .i64 steps, .int .i64 0, .int .i64 0, .int .i64 0] = Wz at *)
      refine bodyPost_ret (v := .agg #[.int .i64 0, .int .i64 0, .int .i64 0, .int .i64 tag, .slice a1 n1 c1, .int .i64 (wrap64 stamp), .int .i64 0, .slice a2 n2 c2, .slice a3 n3 c3, .slice a4 n4 c4, .int .i64 h, .int .i64 c, .int .i64 e, .int .i64 0, .int .i64 0, .int .i64 steps, .int .i64 0, .int .i64 0, .int .i64 0]) (results_cell_row Tryz.results33 _ _ w.heap.size _ _ (0, 0) _ rfl BAz.heap Tryz.underlying63 rfl (by kernel_rfl)) rfl ?_
      exact ⟨by first | rfl | (rw [if_neg h1, if_pos h4, if_pos h4, if_pos h4]; rfl) | (show Ending.returned _ = Ending.returned (Value.agg (deedC tag (IntKind.i64.wrap stamp) steps _ _ _ _ _ _ _)); rw [IntWalk.i64_left]; rfl), _, nz⟩
    · have hb4 : (part == 4) = false := by simpa using h4
      have W9 : Blk roA (r0 + 2) (Wf.setCell ⟨BB, 5, none⟩ (.int .i64 (wrap64 stamp))) BB #[.int .i64 0, .int .i64 0, .int .i64 0, .int .i64 tag, .slice a1 n1 c1, .int .i64 (wrap64 stamp), .int .i64 0, .slice a2 n2 c2, .slice a3 n3 c3, .slice a4 n4 c4, .int .i64 0, .int .i64 0, .int .i64 0, .int .i64 0, .int .i64 0, .int .i64 steps, .int .i64 0, .int .i64 0, .int .i64 0] 63 := HB1.out.put (i := 5) rfl
      have nX := HNF.out.setNew (p := ⟨BB, 5, none⟩) hBB (.int .i64 (wrap64 stamp))
      have HNX := Lib.hid nX
      have mX : Mv roA [r0 + 2] Wf roA _ := (Mv.refl roA [r0 + 2] Wf).setCell (p := ⟨BB, 5, none⟩) (by rw [HB1.out.role]; simp) (.int .i64 (wrap64 stamp))
      have HBX := Lib.hid (HBA.out.keep mX (by simp))
      have HW9 := Lib.hid W9
      clear W9 nX mX
      go_wp2_with (
        refine wpList_load_mid rfl 63 (.tmp 3) rfl BB 0 rfl [.int .i64 0, .int .i64 0, .int .i64 0, .int .i64 tag, .slice a1 n1 c1, .int .i64 (wrap64 stamp), .int .i64 0, .slice a2 n2 c2, .slice a3 n3 c3, .slice a4 n4 c4, .int .i64 0, .int .i64 0, .int .i64 0, .int .i64 0, .int .i64 0, .int .i64 steps, .int .i64 0, .int .i64 0, .int .i64 0] _ ?hrange Tryz.underlying63 rfl (by kernel_rfl) ?_
        go_loud (case hrange => exact Blk.range (show Blk roA (r0 + 2) _ BB #[.int .i64 0, .int .i64 0, .int .i64 0, .int .i64 tag, .slice a1 n1 c1, .int .i64 (wrap64 stamp), .int .i64 0, .slice a2 n2 c2, .slice a3 n3 c3, .slice a4 n4 c4, .int .i64 0, .int .i64 0, .int .i64 0, .int .i64 0, .int .i64 0, .int .i64 steps, .int .i64 0, .int .i64 0, .int .i64 0] 63 from HW9.out))
        refine wpList_store_row rfl 63 (.tmp 2) (.tmp 62) rfl w.heap.size #[.int .i64 0, .int .i64 0, .int .i64 0, .int .i64 tag, .slice a1 n1 c1, .int .i64 (wrap64 stamp), .int .i64 0, .slice a2 n2 c2, .slice a3 n3 c3, .slice a4 n4 c4, .int .i64 0, .int .i64 0, .int .i64 0, .int .i64 0, .int .i64 0, .int .i64 steps, .int .i64 0, .int .i64 0, .int .i64 0] rfl rfl 63 _ HBX.out.heap (by kernel_rfl) rfl (by simp [Value.oneCell']) ?_
        have BAz := HBX.out.setRow (ds := #[.int .i64 0, .int .i64 0, .int .i64 0, .int .i64 tag, .slice a1 n1 c1, .int .i64 (wrap64 stamp), .int .i64 0, .slice a2 n2 c2, .slice a3 n3 c3, .slice a4 n4 c4, .int .i64 0, .int .i64 0, .int .i64 0, .int .i64 0, .int .i64 0, .int .i64 steps, .int .i64 0, .int .i64 0, .int .i64 0])
        have nz := (HM1.out.trans HNX.out).setRowNew (Nat.le_refl _) #[.int .i64 0, .int .i64 0, .int .i64 0, .int .i64 tag, .slice a1 n1 c1, .int .i64 (wrap64 stamp), .int .i64 0, .slice a2 n2 c2, .slice a3 n3 c3, .slice a4 n4 c4, .int .i64 0, .int .i64 0, .int .i64 0, .int .i64 0, .int .i64 0, .int .i64 steps, .int .i64 0, .int .i64 0, .int .i64 0]
        clear HBX
        generalize World.setRow _ w.heap.size #[.int .i64 0, .int .i64 0, .int .i64 0, .int .i64 tag, .slice a1 n1 c1, .int .i64 (wrap64 stamp), .int .i64 0, .slice a2 n2 c2, .slice a3 n3 c3, .slice a4 n4 c4, .int .i64 0, .int .i64 0, .int .i64 0, .int .i64 0, .int .i64 0, .int .i64 steps, .int .i64 0, .int .i64 0, .int .i64 0] = Wz at *)
      refine bodyPost_ret (v := .agg #[.int .i64 0, .int .i64 0, .int .i64 0, .int .i64 tag, .slice a1 n1 c1, .int .i64 (wrap64 stamp), .int .i64 0, .slice a2 n2 c2, .slice a3 n3 c3, .slice a4 n4 c4, .int .i64 0, .int .i64 0, .int .i64 0, .int .i64 0, .int .i64 0, .int .i64 steps, .int .i64 0, .int .i64 0, .int .i64 0]) (results_cell_row Tryz.results33 _ _ w.heap.size _ _ (0, 0) _ rfl BAz.heap Tryz.underlying63 rfl (by kernel_rfl)) rfl ?_
      exact ⟨by first | rfl | (rw [if_neg h1, if_neg h4, if_neg h4, if_neg h4]; rfl) | (show Ending.returned _ = Ending.returned (Value.agg (deedC tag (IntKind.i64.wrap stamp) steps _ _ _ _ _ _ _)); rw [IntWalk.i64_left]; rfl), _, nz⟩
theorem ddeed_walk {ro : Nat → Nat} {r : Nat} {w : World} {B C th tag vc args d M va p} {m : Ms} (h : DRI ro r w B C th tag vc args d m M va p) (p1 : 1 ≤ d.part) (p4 : d.part ≤ 4) :
    Calls Tryz.prog 33 #[ptr B] w fun e w' => e = .returned (.agg (deedC tag d.mark d.steps (if d.part = 4 then m.how else 0) (if d.part = 4 then m.ecode else 0) (if d.part = 4 then m.err else 0) va p.vr p.vb p.vo)) ∧ ∃ ro', Mv ro [] w ro' w' := by
  obtain ⟨a1, c1, e1, -⟩ := h.args.slice
  obtain ⟨a2, c2, e2, -⟩ := h.mach.reads.slice
  obtain ⟨a3, c3, e3, -⟩ := h.mach.writes.slice
  obtain ⟨a4, c4, e4, -⟩ := h.mach.out.slice
  unfold Dr.mark
  have K := fun ro' W (mv : Mv ro [] w ro' W) => show DjS B M tag d.part d.stamp d.steps m.how m.ecode m.err va p.vr p.vb p.vo W from by
    have x := (h.blk.keep mv (by simp)).cell
    have y := (h.mach.blk.keep mv (by simp)).cell
    exact ⟨x 6, x 8, x 9, x 10, x 13, x 17, y 14, y 15, y 16, y 17, y 18, y 19⟩
  rw [e1, e2, e3, e4] at K ⊢
  exact ddeed_cells 0 K p1 p4
end Go.Proofs.YtphaeodcomgffaaGreat
