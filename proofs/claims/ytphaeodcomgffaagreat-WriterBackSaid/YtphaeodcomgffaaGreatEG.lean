import Derived.Test.YtphaeodcomgffaaGreatEE
import Derived.Deep.RegionHeldLaw
import Derived.Laws.Tables
set_option linter.unusedVariables false
set_option linter.unusedSimpArgs false
namespace Go.Proofs.YtphaeodcomgffaaGreat
open Go.RowKit

theorem packM {α : Type} {f : α → List Value} {ro roA roX : Nat → Nat} {r E size : Nat} {w W w' : World} {v : Value} {m : List α} (o : OwnL f roX r w' E size v m) (mv : Mv roA [] W roX w') (n : Mv ro [] w roA W) : ∃ ro', OwnL f ro' r w' E size v m ∧ Mv roA [] W ro' w' ∧ Mv ro [] w ro' w' := ⟨roX, o, mv, n.trans mv⟩
theorem Blk.setRow {ro : Nat → Nat} {r : Nat} {w : World} {b cs ds t} (h : Blk ro r w b cs t) : Blk ro r (w.setRow b ds) b ds t := ⟨setRow_heap w b cs ds t (0, 0) h.heap, h.role⟩
theorem Mv.setRowNew {ro ro1 : Nat → Nat} {R : List Nat} {a b : World} (h : Mv ro R a ro1 b) {g : Nat} (hp : a.heap.size ≤ g) (cs : Array Value) : Mv ro R a ro1 (b.setRow g cs) :=
  ⟨h.ext, h.os, h.tape, h.output, by rw [setRow_size]; exact h.size, fun k hk hn => (setRow_other b g k cs (by omega)).trans (h.block k hk hn)⟩
theorem Blk.range {ro : Nat → Nat} {r : Nat} {w : World} {b t} {l : List Value} (h : Blk ro r w b l.toArray t) : w.rangeAt b 0 l := fun j v hv => by
  rw [Nat.zero_add, h.cell]
  simpa using hv
/-- A deed's cells. -/
def deedC (tag mark steps h c e : Int) (va vr vw vo : Value) : Array Value := #[.int .i64 0, .int .i64 0, .int .i64 0, .int .i64 tag, va, .int .i64 mark, .int .i64 0, vr, vw, vo, .int .i64 h, .int .i64 c, .int .i64 e, .int .i64 0, .int .i64 0, .int .i64 steps, .int .i64 0, .int .i64 0, .int .i64 0]
/-- A reader's deed: four rows of its own. -/
def DeedP (ro : Nat → Nat) (r0 : Nat) (w : World) (tag mark : Int) (args : List Nat) (s : Rs) (e : Ending) (w' : World) : Prop :=
  ∃ ro' va vr vw vo, e = .returned (.agg (deedC tag mark s.steps (if s.part = 4 then s.m.how else 0) (if s.part = 4 then s.m.ecode else 0) (if s.part = 4 then s.m.err else 0) va vr vw vo)) ∧
    OwnL cF ro' r0 w' 74 1 va (args.map fx) ∧ OwnL cT ro' (r0 + 1) w' 76 2 vr s.m.reads ∧ OwnL cT ro' (r0 + 2) w' 76 2 vw s.m.writes ∧ OwnL cF ro' (r0 + 3) w' 74 1 vo s.m.out ∧ Mv ro [] w ro' w'
set_option maxRecDepth 100000 in
set_option maxHeartbeats 8000000 in
theorem deed_walk {ro : Nat → Nat} {r : Nat} {w : World} {X C th tag code args s q} (r0 : Nat) (mark : Int) (h : RIs ro r w X C th tag code args s q) 
    (hl1 : args.length ≤ 8) (hl2 : s.m.reads.length ≤ 65536) (hl3 : s.m.writes.length ≤ 65536) (hl4 : s.m.out.length ≤ 65536) :
    Calls Tryz.prog 68 #[ptr X, .int .i64 mark] w (DeedP ro r0 w tag mark args s) := by
  obtain ⟨va1, va2, eva⟩ := h.args.form
  rw [List.length_map] at eva
  have RW : ∀ roC W, Mv ro [] w roC W → Calls Tryz.prog 78 #[ptr q.M] W (CopyP cT 76 2 roC (r0 + 1) W s.m.reads) := fun roC W mv => reads_walk roC (r0 + 1) (h.mach.keep0 mv) hl2
  have OW : ∀ roC W, Mv ro [] w roC W → Calls Tryz.prog 80 #[ptr q.M] W (CopyP cF 74 1 roC (r0 + 3) W s.m.out) := fun roC W mv => out_walk roC (r0 + 3) (h.mach.keep0 mv) hl4
  have WW : ∀ roC W, Mv ro [] w roC W → Calls Tryz.prog 79 #[ptr q.M] W (SetRoP cT 76 2 roC (r0 + 2) W s.m.writes) := fun roC W mv => writes_walk (r0 + 2) (h.mach.keep0 mv) hl3
  have EW : ∀ roC W, Mv ro [] w roC W → Calls Tryz.prog 81 #[ptr q.M] W fun e w' => e = .returned (.agg #[.int .i64 s.m.how, .int .i64 s.m.ecode, .int .i64 s.m.err]) ∧ Below W.heap.size W w' := fun roC W mv => end_walk (h.mach.keep0 mv)
  have S0 : ∀ roC W, Mv ro [] w roC W → (W.cell? ⟨X, 6, none⟩ = some (ptr q.M) ∧ W.cell? ⟨X, 7, none⟩ = some (.int .i64 tag) ∧ W.cell? ⟨X, 8, none⟩ = some q.va ∧ W.cell? ⟨X, 9, none⟩ = some (.int .i64 s.part) ∧ W.cell? ⟨X, 10, none⟩ = some (.int .i64 s.steps)) := fun roC W mv => by
    have := (h.blk.keep mv (by simp)).cell
    exact ⟨this 6, this 7, this 8, this 9, this 10⟩
  have AW : ∀ roC W, Mv ro [] w roC W → Rd W 1 q.va ((args.map fx).map cF) := fun roC W mv => (h.args.keep mv (by simp)).rd cF_len
  have hlt := h.blk.lt
  rw [eva] at AW S0
  simp only [ptr] at S0 RW OW WW EW ⊢
  have H := Lib.hid h
  have EVA := Lib.hid eva
  clear h eva
  go_enter Tryz.func68, Tryz.ntmps68
  go_wp2
  have N1 : Mv ro [] w (setRo ro w.heap.size (r0 + 4)) (w.alloc (.cells #[.int .i64 0, .int .i64 0, .int .i64 0, .int .i64 0, .slice none 0 0, .int .i64 0, .int .i64 0, .slice none 0 0, .slice none 0 0, .slice none 0 0, .int .i64 0, .int .i64 0, .int .i64 0, .int .i64 0, .int .i64 0, .int .i64 0, .int .i64 0, .int .i64 0, .int .i64 0] 63)) := ((Mv.refl ro [] w).alloc _).give (Nat.le_refl _)
  have A0 : Blk (setRo ro w.heap.size (r0 + 4)) (r0 + 4) (w.alloc (.cells #[.int .i64 0, .int .i64 0, .int .i64 0, .int .i64 0, .slice none 0 0, .int .i64 0, .int .i64 0, .slice none 0 0, .slice none 0 0, .slice none 0 0, .int .i64 0, .int .i64 0, .int .i64 0, .int .i64 0, .int .i64 0, .int .i64 0, .int .i64 0, .int .i64 0, .int .i64 0] 63)) w.heap.size #[.int .i64 0, .int .i64 0, .int .i64 0, .int .i64 0, .slice none 0 0, .int .i64 0, .int .i64 0, .slice none 0 0, .slice none 0 0, .slice none 0 0, .int .i64 0, .int .i64 0, .int .i64 0, .int .i64 0, .int .i64 0, .int .i64 0, .int .i64 0, .int .i64 0, .int .i64 0] 63 := Blk.new _ _ _ _ _
  generalize hW1 : w.alloc (.cells #[.int .i64 0, .int .i64 0, .int .i64 0, .int .i64 0, .slice none 0 0, .int .i64 0, .int .i64 0, .slice none 0 0, .slice none 0 0, .slice none 0 0, .int .i64 0, .int .i64 0, .int .i64 0, .int .i64 0, .int .i64 0, .int .i64 0, .int .i64 0, .int .i64 0, .int .i64 0] 63) = w1 at *
  generalize setRo ro w.heap.size (r0 + 4) = ro1 at *
  have HS1 := Lib.hid fun roC W (mv : Mv ro1 [] w1 roC W) => S0 roC W (N1.trans mv)
  have HRW := Lib.hid fun roC W (mv : Mv ro1 [] w1 roC W) => RW roC W (N1.trans mv)
  have HOW := Lib.hid fun roC W (mv : Mv ro1 [] w1 roC W) => OW roC W (N1.trans mv)
  have HWW := Lib.hid fun roC W (mv : Mv ro1 [] w1 roC W) => WW roC W (N1.trans mv)
  have HEW := Lib.hid fun roC W (mv : Mv ro1 [] w1 roC W) => EW roC W (N1.trans mv)
  have HAW := Lib.hid fun roC W (mv : Mv ro1 [] w1 roC W) => AW roC W (N1.trans mv)
  have HA0 := Lib.hid A0
  have HN1 := Lib.hid N1
  have hAlt := A0.lt
  clear RW OW WW EW AW S0 N1 hW1 A0
  refine wp_region_noPanic ?_
  refine wp_region_held_drew (S := fun W => (W.cell? ⟨X, 6, none⟩ = some (.pointer (some ⟨q.M, 0, none⟩)) ∧ W.cell? ⟨X, 7, none⟩ = some (.int .i64 tag) ∧ W.cell? ⟨X, 8, none⟩ = some (.slice va1 args.length va2) ∧ W.cell? ⟨X, 9, none⟩ = some (.int .i64 s.part) ∧ W.cell? ⟨X, 10, none⟩ = some (.int .i64 s.steps))) (by kernel_rfl) (HS1.out ro1 _ (Mv.refl _ _ _).drew) (fun hHeld => ?_)
  refine' wpAnyH_take (i := 0) (v := _) rfl (by kernel_rfl) (by kernel_rfl) (by kernel_rfl) (fun _ _ _ h => h) (Or.inl ⟨by kernel_rfl, ?hy1⟩) (by assumption) ?rest1
  case hy1 => (intro w hSw; (try dsimp only at hSw); go_simp; try with_reducible rfl)
  try simp only [Act.put, List.getElem_toArray, List.getElem_cons_succ, List.getElem_cons_zero, List.setIfInBounds_toArray, List.set_cons_zero, List.set_cons_succ]
  refine' wpAnyH_take (i := 1) (v := _) rfl (by kernel_rfl) (by kernel_rfl) (by kernel_rfl) (fun _ _ _ h => h) (Or.inl ⟨by kernel_rfl, ?hy2⟩) (by assumption) ?rest2
  case hy2 => (intro w hSw; (try dsimp only at hSw); go_simp; try with_reducible rfl)
  try simp only [Act.put, List.getElem_toArray, List.getElem_cons_succ, List.getElem_cons_zero, List.setIfInBounds_toArray, List.set_cons_zero, List.set_cons_succ]
  refine' wpAnyH_take (i := 2) (v := _) rfl (by kernel_rfl) (by kernel_rfl) (by kernel_rfl) (fun _ _ _ h => h) (Or.inl ⟨by kernel_rfl, ?hy3⟩) (by assumption) ?rest3
  case hy3 => (intro w hSw; (try dsimp only at hSw); go_simp; try with_reducible rfl)
  try simp only [Act.put, List.getElem_toArray, List.getElem_cons_succ, List.getElem_cons_zero, List.setIfInBounds_toArray, List.set_cons_zero, List.set_cons_succ]
  refine' wpAnyH_take (i := 3) (v := _) rfl (by kernel_rfl) (by kernel_rfl) (by kernel_rfl) (fun _ _ _ h => h) (Or.inl ⟨by kernel_rfl, ?hy4⟩) (by assumption) ?rest4
  case hy4 => (intro w hSw; (try dsimp only at hSw); go_simp; try with_reducible rfl)
  try simp only [Act.put, List.getElem_toArray, List.getElem_cons_succ, List.getElem_cons_zero, List.setIfInBounds_toArray, List.set_cons_zero, List.set_cons_succ]
  refine' wpAnyH_take (i := 4) (v := _) rfl (by kernel_rfl) (by kernel_rfl) (by kernel_rfl) (fun _ _ _ h => h) (Or.inl ⟨by kernel_rfl, ?hy5⟩) (by assumption) ?rest5
  case hy5 => (intro w hSw; (try dsimp only at hSw); go_simp; try with_reducible rfl)
  try simp only [Act.put, List.getElem_toArray, List.getElem_cons_succ, List.getElem_cons_zero, List.setIfInBounds_toArray, List.set_cons_zero, List.set_cons_succ]
  refine' wpAnyH_take (i := 5) (v := _) rfl (by kernel_rfl) (by kernel_rfl) (by kernel_rfl) (fun _ _ _ h => h) (Or.inl ⟨by kernel_rfl, ?hy6⟩) (by assumption) ?rest6
  case hy6 => (intro w hSw; (try dsimp only at hSw); go_simp; try with_reducible rfl)
  try simp only [Act.put, List.getElem_toArray, List.getElem_cons_succ, List.getElem_cons_zero, List.setIfInBounds_toArray, List.set_cons_zero, List.set_cons_succ]
  refine' wpAnyH_take (i := 6) (v := _) rfl (by kernel_rfl) (by kernel_rfl) (by kernel_rfl) (fun _ _ _ h => h) (Or.inl ⟨by kernel_rfl, ?hy7⟩) (by assumption) ?rest7
  case hy7 => (intro w hSw; (try dsimp only at hSw); go_simp; try with_reducible rfl)
  try simp only [Act.put, List.getElem_toArray, List.getElem_cons_succ, List.getElem_cons_zero, List.setIfInBounds_toArray, List.set_cons_zero, List.set_cons_succ]
  refine' wpAnyH_take (i := 7) (v := _) rfl (by kernel_rfl) (by kernel_rfl) (by kernel_rfl) (fun _ _ _ h => h) (Or.inl ⟨by kernel_rfl, ?hy8⟩) (by assumption) ?rest8
  case hy8 => (intro w hSw; (try dsimp only at hSw); go_simp; try with_reducible rfl)
  try simp only [Act.put, List.getElem_toArray, List.getElem_cons_succ, List.getElem_cons_zero, List.setIfInBounds_toArray, List.set_cons_zero, List.set_cons_succ]
  refine' wpAnyH_take (i := 9) (v := _) rfl (by kernel_rfl) (by kernel_rfl) (by kernel_rfl) (fun _ _ _ h => h) (Or.inl ⟨by kernel_rfl, ?hy9⟩) (by assumption) ?rest9
  case hy9 => (intro w hSw; (try dsimp only at hSw); go_simp; try with_reducible rfl)
  try simp only [Act.put, List.getElem_toArray, List.getElem_cons_succ, List.getElem_cons_zero, List.setIfInBounds_toArray, List.set_cons_zero, List.set_cons_succ]
  refine' wpAnyH_take (i := 10) (v := _) rfl (by kernel_rfl) (by kernel_rfl) (by kernel_rfl) (fun _ _ _ h => h) (Or.inl ⟨by kernel_rfl, ?hy10⟩) (by assumption) ?rest10
  case hy10 => (intro w hSw; (try dsimp only at hSw); go_simp; try with_reducible rfl)
  try simp only [Act.put, List.getElem_toArray, List.getElem_cons_succ, List.getElem_cons_zero, List.setIfInBounds_toArray, List.set_cons_zero, List.set_cons_succ]
  refine' wpAnyH_take (i := 11) (v := _) rfl (by kernel_rfl) (by kernel_rfl) (by kernel_rfl) (fun _ _ _ h => h) (Or.inl ⟨by kernel_rfl, ?hy11⟩) (by assumption) ?rest11
  case hy11 => (intro w hSw; (try dsimp only at hSw); go_simp; try with_reducible rfl)
  try simp only [Act.put, List.getElem_toArray, List.getElem_cons_succ, List.getElem_cons_zero, List.setIfInBounds_toArray, List.set_cons_zero, List.set_cons_succ]
  refine' wpAnyH_take (i := 12) (v := _) rfl (by kernel_rfl) (by kernel_rfl) (by kernel_rfl) (fun _ _ _ h => h) (Or.inl ⟨by kernel_rfl, ?hy12⟩) (by assumption) ?rest12
  case hy12 => (intro w hSw; (try dsimp only at hSw); go_simp; try with_reducible rfl)
  try simp only [Act.put, List.getElem_toArray, List.getElem_cons_succ, List.getElem_cons_zero, List.setIfInBounds_toArray, List.set_cons_zero, List.set_cons_succ]
  refine' wpAnyH_take (i := 13) (v := _) rfl (by kernel_rfl) (by kernel_rfl) (by kernel_rfl) (fun _ _ _ h => h) (Or.inl ⟨by kernel_rfl, ?hy13⟩) (by assumption) ?rest13
  case hy13 => (intro w hSw; (try dsimp only at hSw); go_simp; try with_reducible rfl)
  try simp only [Act.put, List.getElem_toArray, List.getElem_cons_succ, List.getElem_cons_zero, List.setIfInBounds_toArray, List.set_cons_zero, List.set_cons_succ]
  refine' wpAnyH_take (i := 15) (v := _) rfl (by kernel_rfl) (by kernel_rfl) (by kernel_rfl) (fun _ _ _ h => h) (Or.inl ⟨by kernel_rfl, ?hy14⟩) (by assumption) ?rest14
  case hy14 => (intro w hSw; (try dsimp only at hSw); go_simp; try with_reducible rfl)
  try simp only [Act.put, List.getElem_toArray, List.getElem_cons_succ, List.getElem_cons_zero, List.setIfInBounds_toArray, List.set_cons_zero, List.set_cons_succ]
  refine' wpAnyH_take (i := 16) (v := _) rfl (by kernel_rfl) (by kernel_rfl) (by kernel_rfl) (fun _ _ _ h => h) (Or.inl ⟨by kernel_rfl, ?hy15⟩) (by assumption) ?rest15
  case hy15 => (intro w hSw; (try dsimp only at hSw); go_simp; try with_reducible rfl)
  try simp only [Act.put, List.getElem_toArray, List.getElem_cons_succ, List.getElem_cons_zero, List.setIfInBounds_toArray, List.set_cons_zero, List.set_cons_succ]
  refine' wpAnyH_take (i := 17) (v := _) rfl (by kernel_rfl) (by kernel_rfl) (by kernel_rfl) (fun _ _ _ h => h) (Or.inl ⟨by kernel_rfl, ?hy16⟩) (by assumption) ?rest16
  case hy16 => (intro w hSw; (try dsimp only at hSw); go_simp; try with_reducible rfl)
  try simp only [Act.put, List.getElem_toArray, List.getElem_cons_succ, List.getElem_cons_zero, List.setIfInBounds_toArray, List.set_cons_zero, List.set_cons_succ]
  refine' wpAnyH_take (i := 18) (v := _) rfl (by kernel_rfl) (by kernel_rfl) (by kernel_rfl) (fun _ _ _ h => h) (Or.inl ⟨by kernel_rfl, ?hy17⟩) (by assumption) ?rest17
  case hy17 => (intro w hSw; (try dsimp only at hSw); go_simp; try with_reducible rfl)
  try simp only [Act.put, List.getElem_toArray, List.getElem_cons_succ, List.getElem_cons_zero, List.setIfInBounds_toArray, List.set_cons_zero, List.set_cons_succ]
  refine' wpAnyH_take (i := 20) (v := _) rfl (by kernel_rfl) (by kernel_rfl) (by kernel_rfl) (fun _ _ _ h => h) (Or.inl ⟨by kernel_rfl, ?hy18⟩) (by assumption) ?rest18
  case hy18 => (intro w hSw; (try dsimp only at hSw); go_simp; try with_reducible rfl)
  try simp only [Act.put, List.getElem_toArray, List.getElem_cons_succ, List.getElem_cons_zero, List.setIfInBounds_toArray, List.set_cons_zero, List.set_cons_succ]
  refine' wpAnyH_take (i := 21) (v := _) rfl (by kernel_rfl) (by kernel_rfl) (by kernel_rfl) (fun _ _ _ h => h) (Or.inl ⟨by kernel_rfl, ?hy19⟩) (by assumption) ?rest19
  case hy19 => (intro w hSw; (try dsimp only at hSw); go_simp; try with_reducible rfl)
  try simp only [Act.put, List.getElem_toArray, List.getElem_cons_succ, List.getElem_cons_zero, List.setIfInBounds_toArray, List.set_cons_zero, List.set_cons_succ]
  refine' wpAnyH_take (i := 22) (v := _) rfl (by kernel_rfl) (by kernel_rfl) (by kernel_rfl) (fun _ _ _ h => h) (Or.inl ⟨by kernel_rfl, ?hy20⟩) (by assumption) ?rest20
  case hy20 => (intro w hSw; (try dsimp only at hSw); go_simp; try with_reducible rfl)
  try simp only [Act.put, List.getElem_toArray, List.getElem_cons_succ, List.getElem_cons_zero, List.setIfInBounds_toArray, List.set_cons_zero, List.set_cons_succ]
  refine' wpAnyH_take (i := 23) (v := _) rfl (by kernel_rfl) (by kernel_rfl) (by kernel_rfl) (fun _ _ _ h => h) (Or.inl ⟨by kernel_rfl, ?hy21⟩) (by assumption) ?rest21
  case hy21 => (intro w hSw; (try dsimp only at hSw); go_simp; try with_reducible rfl)
  try simp only [Act.put, List.getElem_toArray, List.getElem_cons_succ, List.getElem_cons_zero, List.setIfInBounds_toArray, List.set_cons_zero, List.set_cons_succ]
  refine' wpAnyH_take (i := 25) (v := _) rfl (by kernel_rfl) (by kernel_rfl) (by kernel_rfl) (fun _ _ _ h => h) (Or.inl ⟨by kernel_rfl, ?hy22⟩) (by assumption) ?rest22
  case hy22 => (intro w hSw; (try dsimp only at hSw); go_simp; try with_reducible rfl)
  try simp only [Act.put, List.getElem_toArray, List.getElem_cons_succ, List.getElem_cons_zero, List.setIfInBounds_toArray, List.set_cons_zero, List.set_cons_succ]
  refine' wpAnyH_take (i := 26) (v := _) rfl (by kernel_rfl) (by kernel_rfl) (by kernel_rfl) (fun _ _ _ h => h) (Or.inl ⟨by kernel_rfl, ?hy23⟩) (by assumption) ?rest23
  case hy23 => (intro w hSw; (try dsimp only at hSw); go_simp; try with_reducible rfl)
  try simp only [Act.put, List.getElem_toArray, List.getElem_cons_succ, List.getElem_cons_zero, List.setIfInBounds_toArray, List.set_cons_zero, List.set_cons_succ]
  refine' wpAnyH_take (i := 27) (v := _) rfl (by kernel_rfl) (by kernel_rfl) (by kernel_rfl) (fun _ _ _ h => h) (Or.inl ⟨by kernel_rfl, ?hy24⟩) (by assumption) ?rest24
  case hy24 => (intro w hSw; (try dsimp only at hSw); go_simp; try with_reducible rfl)
  try simp only [Act.put, List.getElem_toArray, List.getElem_cons_succ, List.getElem_cons_zero, List.setIfInBounds_toArray, List.set_cons_zero, List.set_cons_succ]
  refine' wpAnyH_take (i := 28) (v := _) rfl (by kernel_rfl) (by kernel_rfl) (by kernel_rfl) (fun _ _ _ h => h) (Or.inl ⟨by kernel_rfl, ?hy25⟩) (by assumption) ?rest25
  case hy25 => (intro w hSw; (try dsimp only at hSw); go_simp; try with_reducible rfl)
  try simp only [Act.put, List.getElem_toArray, List.getElem_cons_succ, List.getElem_cons_zero, List.setIfInBounds_toArray, List.set_cons_zero, List.set_cons_succ]
  refine wpAnyH_ready (rs := [8, 30]) (by kernel_rfl) (by simp) ?_
  refine AllReadyH.cons rfl (fun K hK => ?_) ?_
  · skip
    try simp only [List.getElem_toArray, List.getElem_cons_succ, List.getElem_cons_zero]
    refine step_copy (a := ⟨_, _⟩) elF cF_len cF_one ro1 r0 rfl (.const (.slice none 0 0)) (.tmp 13) rfl (args.map fx) (.slice va1 args.length va2) rfl rfl (HAW.out ro1 _ (Mv.refl ro1 [] w1).drew) (by rw [List.length_map]; omega) ?_
    intro v8 w8 p8 k8
    obtain ⟨ro8, o8, m8, n8⟩ := packM p8 k8 (Mv.refl ro1 [] w1).drew
    clear p8 k8
    obtain ⟨a8, c8, ev8⟩ := o8.form
    rw [List.length_map] at ev8
    subst ev8
    refine hK.out _ _ (HS1.out ro8 _ n8) (fun hHeld => ?_)
    clear hK K
    refine wpAnyH_ready (rs := [14, 30]) (by kernel_rfl) (by simp) ?_
    refine AllReadyH.cons rfl (fun K hK => ?_) ?_
    · skip
      go_simp
      go_at_call 78
      refine (HRW.out ro8 _ n8).mono ?_
      rintro e w5 ⟨v5, rfl, p5, k5⟩
      obtain ⟨ro5, o5, m5, n5⟩ := packM p5 k5 n8
      clear p5 k5
      obtain ⟨a5, c5, ev5⟩ := o5.form
      subst ev5
      replace o8 := o8.keep (Mv.trans (Mv.refl ro8 [] w8) m5) (by simp)
      dsimp only
      refine hK.out _ _ (HS1.out ro5 _ n5) (fun hHeld => ?_)
      clear hK K
      refine wpAnyH_ready (rs := [19, 30]) (by kernel_rfl) (by simp) ?_
      refine AllReadyH.cons rfl (fun K hK => ?_) ?_
      · skip
        go_simp
        go_at_call 79
        refine (HWW.out ro5 _ n5).mono ?_
        rintro e w6 ⟨v6, ro6, rfl, o6, m6⟩
        have n6 := Mv.trans n5 m6
        obtain ⟨a6, c6, ev6⟩ := o6.form
        subst ev6
        replace o8 := o8.keep (Mv.trans (Mv.refl ro5 [] w5) m6) (by simp)
        replace o5 := o5.keep (Mv.trans (Mv.refl ro5 [] w5) m6) (by simp)
        dsimp only
        refine hK.out _ _ (HS1.out ro6 _ n6) (fun hHeld => ?_)
        clear hK K
        refine wpAnyH_ready (rs := [24, 30]) (by kernel_rfl) (by simp) ?_
        refine AllReadyH.cons rfl (fun K hK => ?_) ?_
        · skip
          go_simp
          go_at_call 80
          refine (HOW.out ro6 _ n6).mono ?_
          rintro e w7 ⟨v7, rfl, p7, k7⟩
          obtain ⟨ro7, o7, m7, n7⟩ := packM p7 k7 n6
          clear p7 k7
          obtain ⟨a7, c7, ev7⟩ := o7.form
          subst ev7
          replace o8 := o8.keep (Mv.trans (Mv.refl ro6 [] w6) m7) (by simp)
          replace o5 := o5.keep (Mv.trans (Mv.refl ro6 [] w6) m7) (by simp)
          replace o6 := o6.keep (Mv.trans (Mv.refl ro6 [] w6) m7) (by simp)
          dsimp only
          refine hK.out _ _ (HS1.out ro7 _ n7) (fun hHeld => ?_)
          clear hK K
          refine' wpAnyH_take (i := 29) (v := _) rfl (by kernel_rfl) (by kernel_rfl) (by kernel_rfl) (fun _ _ _ h => h) (Or.inl ⟨by kernel_rfl, ?hy26⟩) (by assumption) ?rest26
          case hy26 => (intro w hSw; (try dsimp only at hSw); go_simp; try with_reducible rfl)
          try simp only [Act.put, List.getElem_toArray, List.getElem_cons_succ, List.getElem_cons_zero, List.setIfInBounds_toArray, List.set_cons_zero, List.set_cons_succ]
          refine wpAnyH_ready (rs := [30]) (by kernel_rfl) (by simp) ?_
          refine AllReadyH.cons rfl (fun K hK => ?_) ?_
          rotate_left
          · exact AllReadyH.nil
          go_simp
          refine hK.out _ _ (HS1.out _ _ (n7.alloc _)) (fun hHeld => ?_)
          clear hK K
          have B0 := Blk.new ro7 (r0 + 4) w7 #[.int .i64 0, .int .i64 0, .int .i64 0, .int .i64 0, .slice none 0 0, .int .i64 0, .int .i64 0, .slice none 0 0, .slice none 0 0, .slice none 0 0, .int .i64 0, .int .i64 0, .int .i64 0, .int .i64 0, .int .i64 0, .int .i64 0, .int .i64 0, .int .i64 0, .int .i64 0] 63
          have hBB : w1.heap.size ≤ w7.heap.size := n7.size
          have mA : Mv ro7 [] w7 (setRo ro7 w7.heap.size (r0 + 4)) (w7.alloc (.cells #[.int .i64 0, .int .i64 0, .int .i64 0, .int .i64 0, .slice none 0 0, .int .i64 0, .int .i64 0, .slice none 0 0, .slice none 0 0, .slice none 0 0, .int .i64 0, .int .i64 0, .int .i64 0, .int .i64 0, .int .i64 0, .int .i64 0, .int .i64 0, .int .i64 0, .int .i64 0] 63)) := ((Mv.refl _ _ _).alloc _).give (Nat.le_refl _)
          replace o8 := o8.keep mA (by simp)
          replace o5 := o5.keep mA (by simp)
          replace o6 := o6.keep mA (by simp)
          replace o7 := o7.keep mA (by simp)
          replace n7 := n7.trans mA
          clear mA m7
          generalize w7.alloc (.cells #[.int .i64 0, .int .i64 0, .int .i64 0, .int .i64 0, .slice none 0 0, .int .i64 0, .int .i64 0, .slice none 0 0, .slice none 0 0, .slice none 0 0, .int .i64 0, .int .i64 0, .int .i64 0, .int .i64 0, .int .i64 0, .int .i64 0, .int .i64 0, .int .i64 0, .int .i64 0] 63) = wA at *
          generalize setRo ro7 w7.heap.size (r0 + 4) = roA at *
          refine wpAnyH_ready (rs := [31]) (by kernel_rfl) (by simp) ?_
          refine AllReadyH.cons rfl (fun K hK => ?_) ?_
          rotate_left
          · exact AllReadyH.nil
          try simp only [List.getElem_toArray, List.getElem_cons_succ, List.getElem_cons_zero]
          rw [if_pos (by kernel_rfl)]
          refine wp_store_row 63 (.tmp 5) (.tmp 35) rfl _ #[.int .i64 0, .int .i64 0, .int .i64 0, .int .i64 tag, .slice a8 args.length c8, .int .i64 mark, .int .i64 0, .slice a5 s.m.reads.length c5, .slice a6 s.m.writes.length c6, .slice a7 s.m.out.length c7, .int .i64 0, .int .i64 0, .int .i64 0, .int .i64 0, .int .i64 0, .int .i64 s.steps, .int .i64 0, .int .i64 0, .int .i64 0] rfl rfl 63 _ B0.heap (by kernel_rfl) rfl (by simp [Value.oneCell']) ?_
          have mF : Mv roA [r0 + 4] wA roA (wA.setRow w7.heap.size #[.int .i64 0, .int .i64 0, .int .i64 0, .int .i64 tag, .slice a8 args.length c8, .int .i64 mark, .int .i64 0, .slice a5 s.m.reads.length c5, .slice a6 s.m.writes.length c6, .slice a7 s.m.out.length c7, .int .i64 0, .int .i64 0, .int .i64 0, .int .i64 0, .int .i64 0, .int .i64 s.steps, .int .i64 0, .int .i64 0, .int .i64 0]) := (Mv.refl _ _ _).setRow (by rw [B0.role]; simp) _
          have nF : Mv ro1 [] w1 roA (wA.setRow w7.heap.size #[.int .i64 0, .int .i64 0, .int .i64 0, .int .i64 tag, .slice a8 args.length c8, .int .i64 mark, .int .i64 0, .slice a5 s.m.reads.length c5, .slice a6 s.m.writes.length c6, .slice a7 s.m.out.length c7, .int .i64 0, .int .i64 0, .int .i64 0, .int .i64 0, .int .i64 0, .int .i64 s.steps, .int .i64 0, .int .i64 0, .int .i64 0]) := n7.setRowNew hBB _
          have B1 : Blk roA (r0 + 4) (wA.setRow w7.heap.size #[.int .i64 0, .int .i64 0, .int .i64 0, .int .i64 tag, .slice a8 args.length c8, .int .i64 mark, .int .i64 0, .slice a5 s.m.reads.length c5, .slice a6 s.m.writes.length c6, .slice a7 s.m.out.length c7, .int .i64 0, .int .i64 0, .int .i64 0, .int .i64 0, .int .i64 0, .int .i64 s.steps, .int .i64 0, .int .i64 0, .int .i64 0]) w7.heap.size #[.int .i64 0, .int .i64 0, .int .i64 0, .int .i64 tag, .slice a8 args.length c8, .int .i64 mark, .int .i64 0, .slice a5 s.m.reads.length c5, .slice a6 s.m.writes.length c6, .slice a7 s.m.out.length c7, .int .i64 0, .int .i64 0, .int .i64 0, .int .i64 0, .int .i64 0, .int .i64 s.steps, .int .i64 0, .int .i64 0, .int .i64 0] 63 := B0.setRow
          have BA := HA0.out.keep nF (by simp)
          replace o8 := o8.keep mF (by simp)
          replace o5 := o5.keep mF (by simp)
          replace o6 := o6.keep mF (by simp)
          replace o7 := o7.keep mF (by simp)
          have sF := HS1.out _ _ nF
          refine hK.out _ _ sF (fun hHeld => ?_)
          clear hK K
          refine wpAnyH_done (by kernel_rfl) ?_ _
          refine NoPanic.normal ?_
          generalize wA.setRow w7.heap.size #[.int .i64 0, .int .i64 0, .int .i64 0, .int .i64 tag, .slice a8 args.length c8, .int .i64 mark, .int .i64 0, .slice a5 s.m.reads.length c5, .slice a6 s.m.writes.length c6, .slice a7 s.m.out.length c7, .int .i64 0, .int .i64 0, .int .i64 0, .int .i64 0, .int .i64 0, .int .i64 s.steps, .int .i64 0, .int .i64 0, .int .i64 0] = Wf at *
          generalize hq : w7.heap.size = BB at *
          replace hBB : w1.heap.size ≤ BB := by first | exact Nat.le_of_eq hq | exact hBB
          clear hq
          have hB := B1.cell
          obtain ⟨s6, s7, s8, s9, s10⟩ := sF
          have hltB := B1.lt
          have hltA : w.heap.size < Wf.heap.size := BA.lt
          have hAB : w.heap.size ≠ BB := by omega
          clear mF n7 B0
          try clear hHeld
          have O8 := Lib.hid o8
          have O5 := Lib.hid o5
          have O6 := Lib.hid o6
          have O7 := Lib.hid o7
          have HB1 := Lib.hid B1
          have HBA := Lib.hid BA
          have HNF := Lib.hid nF
          clear o8 o5 o6 o7 B1 BA nF
          by_cases hp : s.part = 4
          · rw [hp] at s9
            clear hB
            go_wp2_with (first
              | (go_at_call 81
                 refine (HEW.out roA _ HNF.out).mono ?_
                 rintro e w9 ⟨rfl, b9⟩
                 have B9 := HB1.out.keep (Mv.of_below (R := []) b9) (by simp)
                 have hB9 := B9.cell
                 have hBf9 := B9.free
                 have n9 := HNF.out.then_below b9
                 have HB12 := Lib.hid (show Blk roA (r0 + 4) (((w9.setCell ⟨BB, 10, none⟩ (.int .i64 s.m.how)).setCell ⟨BB, 11, none⟩ (.int .i64 s.m.ecode)).setCell ⟨BB, 12, none⟩ (.int .i64 s.m.err)) BB #[.int .i64 0, .int .i64 0, .int .i64 0, .int .i64 tag, .slice a8 args.length c8, .int .i64 mark, .int .i64 0, .slice a5 s.m.reads.length c5, .slice a6 s.m.writes.length c6, .slice a7 s.m.out.length c7, .int .i64 s.m.how, .int .i64 s.m.ecode, .int .i64 s.m.err, .int .i64 0, .int .i64 0, .int .i64 s.steps, .int .i64 0, .int .i64 0, .int .i64 0] 63 from ((B9.put (i := 10) rfl).put (i := 11) rfl).put (i := 12) rfl)
                 have hpB : roA BB ∈ [r0 + 4] := by rw [B9.role]; simp
                 have HmX := Lib.hid (show Mv roA [r0 + 4] Wf roA (((w9.setCell ⟨BB, 10, none⟩ (.int .i64 s.m.how)).setCell ⟨BB, 11, none⟩ (.int .i64 s.m.ecode)).setCell ⟨BB, 12, none⟩ (.int .i64 s.m.err)) from (Mv.of_below (R := [r0 + 4]) b9).trans ((((Mv.refl roA [r0 + 4] w9).setCell (p := ⟨BB, 10, none⟩) hpB _).setCell (p := ⟨BB, 11, none⟩) hpB _).setCell (p := ⟨BB, 12, none⟩) hpB _))
                 have HnX := Lib.hid (show Mv ro1 [] w1 roA (((w9.setCell ⟨BB, 10, none⟩ (.int .i64 s.m.how)).setCell ⟨BB, 11, none⟩ (.int .i64 s.m.ecode)).setCell ⟨BB, 12, none⟩ (.int .i64 s.m.err)) from ((n9.setNew (p := ⟨BB, 10, none⟩) hBB _).setNew (p := ⟨BB, 11, none⟩) hBB _).setNew (p := ⟨BB, 12, none⟩) hBB _)
                 have HBA9 := Lib.hid (HA0.out.keep HnX.out (by simp)))
              | (refine wpList_load_mid rfl 63 (.tmp 5) rfl BB 0 rfl [.int .i64 0, .int .i64 0, .int .i64 0, .int .i64 tag, .slice a8 args.length c8, .int .i64 mark, .int .i64 0, .slice a5 s.m.reads.length c5, .slice a6 s.m.writes.length c6, .slice a7 s.m.out.length c7, .int .i64 s.m.how, .int .i64 s.m.ecode, .int .i64 s.m.err, .int .i64 0, .int .i64 0, .int .i64 s.steps, .int .i64 0, .int .i64 0, .int .i64 0] _ HB12.out.range Tryz.underlying63 rfl (by kernel_rfl) ?_
                 refine wpList_store_row rfl 63 (.tmp 4) (.tmp 47) rfl w.heap.size #[.int .i64 0, .int .i64 0, .int .i64 0, .int .i64 tag, .slice a8 args.length c8, .int .i64 mark, .int .i64 0, .slice a5 s.m.reads.length c5, .slice a6 s.m.writes.length c6, .slice a7 s.m.out.length c7, .int .i64 s.m.how, .int .i64 s.m.ecode, .int .i64 s.m.err, .int .i64 0, .int .i64 0, .int .i64 s.steps, .int .i64 0, .int .i64 0, .int .i64 0] rfl rfl 63 _ HBA9.out.heap (by kernel_rfl) rfl (by simp [Value.oneCell']) ?_
                 have BAz := HBA9.out.setRow (ds := #[.int .i64 0, .int .i64 0, .int .i64 0, .int .i64 tag, .slice a8 args.length c8, .int .i64 mark, .int .i64 0, .slice a5 s.m.reads.length c5, .slice a6 s.m.writes.length c6, .slice a7 s.m.out.length c7, .int .i64 s.m.how, .int .i64 s.m.ecode, .int .i64 s.m.err, .int .i64 0, .int .i64 0, .int .i64 s.steps, .int .i64 0, .int .i64 0, .int .i64 0])
                 have mz := HmX.out.trans ((Mv.refl roA [r0 + 4] (((w9.setCell ⟨BB, 10, none⟩ (.int .i64 s.m.how)).setCell ⟨BB, 11, none⟩ (.int .i64 s.m.ecode)).setCell ⟨BB, 12, none⟩ (.int .i64 s.m.err))).setRow (g := w.heap.size) (by rw [HBA9.out.role]; simp) #[.int .i64 0, .int .i64 0, .int .i64 0, .int .i64 tag, .slice a8 args.length c8, .int .i64 mark, .int .i64 0, .slice a5 s.m.reads.length c5, .slice a6 s.m.writes.length c6, .slice a7 s.m.out.length c7, .int .i64 s.m.how, .int .i64 s.m.ecode, .int .i64 s.m.err, .int .i64 0, .int .i64 0, .int .i64 s.steps, .int .i64 0, .int .i64 0, .int .i64 0])
                 have nz := (HN1.out.trans HnX.out).setRowNew (Nat.le_refl _) #[.int .i64 0, .int .i64 0, .int .i64 0, .int .i64 tag, .slice a8 args.length c8, .int .i64 mark, .int .i64 0, .slice a5 s.m.reads.length c5, .slice a6 s.m.writes.length c6, .slice a7 s.m.out.length c7, .int .i64 s.m.how, .int .i64 s.m.ecode, .int .i64 s.m.err, .int .i64 0, .int .i64 0, .int .i64 s.steps, .int .i64 0, .int .i64 0, .int .i64 0]
                 clear HBA9 HmX HnX HB12 hB9 hBf9 B9 n9
                 generalize World.setRow _ w.heap.size #[.int .i64 0, .int .i64 0, .int .i64 0, .int .i64 tag, .slice a8 args.length c8, .int .i64 mark, .int .i64 0, .slice a5 s.m.reads.length c5, .slice a6 s.m.writes.length c6, .slice a7 s.m.out.length c7, .int .i64 s.m.how, .int .i64 s.m.ecode, .int .i64 s.m.err, .int .i64 0, .int .i64 0, .int .i64 s.steps, .int .i64 0, .int .i64 0, .int .i64 0] = Wz at *
                 have hz := BAz.cell))
            refine bodyPost_ret (v := .agg #[.int .i64 0, .int .i64 0, .int .i64 0, .int .i64 tag, .slice a8 args.length c8, .int .i64 mark, .int .i64 0, .slice a5 s.m.reads.length c5, .slice a6 s.m.writes.length c6, .slice a7 s.m.out.length c7, .int .i64 s.m.how, .int .i64 s.m.ecode, .int .i64 s.m.err, .int .i64 0, .int .i64 0, .int .i64 s.steps, .int .i64 0, .int .i64 0, .int .i64 0]) (results_cell_row Tryz.results68 _ _ w.heap.size _ _ (0, 0) _ rfl BAz.heap Tryz.underlying63 rfl (by kernel_rfl)) rfl ?_
            refine ⟨roA, _, _, _, _, ?_, O8.out.keep mz (by simp), O5.out.keep mz (by simp), O6.out.keep mz (by simp), O7.out.keep mz (by simp), nz⟩
            rw [if_pos hp, if_pos hp, if_pos hp]; rfl
          · have hp9 : (s.part == 4) = false := by simpa using hp
            clear hB
            go_wp2_with (
              refine wpList_load_mid rfl 63 (.tmp 5) rfl BB 0 rfl [.int .i64 0, .int .i64 0, .int .i64 0, .int .i64 tag, .slice a8 args.length c8, .int .i64 mark, .int .i64 0, .slice a5 s.m.reads.length c5, .slice a6 s.m.writes.length c6, .slice a7 s.m.out.length c7, .int .i64 0, .int .i64 0, .int .i64 0, .int .i64 0, .int .i64 0, .int .i64 s.steps, .int .i64 0, .int .i64 0, .int .i64 0] _ HB1.out.range Tryz.underlying63 rfl (by kernel_rfl) ?_
              refine wpList_store_row rfl 63 (.tmp 4) (.tmp 47) rfl w.heap.size #[.int .i64 0, .int .i64 0, .int .i64 0, .int .i64 tag, .slice a8 args.length c8, .int .i64 mark, .int .i64 0, .slice a5 s.m.reads.length c5, .slice a6 s.m.writes.length c6, .slice a7 s.m.out.length c7, .int .i64 0, .int .i64 0, .int .i64 0, .int .i64 0, .int .i64 0, .int .i64 s.steps, .int .i64 0, .int .i64 0, .int .i64 0] rfl rfl 63 _ HBA.out.heap (by kernel_rfl) rfl (by simp [Value.oneCell']) ?_
              have BAz := HBA.out.setRow (ds := #[.int .i64 0, .int .i64 0, .int .i64 0, .int .i64 tag, .slice a8 args.length c8, .int .i64 mark, .int .i64 0, .slice a5 s.m.reads.length c5, .slice a6 s.m.writes.length c6, .slice a7 s.m.out.length c7, .int .i64 0, .int .i64 0, .int .i64 0, .int .i64 0, .int .i64 0, .int .i64 s.steps, .int .i64 0, .int .i64 0, .int .i64 0])
              have mz := (Mv.refl roA [r0 + 4] Wf).setRow (g := w.heap.size) (by rw [HBA.out.role]; simp) #[.int .i64 0, .int .i64 0, .int .i64 0, .int .i64 tag, .slice a8 args.length c8, .int .i64 mark, .int .i64 0, .slice a5 s.m.reads.length c5, .slice a6 s.m.writes.length c6, .slice a7 s.m.out.length c7, .int .i64 0, .int .i64 0, .int .i64 0, .int .i64 0, .int .i64 0, .int .i64 s.steps, .int .i64 0, .int .i64 0, .int .i64 0]
              have nz := (HN1.out.trans HNF.out).setRowNew (Nat.le_refl _) #[.int .i64 0, .int .i64 0, .int .i64 0, .int .i64 tag, .slice a8 args.length c8, .int .i64 mark, .int .i64 0, .slice a5 s.m.reads.length c5, .slice a6 s.m.writes.length c6, .slice a7 s.m.out.length c7, .int .i64 0, .int .i64 0, .int .i64 0, .int .i64 0, .int .i64 0, .int .i64 s.steps, .int .i64 0, .int .i64 0, .int .i64 0]
              clear HBA HB1 HNF
              generalize World.setRow _ w.heap.size #[.int .i64 0, .int .i64 0, .int .i64 0, .int .i64 tag, .slice a8 args.length c8, .int .i64 mark, .int .i64 0, .slice a5 s.m.reads.length c5, .slice a6 s.m.writes.length c6, .slice a7 s.m.out.length c7, .int .i64 0, .int .i64 0, .int .i64 0, .int .i64 0, .int .i64 0, .int .i64 s.steps, .int .i64 0, .int .i64 0, .int .i64 0] = Wz at *
              have hz := BAz.cell)
            refine bodyPost_ret (v := .agg #[.int .i64 0, .int .i64 0, .int .i64 0, .int .i64 tag, .slice a8 args.length c8, .int .i64 mark, .int .i64 0, .slice a5 s.m.reads.length c5, .slice a6 s.m.writes.length c6, .slice a7 s.m.out.length c7, .int .i64 0, .int .i64 0, .int .i64 0, .int .i64 0, .int .i64 0, .int .i64 s.steps, .int .i64 0, .int .i64 0, .int .i64 0]) (results_cell_row Tryz.results68 _ _ w.heap.size _ _ (0, 0) _ rfl BAz.heap Tryz.underlying63 rfl (by kernel_rfl)) rfl ?_
            refine ⟨roA, _, _, _, _, ?_, O8.out.keep mz (by simp), O5.out.keep mz (by simp), O6.out.keep mz (by simp), O7.out.keep mz (by simp), nz⟩
            rw [if_neg hp, if_neg hp, if_neg hp]; rfl
        · skip
          refine AllReadyH.cons rfl (fun K hK => ?_) ?_
          rotate_left
          · exact AllReadyH.nil
          go_simp
          refine hK.out _ _ (HS1.out _ _ (n6.alloc _)) (fun hHeld => ?_)
          clear hK K
          refine wpAnyH_ready (rs := [24]) (by kernel_rfl) (by simp) ?_
          refine AllReadyH.cons rfl (fun K hK => ?_) ?_
          rotate_left
          · exact AllReadyH.nil
          go_simp
          go_at_call 80
          refine (HOW.out (setRo ro6 w6.heap.size (r0 + 4)) _ ((n6.alloc (.cells #[.int .i64 0, .int .i64 0, .int .i64 0, .int .i64 0, .slice none 0 0, .int .i64 0, .int .i64 0, .slice none 0 0, .slice none 0 0, .slice none 0 0, .int .i64 0, .int .i64 0, .int .i64 0, .int .i64 0, .int .i64 0, .int .i64 0, .int .i64 0, .int .i64 0, .int .i64 0] 63)).give (r := r0 + 4) n6.size)).mono ?_
          rintro e w7 ⟨v7, rfl, p7, k7⟩
          obtain ⟨ro7, o7, m7, n7⟩ := packM p7 k7 ((n6.alloc (.cells #[.int .i64 0, .int .i64 0, .int .i64 0, .int .i64 0, .slice none 0 0, .int .i64 0, .int .i64 0, .slice none 0 0, .slice none 0 0, .slice none 0 0, .int .i64 0, .int .i64 0, .int .i64 0, .int .i64 0, .int .i64 0, .int .i64 0, .int .i64 0, .int .i64 0, .int .i64 0] 63)).give (r := r0 + 4) n6.size)
          clear p7 k7
          obtain ⟨a7, c7, ev7⟩ := o7.form
          subst ev7
          replace o8 := o8.keep (Mv.trans (((Mv.refl ro6 [] w6).alloc (.cells #[.int .i64 0, .int .i64 0, .int .i64 0, .int .i64 0, .slice none 0 0, .int .i64 0, .int .i64 0, .slice none 0 0, .slice none 0 0, .slice none 0 0, .int .i64 0, .int .i64 0, .int .i64 0, .int .i64 0, .int .i64 0, .int .i64 0, .int .i64 0, .int .i64 0, .int .i64 0] 63)).give (r := r0 + 4) (Nat.le_refl _)) m7) (by simp)
          replace o5 := o5.keep (Mv.trans (((Mv.refl ro6 [] w6).alloc (.cells #[.int .i64 0, .int .i64 0, .int .i64 0, .int .i64 0, .slice none 0 0, .int .i64 0, .int .i64 0, .slice none 0 0, .slice none 0 0, .slice none 0 0, .int .i64 0, .int .i64 0, .int .i64 0, .int .i64 0, .int .i64 0, .int .i64 0, .int .i64 0, .int .i64 0, .int .i64 0] 63)).give (r := r0 + 4) (Nat.le_refl _)) m7) (by simp)
          replace o6 := o6.keep (Mv.trans (((Mv.refl ro6 [] w6).alloc (.cells #[.int .i64 0, .int .i64 0, .int .i64 0, .int .i64 0, .slice none 0 0, .int .i64 0, .int .i64 0, .slice none 0 0, .slice none 0 0, .slice none 0 0, .int .i64 0, .int .i64 0, .int .i64 0, .int .i64 0, .int .i64 0, .int .i64 0, .int .i64 0, .int .i64 0, .int .i64 0] 63)).give (r := r0 + 4) (Nat.le_refl _)) m7) (by simp)
          dsimp only
          have B0 := ((Blk.new ro6 (r0 + 4) w6 #[.int .i64 0, .int .i64 0, .int .i64 0, .int .i64 0, .slice none 0 0, .int .i64 0, .int .i64 0, .slice none 0 0, .slice none 0 0, .slice none 0 0, .int .i64 0, .int .i64 0, .int .i64 0, .int .i64 0, .int .i64 0, .int .i64 0, .int .i64 0, .int .i64 0, .int .i64 0] 63)).keep m7 (by simp)
          have hBB : w1.heap.size ≤ w6.heap.size := n6.size
          refine hK.out _ _ (HS1.out ro7 _ n7) (fun hHeld => ?_)
          clear hK K
          refine' wpAnyH_take (i := 29) (v := _) rfl (by kernel_rfl) (by kernel_rfl) (by kernel_rfl) (fun _ _ _ h => h) (Or.inl ⟨by kernel_rfl, ?hy27⟩) (by assumption) ?rest27
          case hy27 => (intro w hSw; (try dsimp only at hSw); go_simp; try with_reducible rfl)
          try simp only [Act.put, List.getElem_toArray, List.getElem_cons_succ, List.getElem_cons_zero, List.setIfInBounds_toArray, List.set_cons_zero, List.set_cons_succ]
          refine wpAnyH_ready (rs := [31]) (by kernel_rfl) (by simp) ?_
          refine AllReadyH.cons rfl (fun K hK => ?_) ?_
          rotate_left
          · exact AllReadyH.nil
          try simp only [List.getElem_toArray, List.getElem_cons_succ, List.getElem_cons_zero]
          rw [if_pos (by kernel_rfl)]
          refine wp_store_row 63 (.tmp 5) (.tmp 35) rfl _ #[.int .i64 0, .int .i64 0, .int .i64 0, .int .i64 tag, .slice a8 args.length c8, .int .i64 mark, .int .i64 0, .slice a5 s.m.reads.length c5, .slice a6 s.m.writes.length c6, .slice a7 s.m.out.length c7, .int .i64 0, .int .i64 0, .int .i64 0, .int .i64 0, .int .i64 0, .int .i64 s.steps, .int .i64 0, .int .i64 0, .int .i64 0] rfl rfl 63 _ B0.heap (by kernel_rfl) rfl (by simp [Value.oneCell']) ?_
          have mF : Mv ro7 [r0 + 4] w7 ro7 (w7.setRow w6.heap.size #[.int .i64 0, .int .i64 0, .int .i64 0, .int .i64 tag, .slice a8 args.length c8, .int .i64 mark, .int .i64 0, .slice a5 s.m.reads.length c5, .slice a6 s.m.writes.length c6, .slice a7 s.m.out.length c7, .int .i64 0, .int .i64 0, .int .i64 0, .int .i64 0, .int .i64 0, .int .i64 s.steps, .int .i64 0, .int .i64 0, .int .i64 0]) := (Mv.refl _ _ _).setRow (by rw [B0.role]; simp) _
          have nF : Mv ro1 [] w1 ro7 (w7.setRow w6.heap.size #[.int .i64 0, .int .i64 0, .int .i64 0, .int .i64 tag, .slice a8 args.length c8, .int .i64 mark, .int .i64 0, .slice a5 s.m.reads.length c5, .slice a6 s.m.writes.length c6, .slice a7 s.m.out.length c7, .int .i64 0, .int .i64 0, .int .i64 0, .int .i64 0, .int .i64 0, .int .i64 s.steps, .int .i64 0, .int .i64 0, .int .i64 0]) := n7.setRowNew hBB _
          have B1 : Blk ro7 (r0 + 4) (w7.setRow w6.heap.size #[.int .i64 0, .int .i64 0, .int .i64 0, .int .i64 tag, .slice a8 args.length c8, .int .i64 mark, .int .i64 0, .slice a5 s.m.reads.length c5, .slice a6 s.m.writes.length c6, .slice a7 s.m.out.length c7, .int .i64 0, .int .i64 0, .int .i64 0, .int .i64 0, .int .i64 0, .int .i64 s.steps, .int .i64 0, .int .i64 0, .int .i64 0]) w6.heap.size #[.int .i64 0, .int .i64 0, .int .i64 0, .int .i64 tag, .slice a8 args.length c8, .int .i64 mark, .int .i64 0, .slice a5 s.m.reads.length c5, .slice a6 s.m.writes.length c6, .slice a7 s.m.out.length c7, .int .i64 0, .int .i64 0, .int .i64 0, .int .i64 0, .int .i64 0, .int .i64 s.steps, .int .i64 0, .int .i64 0, .int .i64 0] 63 := B0.setRow
          have BA := HA0.out.keep nF (by simp)
          replace o8 := o8.keep mF (by simp)
          replace o5 := o5.keep mF (by simp)
          replace o6 := o6.keep mF (by simp)
          replace o7 := o7.keep mF (by simp)
          have sF := HS1.out _ _ nF
          refine hK.out _ _ sF (fun hHeld => ?_)
          clear hK K
          refine wpAnyH_done (by kernel_rfl) ?_ _
          refine NoPanic.normal ?_
          generalize w7.setRow w6.heap.size #[.int .i64 0, .int .i64 0, .int .i64 0, .int .i64 tag, .slice a8 args.length c8, .int .i64 mark, .int .i64 0, .slice a5 s.m.reads.length c5, .slice a6 s.m.writes.length c6, .slice a7 s.m.out.length c7, .int .i64 0, .int .i64 0, .int .i64 0, .int .i64 0, .int .i64 0, .int .i64 s.steps, .int .i64 0, .int .i64 0, .int .i64 0] = Wf at *
          generalize hq : w6.heap.size = BB at *
          replace hBB : w1.heap.size ≤ BB := by first | exact Nat.le_of_eq hq | exact hBB
          clear hq
          have hB := B1.cell
          obtain ⟨s6, s7, s8, s9, s10⟩ := sF
          have hltB := B1.lt
          have hltA : w.heap.size < Wf.heap.size := BA.lt
          have hAB : w.heap.size ≠ BB := by omega
          clear mF n7 B0
          try clear hHeld
          have O8 := Lib.hid o8
          have O5 := Lib.hid o5
          have O6 := Lib.hid o6
          have O7 := Lib.hid o7
          have HB1 := Lib.hid B1
          have HBA := Lib.hid BA
          have HNF := Lib.hid nF
          clear o8 o5 o6 o7 B1 BA nF
          by_cases hp : s.part = 4
          · rw [hp] at s9
            clear hB
            go_wp2_with (first
              | (go_at_call 81
                 refine (HEW.out ro7 _ HNF.out).mono ?_
                 rintro e w9 ⟨rfl, b9⟩
                 have B9 := HB1.out.keep (Mv.of_below (R := []) b9) (by simp)
                 have hB9 := B9.cell
                 have hBf9 := B9.free
                 have n9 := HNF.out.then_below b9
                 have HB12 := Lib.hid (show Blk ro7 (r0 + 4) (((w9.setCell ⟨BB, 10, none⟩ (.int .i64 s.m.how)).setCell ⟨BB, 11, none⟩ (.int .i64 s.m.ecode)).setCell ⟨BB, 12, none⟩ (.int .i64 s.m.err)) BB #[.int .i64 0, .int .i64 0, .int .i64 0, .int .i64 tag, .slice a8 args.length c8, .int .i64 mark, .int .i64 0, .slice a5 s.m.reads.length c5, .slice a6 s.m.writes.length c6, .slice a7 s.m.out.length c7, .int .i64 s.m.how, .int .i64 s.m.ecode, .int .i64 s.m.err, .int .i64 0, .int .i64 0, .int .i64 s.steps, .int .i64 0, .int .i64 0, .int .i64 0] 63 from ((B9.put (i := 10) rfl).put (i := 11) rfl).put (i := 12) rfl)
                 have hpB : ro7 BB ∈ [r0 + 4] := by rw [B9.role]; simp
                 have HmX := Lib.hid (show Mv ro7 [r0 + 4] Wf ro7 (((w9.setCell ⟨BB, 10, none⟩ (.int .i64 s.m.how)).setCell ⟨BB, 11, none⟩ (.int .i64 s.m.ecode)).setCell ⟨BB, 12, none⟩ (.int .i64 s.m.err)) from (Mv.of_below (R := [r0 + 4]) b9).trans ((((Mv.refl ro7 [r0 + 4] w9).setCell (p := ⟨BB, 10, none⟩) hpB _).setCell (p := ⟨BB, 11, none⟩) hpB _).setCell (p := ⟨BB, 12, none⟩) hpB _))
                 have HnX := Lib.hid (show Mv ro1 [] w1 ro7 (((w9.setCell ⟨BB, 10, none⟩ (.int .i64 s.m.how)).setCell ⟨BB, 11, none⟩ (.int .i64 s.m.ecode)).setCell ⟨BB, 12, none⟩ (.int .i64 s.m.err)) from ((n9.setNew (p := ⟨BB, 10, none⟩) hBB _).setNew (p := ⟨BB, 11, none⟩) hBB _).setNew (p := ⟨BB, 12, none⟩) hBB _)
                 have HBA9 := Lib.hid (HA0.out.keep HnX.out (by simp)))
              | (refine wpList_load_mid rfl 63 (.tmp 5) rfl BB 0 rfl [.int .i64 0, .int .i64 0, .int .i64 0, .int .i64 tag, .slice a8 args.length c8, .int .i64 mark, .int .i64 0, .slice a5 s.m.reads.length c5, .slice a6 s.m.writes.length c6, .slice a7 s.m.out.length c7, .int .i64 s.m.how, .int .i64 s.m.ecode, .int .i64 s.m.err, .int .i64 0, .int .i64 0, .int .i64 s.steps, .int .i64 0, .int .i64 0, .int .i64 0] _ HB12.out.range Tryz.underlying63 rfl (by kernel_rfl) ?_
                 refine wpList_store_row rfl 63 (.tmp 4) (.tmp 47) rfl w.heap.size #[.int .i64 0, .int .i64 0, .int .i64 0, .int .i64 tag, .slice a8 args.length c8, .int .i64 mark, .int .i64 0, .slice a5 s.m.reads.length c5, .slice a6 s.m.writes.length c6, .slice a7 s.m.out.length c7, .int .i64 s.m.how, .int .i64 s.m.ecode, .int .i64 s.m.err, .int .i64 0, .int .i64 0, .int .i64 s.steps, .int .i64 0, .int .i64 0, .int .i64 0] rfl rfl 63 _ HBA9.out.heap (by kernel_rfl) rfl (by simp [Value.oneCell']) ?_
                 have BAz := HBA9.out.setRow (ds := #[.int .i64 0, .int .i64 0, .int .i64 0, .int .i64 tag, .slice a8 args.length c8, .int .i64 mark, .int .i64 0, .slice a5 s.m.reads.length c5, .slice a6 s.m.writes.length c6, .slice a7 s.m.out.length c7, .int .i64 s.m.how, .int .i64 s.m.ecode, .int .i64 s.m.err, .int .i64 0, .int .i64 0, .int .i64 s.steps, .int .i64 0, .int .i64 0, .int .i64 0])
                 have mz := HmX.out.trans ((Mv.refl ro7 [r0 + 4] (((w9.setCell ⟨BB, 10, none⟩ (.int .i64 s.m.how)).setCell ⟨BB, 11, none⟩ (.int .i64 s.m.ecode)).setCell ⟨BB, 12, none⟩ (.int .i64 s.m.err))).setRow (g := w.heap.size) (by rw [HBA9.out.role]; simp) #[.int .i64 0, .int .i64 0, .int .i64 0, .int .i64 tag, .slice a8 args.length c8, .int .i64 mark, .int .i64 0, .slice a5 s.m.reads.length c5, .slice a6 s.m.writes.length c6, .slice a7 s.m.out.length c7, .int .i64 s.m.how, .int .i64 s.m.ecode, .int .i64 s.m.err, .int .i64 0, .int .i64 0, .int .i64 s.steps, .int .i64 0, .int .i64 0, .int .i64 0])
                 have nz := (HN1.out.trans HnX.out).setRowNew (Nat.le_refl _) #[.int .i64 0, .int .i64 0, .int .i64 0, .int .i64 tag, .slice a8 args.length c8, .int .i64 mark, .int .i64 0, .slice a5 s.m.reads.length c5, .slice a6 s.m.writes.length c6, .slice a7 s.m.out.length c7, .int .i64 s.m.how, .int .i64 s.m.ecode, .int .i64 s.m.err, .int .i64 0, .int .i64 0, .int .i64 s.steps, .int .i64 0, .int .i64 0, .int .i64 0]
                 clear HBA9 HmX HnX HB12 hB9 hBf9 B9 n9
                 generalize World.setRow _ w.heap.size #[.int .i64 0, .int .i64 0, .int .i64 0, .int .i64 tag, .slice a8 args.length c8, .int .i64 mark, .int .i64 0, .slice a5 s.m.reads.length c5, .slice a6 s.m.writes.length c6, .slice a7 s.m.out.length c7, .int .i64 s.m.how, .int .i64 s.m.ecode, .int .i64 s.m.err, .int .i64 0, .int .i64 0, .int .i64 s.steps, .int .i64 0, .int .i64 0, .int .i64 0] = Wz at *
                 have hz := BAz.cell))
            refine bodyPost_ret (v := .agg #[.int .i64 0, .int .i64 0, .int .i64 0, .int .i64 tag, .slice a8 args.length c8, .int .i64 mark, .int .i64 0, .slice a5 s.m.reads.length c5, .slice a6 s.m.writes.length c6, .slice a7 s.m.out.length c7, .int .i64 s.m.how, .int .i64 s.m.ecode, .int .i64 s.m.err, .int .i64 0, .int .i64 0, .int .i64 s.steps, .int .i64 0, .int .i64 0, .int .i64 0]) (results_cell_row Tryz.results68 _ _ w.heap.size _ _ (0, 0) _ rfl BAz.heap Tryz.underlying63 rfl (by kernel_rfl)) rfl ?_
            refine ⟨ro7, _, _, _, _, ?_, O8.out.keep mz (by simp), O5.out.keep mz (by simp), O6.out.keep mz (by simp), O7.out.keep mz (by simp), nz⟩
            rw [if_pos hp, if_pos hp, if_pos hp]; rfl
          · have hp9 : (s.part == 4) = false := by simpa using hp
            clear hB
            go_wp2_with (
              refine wpList_load_mid rfl 63 (.tmp 5) rfl BB 0 rfl [.int .i64 0, .int .i64 0, .int .i64 0, .int .i64 tag, .slice a8 args.length c8, .int .i64 mark, .int .i64 0, .slice a5 s.m.reads.length c5, .slice a6 s.m.writes.length c6, .slice a7 s.m.out.length c7, .int .i64 0, .int .i64 0, .int .i64 0, .int .i64 0, .int .i64 0, .int .i64 s.steps, .int .i64 0, .int .i64 0, .int .i64 0] _ HB1.out.range Tryz.underlying63 rfl (by kernel_rfl) ?_
              refine wpList_store_row rfl 63 (.tmp 4) (.tmp 47) rfl w.heap.size #[.int .i64 0, .int .i64 0, .int .i64 0, .int .i64 tag, .slice a8 args.length c8, .int .i64 mark, .int .i64 0, .slice a5 s.m.reads.length c5, .slice a6 s.m.writes.length c6, .slice a7 s.m.out.length c7, .int .i64 0, .int .i64 0, .int .i64 0, .int .i64 0, .int .i64 0, .int .i64 s.steps, .int .i64 0, .int .i64 0, .int .i64 0] rfl rfl 63 _ HBA.out.heap (by kernel_rfl) rfl (by simp [Value.oneCell']) ?_
              have BAz := HBA.out.setRow (ds := #[.int .i64 0, .int .i64 0, .int .i64 0, .int .i64 tag, .slice a8 args.length c8, .int .i64 mark, .int .i64 0, .slice a5 s.m.reads.length c5, .slice a6 s.m.writes.length c6, .slice a7 s.m.out.length c7, .int .i64 0, .int .i64 0, .int .i64 0, .int .i64 0, .int .i64 0, .int .i64 s.steps, .int .i64 0, .int .i64 0, .int .i64 0])
              have mz := (Mv.refl ro7 [r0 + 4] Wf).setRow (g := w.heap.size) (by rw [HBA.out.role]; simp) #[.int .i64 0, .int .i64 0, .int .i64 0, .int .i64 tag, .slice a8 args.length c8, .int .i64 mark, .int .i64 0, .slice a5 s.m.reads.length c5, .slice a6 s.m.writes.length c6, .slice a7 s.m.out.length c7, .int .i64 0, .int .i64 0, .int .i64 0, .int .i64 0, .int .i64 0, .int .i64 s.steps, .int .i64 0, .int .i64 0, .int .i64 0]
              have nz := (HN1.out.trans HNF.out).setRowNew (Nat.le_refl _) #[.int .i64 0, .int .i64 0, .int .i64 0, .int .i64 tag, .slice a8 args.length c8, .int .i64 mark, .int .i64 0, .slice a5 s.m.reads.length c5, .slice a6 s.m.writes.length c6, .slice a7 s.m.out.length c7, .int .i64 0, .int .i64 0, .int .i64 0, .int .i64 0, .int .i64 0, .int .i64 s.steps, .int .i64 0, .int .i64 0, .int .i64 0]
              clear HBA HB1 HNF
              generalize World.setRow _ w.heap.size #[.int .i64 0, .int .i64 0, .int .i64 0, .int .i64 tag, .slice a8 args.length c8, .int .i64 mark, .int .i64 0, .slice a5 s.m.reads.length c5, .slice a6 s.m.writes.length c6, .slice a7 s.m.out.length c7, .int .i64 0, .int .i64 0, .int .i64 0, .int .i64 0, .int .i64 0, .int .i64 s.steps, .int .i64 0, .int .i64 0, .int .i64 0] = Wz at *
              have hz := BAz.cell)
            refine bodyPost_ret (v := .agg #[.int .i64 0, .int .i64 0, .int .i64 0, .int .i64 tag, .slice a8 args.length c8, .int .i64 mark, .int .i64 0, .slice a5 s.m.reads.length c5, .slice a6 s.m.writes.length c6, .slice a7 s.m.out.length c7, .int .i64 0, .int .i64 0, .int .i64 0, .int .i64 0, .int .i64 0, .int .i64 s.steps, .int .i64 0, .int .i64 0, .int .i64 0]) (results_cell_row Tryz.results68 _ _ w.heap.size _ _ (0, 0) _ rfl BAz.heap Tryz.underlying63 rfl (by kernel_rfl)) rfl ?_
            refine ⟨ro7, _, _, _, _, ?_, O8.out.keep mz (by simp), O5.out.keep mz (by simp), O6.out.keep mz (by simp), O7.out.keep mz (by simp), nz⟩
            rw [if_neg hp, if_neg hp, if_neg hp]; rfl
      · skip
        refine AllReadyH.cons rfl (fun K hK => ?_) ?_
        rotate_left
        · exact AllReadyH.nil
        go_simp
        refine hK.out _ _ (HS1.out _ _ (n5.alloc _)) (fun hHeld => ?_)
        clear hK K
        refine wpAnyH_ready (rs := [19]) (by kernel_rfl) (by simp) ?_
        refine AllReadyH.cons rfl (fun K hK => ?_) ?_
        rotate_left
        · exact AllReadyH.nil
        go_simp
        go_at_call 79
        refine (HWW.out (setRo ro5 w5.heap.size (r0 + 4)) _ ((n5.alloc (.cells #[.int .i64 0, .int .i64 0, .int .i64 0, .int .i64 0, .slice none 0 0, .int .i64 0, .int .i64 0, .slice none 0 0, .slice none 0 0, .slice none 0 0, .int .i64 0, .int .i64 0, .int .i64 0, .int .i64 0, .int .i64 0, .int .i64 0, .int .i64 0, .int .i64 0, .int .i64 0] 63)).give (r := r0 + 4) n5.size)).mono ?_
        rintro e w6 ⟨v6, ro6, rfl, o6, m6⟩
        have n6 := Mv.trans ((n5.alloc (.cells #[.int .i64 0, .int .i64 0, .int .i64 0, .int .i64 0, .slice none 0 0, .int .i64 0, .int .i64 0, .slice none 0 0, .slice none 0 0, .slice none 0 0, .int .i64 0, .int .i64 0, .int .i64 0, .int .i64 0, .int .i64 0, .int .i64 0, .int .i64 0, .int .i64 0, .int .i64 0] 63)).give (r := r0 + 4) n5.size) m6
        obtain ⟨a6, c6, ev6⟩ := o6.form
        subst ev6
        replace o8 := o8.keep (Mv.trans (((Mv.refl ro5 [] w5).alloc (.cells #[.int .i64 0, .int .i64 0, .int .i64 0, .int .i64 0, .slice none 0 0, .int .i64 0, .int .i64 0, .slice none 0 0, .slice none 0 0, .slice none 0 0, .int .i64 0, .int .i64 0, .int .i64 0, .int .i64 0, .int .i64 0, .int .i64 0, .int .i64 0, .int .i64 0, .int .i64 0] 63)).give (r := r0 + 4) (Nat.le_refl _)) m6) (by simp)
        replace o5 := o5.keep (Mv.trans (((Mv.refl ro5 [] w5).alloc (.cells #[.int .i64 0, .int .i64 0, .int .i64 0, .int .i64 0, .slice none 0 0, .int .i64 0, .int .i64 0, .slice none 0 0, .slice none 0 0, .slice none 0 0, .int .i64 0, .int .i64 0, .int .i64 0, .int .i64 0, .int .i64 0, .int .i64 0, .int .i64 0, .int .i64 0, .int .i64 0] 63)).give (r := r0 + 4) (Nat.le_refl _)) m6) (by simp)
        dsimp only
        have B0 := ((Blk.new ro5 (r0 + 4) w5 #[.int .i64 0, .int .i64 0, .int .i64 0, .int .i64 0, .slice none 0 0, .int .i64 0, .int .i64 0, .slice none 0 0, .slice none 0 0, .slice none 0 0, .int .i64 0, .int .i64 0, .int .i64 0, .int .i64 0, .int .i64 0, .int .i64 0, .int .i64 0, .int .i64 0, .int .i64 0] 63)).keep m6 (by simp)
        have hBB : w1.heap.size ≤ w5.heap.size := n5.size
        refine hK.out _ _ (HS1.out ro6 _ n6) (fun hHeld => ?_)
        clear hK K
        refine wpAnyH_ready (rs := [24]) (by kernel_rfl) (by simp) ?_
        refine AllReadyH.cons rfl (fun K hK => ?_) ?_
        rotate_left
        · exact AllReadyH.nil
        go_simp
        go_at_call 80
        refine (HOW.out ro6 _ n6).mono ?_
        rintro e w7 ⟨v7, rfl, p7, k7⟩
        obtain ⟨ro7, o7, m7, n7⟩ := packM p7 k7 n6
        clear p7 k7
        obtain ⟨a7, c7, ev7⟩ := o7.form
        subst ev7
        replace o8 := o8.keep (Mv.trans (Mv.refl ro6 [] w6) m7) (by simp)
        replace o5 := o5.keep (Mv.trans (Mv.refl ro6 [] w6) m7) (by simp)
        replace o6 := o6.keep (Mv.trans (Mv.refl ro6 [] w6) m7) (by simp)
        dsimp only
        replace B0 := B0.keep m7 (by simp)
        refine hK.out _ _ (HS1.out ro7 _ n7) (fun hHeld => ?_)
        clear hK K
        refine' wpAnyH_take (i := 29) (v := _) rfl (by kernel_rfl) (by kernel_rfl) (by kernel_rfl) (fun _ _ _ h => h) (Or.inl ⟨by kernel_rfl, ?hy28⟩) (by assumption) ?rest28
        case hy28 => (intro w hSw; (try dsimp only at hSw); go_simp; try with_reducible rfl)
        try simp only [Act.put, List.getElem_toArray, List.getElem_cons_succ, List.getElem_cons_zero, List.setIfInBounds_toArray, List.set_cons_zero, List.set_cons_succ]
        refine wpAnyH_ready (rs := [31]) (by kernel_rfl) (by simp) ?_
        refine AllReadyH.cons rfl (fun K hK => ?_) ?_
        rotate_left
        · exact AllReadyH.nil
        try simp only [List.getElem_toArray, List.getElem_cons_succ, List.getElem_cons_zero]
        rw [if_pos (by kernel_rfl)]
        refine wp_store_row 63 (.tmp 5) (.tmp 35) rfl _ #[.int .i64 0, .int .i64 0, .int .i64 0, .int .i64 tag, .slice a8 args.length c8, .int .i64 mark, .int .i64 0, .slice a5 s.m.reads.length c5, .slice a6 s.m.writes.length c6, .slice a7 s.m.out.length c7, .int .i64 0, .int .i64 0, .int .i64 0, .int .i64 0, .int .i64 0, .int .i64 s.steps, .int .i64 0, .int .i64 0, .int .i64 0] rfl rfl 63 _ B0.heap (by kernel_rfl) rfl (by simp [Value.oneCell']) ?_
        have mF : Mv ro7 [r0 + 4] w7 ro7 (w7.setRow w5.heap.size #[.int .i64 0, .int .i64 0, .int .i64 0, .int .i64 tag, .slice a8 args.length c8, .int .i64 mark, .int .i64 0, .slice a5 s.m.reads.length c5, .slice a6 s.m.writes.length c6, .slice a7 s.m.out.length c7, .int .i64 0, .int .i64 0, .int .i64 0, .int .i64 0, .int .i64 0, .int .i64 s.steps, .int .i64 0, .int .i64 0, .int .i64 0]) := (Mv.refl _ _ _).setRow (by rw [B0.role]; simp) _
        have nF : Mv ro1 [] w1 ro7 (w7.setRow w5.heap.size #[.int .i64 0, .int .i64 0, .int .i64 0, .int .i64 tag, .slice a8 args.length c8, .int .i64 mark, .int .i64 0, .slice a5 s.m.reads.length c5, .slice a6 s.m.writes.length c6, .slice a7 s.m.out.length c7, .int .i64 0, .int .i64 0, .int .i64 0, .int .i64 0, .int .i64 0, .int .i64 s.steps, .int .i64 0, .int .i64 0, .int .i64 0]) := n7.setRowNew hBB _
        have B1 : Blk ro7 (r0 + 4) (w7.setRow w5.heap.size #[.int .i64 0, .int .i64 0, .int .i64 0, .int .i64 tag, .slice a8 args.length c8, .int .i64 mark, .int .i64 0, .slice a5 s.m.reads.length c5, .slice a6 s.m.writes.length c6, .slice a7 s.m.out.length c7, .int .i64 0, .int .i64 0, .int .i64 0, .int .i64 0, .int .i64 0, .int .i64 s.steps, .int .i64 0, .int .i64 0, .int .i64 0]) w5.heap.size #[.int .i64 0, .int .i64 0, .int .i64 0, .int .i64 tag, .slice a8 args.length c8, .int .i64 mark, .int .i64 0, .slice a5 s.m.reads.length c5, .slice a6 s.m.writes.length c6, .slice a7 s.m.out.length c7, .int .i64 0, .int .i64 0, .int .i64 0, .int .i64 0, .int .i64 0, .int .i64 s.steps, .int .i64 0, .int .i64 0, .int .i64 0] 63 := B0.setRow
        have BA := HA0.out.keep nF (by simp)
        replace o8 := o8.keep mF (by simp)
        replace o5 := o5.keep mF (by simp)
        replace o6 := o6.keep mF (by simp)
        replace o7 := o7.keep mF (by simp)
        have sF := HS1.out _ _ nF
        refine hK.out _ _ sF (fun hHeld => ?_)
        clear hK K
        refine wpAnyH_done (by kernel_rfl) ?_ _
        refine NoPanic.normal ?_
        generalize w7.setRow w5.heap.size #[.int .i64 0, .int .i64 0, .int .i64 0, .int .i64 tag, .slice a8 args.length c8, .int .i64 mark, .int .i64 0, .slice a5 s.m.reads.length c5, .slice a6 s.m.writes.length c6, .slice a7 s.m.out.length c7, .int .i64 0, .int .i64 0, .int .i64 0, .int .i64 0, .int .i64 0, .int .i64 s.steps, .int .i64 0, .int .i64 0, .int .i64 0] = Wf at *
        generalize hq : w5.heap.size = BB at *
        replace hBB : w1.heap.size ≤ BB := by first | exact Nat.le_of_eq hq | exact hBB
        clear hq
        have hB := B1.cell
        obtain ⟨s6, s7, s8, s9, s10⟩ := sF
        have hltB := B1.lt
        have hltA : w.heap.size < Wf.heap.size := BA.lt
        have hAB : w.heap.size ≠ BB := by omega
        clear mF n7 B0
        try clear hHeld
        have O8 := Lib.hid o8
        have O5 := Lib.hid o5
        have O6 := Lib.hid o6
        have O7 := Lib.hid o7
        have HB1 := Lib.hid B1
        have HBA := Lib.hid BA
        have HNF := Lib.hid nF
        clear o8 o5 o6 o7 B1 BA nF
        by_cases hp : s.part = 4
        · rw [hp] at s9
          clear hB
          go_wp2_with (first
            | (go_at_call 81
               refine (HEW.out ro7 _ HNF.out).mono ?_
               rintro e w9 ⟨rfl, b9⟩
               have B9 := HB1.out.keep (Mv.of_below (R := []) b9) (by simp)
               have hB9 := B9.cell
               have hBf9 := B9.free
               have n9 := HNF.out.then_below b9
               have HB12 := Lib.hid (show Blk ro7 (r0 + 4) (((w9.setCell ⟨BB, 10, none⟩ (.int .i64 s.m.how)).setCell ⟨BB, 11, none⟩ (.int .i64 s.m.ecode)).setCell ⟨BB, 12, none⟩ (.int .i64 s.m.err)) BB #[.int .i64 0, .int .i64 0, .int .i64 0, .int .i64 tag, .slice a8 args.length c8, .int .i64 mark, .int .i64 0, .slice a5 s.m.reads.length c5, .slice a6 s.m.writes.length c6, .slice a7 s.m.out.length c7, .int .i64 s.m.how, .int .i64 s.m.ecode, .int .i64 s.m.err, .int .i64 0, .int .i64 0, .int .i64 s.steps, .int .i64 0, .int .i64 0, .int .i64 0] 63 from ((B9.put (i := 10) rfl).put (i := 11) rfl).put (i := 12) rfl)
               have hpB : ro7 BB ∈ [r0 + 4] := by rw [B9.role]; simp
               have HmX := Lib.hid (show Mv ro7 [r0 + 4] Wf ro7 (((w9.setCell ⟨BB, 10, none⟩ (.int .i64 s.m.how)).setCell ⟨BB, 11, none⟩ (.int .i64 s.m.ecode)).setCell ⟨BB, 12, none⟩ (.int .i64 s.m.err)) from (Mv.of_below (R := [r0 + 4]) b9).trans ((((Mv.refl ro7 [r0 + 4] w9).setCell (p := ⟨BB, 10, none⟩) hpB _).setCell (p := ⟨BB, 11, none⟩) hpB _).setCell (p := ⟨BB, 12, none⟩) hpB _))
               have HnX := Lib.hid (show Mv ro1 [] w1 ro7 (((w9.setCell ⟨BB, 10, none⟩ (.int .i64 s.m.how)).setCell ⟨BB, 11, none⟩ (.int .i64 s.m.ecode)).setCell ⟨BB, 12, none⟩ (.int .i64 s.m.err)) from ((n9.setNew (p := ⟨BB, 10, none⟩) hBB _).setNew (p := ⟨BB, 11, none⟩) hBB _).setNew (p := ⟨BB, 12, none⟩) hBB _)
               have HBA9 := Lib.hid (HA0.out.keep HnX.out (by simp)))
            | (refine wpList_load_mid rfl 63 (.tmp 5) rfl BB 0 rfl [.int .i64 0, .int .i64 0, .int .i64 0, .int .i64 tag, .slice a8 args.length c8, .int .i64 mark, .int .i64 0, .slice a5 s.m.reads.length c5, .slice a6 s.m.writes.length c6, .slice a7 s.m.out.length c7, .int .i64 s.m.how, .int .i64 s.m.ecode, .int .i64 s.m.err, .int .i64 0, .int .i64 0, .int .i64 s.steps, .int .i64 0, .int .i64 0, .int .i64 0] _ HB12.out.range Tryz.underlying63 rfl (by kernel_rfl) ?_
               refine wpList_store_row rfl 63 (.tmp 4) (.tmp 47) rfl w.heap.size #[.int .i64 0, .int .i64 0, .int .i64 0, .int .i64 tag, .slice a8 args.length c8, .int .i64 mark, .int .i64 0, .slice a5 s.m.reads.length c5, .slice a6 s.m.writes.length c6, .slice a7 s.m.out.length c7, .int .i64 s.m.how, .int .i64 s.m.ecode, .int .i64 s.m.err, .int .i64 0, .int .i64 0, .int .i64 s.steps, .int .i64 0, .int .i64 0, .int .i64 0] rfl rfl 63 _ HBA9.out.heap (by kernel_rfl) rfl (by simp [Value.oneCell']) ?_
               have BAz := HBA9.out.setRow (ds := #[.int .i64 0, .int .i64 0, .int .i64 0, .int .i64 tag, .slice a8 args.length c8, .int .i64 mark, .int .i64 0, .slice a5 s.m.reads.length c5, .slice a6 s.m.writes.length c6, .slice a7 s.m.out.length c7, .int .i64 s.m.how, .int .i64 s.m.ecode, .int .i64 s.m.err, .int .i64 0, .int .i64 0, .int .i64 s.steps, .int .i64 0, .int .i64 0, .int .i64 0])
               have mz := HmX.out.trans ((Mv.refl ro7 [r0 + 4] (((w9.setCell ⟨BB, 10, none⟩ (.int .i64 s.m.how)).setCell ⟨BB, 11, none⟩ (.int .i64 s.m.ecode)).setCell ⟨BB, 12, none⟩ (.int .i64 s.m.err))).setRow (g := w.heap.size) (by rw [HBA9.out.role]; simp) #[.int .i64 0, .int .i64 0, .int .i64 0, .int .i64 tag, .slice a8 args.length c8, .int .i64 mark, .int .i64 0, .slice a5 s.m.reads.length c5, .slice a6 s.m.writes.length c6, .slice a7 s.m.out.length c7, .int .i64 s.m.how, .int .i64 s.m.ecode, .int .i64 s.m.err, .int .i64 0, .int .i64 0, .int .i64 s.steps, .int .i64 0, .int .i64 0, .int .i64 0])
               have nz := (HN1.out.trans HnX.out).setRowNew (Nat.le_refl _) #[.int .i64 0, .int .i64 0, .int .i64 0, .int .i64 tag, .slice a8 args.length c8, .int .i64 mark, .int .i64 0, .slice a5 s.m.reads.length c5, .slice a6 s.m.writes.length c6, .slice a7 s.m.out.length c7, .int .i64 s.m.how, .int .i64 s.m.ecode, .int .i64 s.m.err, .int .i64 0, .int .i64 0, .int .i64 s.steps, .int .i64 0, .int .i64 0, .int .i64 0]
               clear HBA9 HmX HnX HB12 hB9 hBf9 B9 n9
               generalize World.setRow _ w.heap.size #[.int .i64 0, .int .i64 0, .int .i64 0, .int .i64 tag, .slice a8 args.length c8, .int .i64 mark, .int .i64 0, .slice a5 s.m.reads.length c5, .slice a6 s.m.writes.length c6, .slice a7 s.m.out.length c7, .int .i64 s.m.how, .int .i64 s.m.ecode, .int .i64 s.m.err, .int .i64 0, .int .i64 0, .int .i64 s.steps, .int .i64 0, .int .i64 0, .int .i64 0] = Wz at *
               have hz := BAz.cell))
          refine bodyPost_ret (v := .agg #[.int .i64 0, .int .i64 0, .int .i64 0, .int .i64 tag, .slice a8 args.length c8, .int .i64 mark, .int .i64 0, .slice a5 s.m.reads.length c5, .slice a6 s.m.writes.length c6, .slice a7 s.m.out.length c7, .int .i64 s.m.how, .int .i64 s.m.ecode, .int .i64 s.m.err, .int .i64 0, .int .i64 0, .int .i64 s.steps, .int .i64 0, .int .i64 0, .int .i64 0]) (results_cell_row Tryz.results68 _ _ w.heap.size _ _ (0, 0) _ rfl BAz.heap Tryz.underlying63 rfl (by kernel_rfl)) rfl ?_
          refine ⟨ro7, _, _, _, _, ?_, O8.out.keep mz (by simp), O5.out.keep mz (by simp), O6.out.keep mz (by simp), O7.out.keep mz (by simp), nz⟩
          rw [if_pos hp, if_pos hp, if_pos hp]; rfl
        · have hp9 : (s.part == 4) = false := by simpa using hp
          clear hB
          go_wp2_with (
            refine wpList_load_mid rfl 63 (.tmp 5) rfl BB 0 rfl [.int .i64 0, .int .i64 0, .int .i64 0, .int .i64 tag, .slice a8 args.length c8, .int .i64 mark, .int .i64 0, .slice a5 s.m.reads.length c5, .slice a6 s.m.writes.length c6, .slice a7 s.m.out.length c7, .int .i64 0, .int .i64 0, .int .i64 0, .int .i64 0, .int .i64 0, .int .i64 s.steps, .int .i64 0, .int .i64 0, .int .i64 0] _ HB1.out.range Tryz.underlying63 rfl (by kernel_rfl) ?_
            refine wpList_store_row rfl 63 (.tmp 4) (.tmp 47) rfl w.heap.size #[.int .i64 0, .int .i64 0, .int .i64 0, .int .i64 tag, .slice a8 args.length c8, .int .i64 mark, .int .i64 0, .slice a5 s.m.reads.length c5, .slice a6 s.m.writes.length c6, .slice a7 s.m.out.length c7, .int .i64 0, .int .i64 0, .int .i64 0, .int .i64 0, .int .i64 0, .int .i64 s.steps, .int .i64 0, .int .i64 0, .int .i64 0] rfl rfl 63 _ HBA.out.heap (by kernel_rfl) rfl (by simp [Value.oneCell']) ?_
            have BAz := HBA.out.setRow (ds := #[.int .i64 0, .int .i64 0, .int .i64 0, .int .i64 tag, .slice a8 args.length c8, .int .i64 mark, .int .i64 0, .slice a5 s.m.reads.length c5, .slice a6 s.m.writes.length c6, .slice a7 s.m.out.length c7, .int .i64 0, .int .i64 0, .int .i64 0, .int .i64 0, .int .i64 0, .int .i64 s.steps, .int .i64 0, .int .i64 0, .int .i64 0])
            have mz := (Mv.refl ro7 [r0 + 4] Wf).setRow (g := w.heap.size) (by rw [HBA.out.role]; simp) #[.int .i64 0, .int .i64 0, .int .i64 0, .int .i64 tag, .slice a8 args.length c8, .int .i64 mark, .int .i64 0, .slice a5 s.m.reads.length c5, .slice a6 s.m.writes.length c6, .slice a7 s.m.out.length c7, .int .i64 0, .int .i64 0, .int .i64 0, .int .i64 0, .int .i64 0, .int .i64 s.steps, .int .i64 0, .int .i64 0, .int .i64 0]
            have nz := (HN1.out.trans HNF.out).setRowNew (Nat.le_refl _) #[.int .i64 0, .int .i64 0, .int .i64 0, .int .i64 tag, .slice a8 args.length c8, .int .i64 mark, .int .i64 0, .slice a5 s.m.reads.length c5, .slice a6 s.m.writes.length c6, .slice a7 s.m.out.length c7, .int .i64 0, .int .i64 0, .int .i64 0, .int .i64 0, .int .i64 0, .int .i64 s.steps, .int .i64 0, .int .i64 0, .int .i64 0]
            clear HBA HB1 HNF
            generalize World.setRow _ w.heap.size #[.int .i64 0, .int .i64 0, .int .i64 0, .int .i64 tag, .slice a8 args.length c8, .int .i64 mark, .int .i64 0, .slice a5 s.m.reads.length c5, .slice a6 s.m.writes.length c6, .slice a7 s.m.out.length c7, .int .i64 0, .int .i64 0, .int .i64 0, .int .i64 0, .int .i64 0, .int .i64 s.steps, .int .i64 0, .int .i64 0, .int .i64 0] = Wz at *
            have hz := BAz.cell)
          refine bodyPost_ret (v := .agg #[.int .i64 0, .int .i64 0, .int .i64 0, .int .i64 tag, .slice a8 args.length c8, .int .i64 mark, .int .i64 0, .slice a5 s.m.reads.length c5, .slice a6 s.m.writes.length c6, .slice a7 s.m.out.length c7, .int .i64 0, .int .i64 0, .int .i64 0, .int .i64 0, .int .i64 0, .int .i64 s.steps, .int .i64 0, .int .i64 0, .int .i64 0]) (results_cell_row Tryz.results68 _ _ w.heap.size _ _ (0, 0) _ rfl BAz.heap Tryz.underlying63 rfl (by kernel_rfl)) rfl ?_
          refine ⟨ro7, _, _, _, _, ?_, O8.out.keep mz (by simp), O5.out.keep mz (by simp), O6.out.keep mz (by simp), O7.out.keep mz (by simp), nz⟩
          rw [if_neg hp, if_neg hp, if_neg hp]; rfl
    · skip
      refine AllReadyH.cons rfl (fun K hK => ?_) ?_
      rotate_left
      · exact AllReadyH.nil
      go_simp
      refine hK.out _ _ (HS1.out _ _ (n8.alloc _)) (fun hHeld => ?_)
      clear hK K
      refine wpAnyH_ready (rs := [14]) (by kernel_rfl) (by simp) ?_
      refine AllReadyH.cons rfl (fun K hK => ?_) ?_
      rotate_left
      · exact AllReadyH.nil
      go_simp
      go_at_call 78
      refine (HRW.out (setRo ro8 w8.heap.size (r0 + 4)) _ ((n8.alloc (.cells #[.int .i64 0, .int .i64 0, .int .i64 0, .int .i64 0, .slice none 0 0, .int .i64 0, .int .i64 0, .slice none 0 0, .slice none 0 0, .slice none 0 0, .int .i64 0, .int .i64 0, .int .i64 0, .int .i64 0, .int .i64 0, .int .i64 0, .int .i64 0, .int .i64 0, .int .i64 0] 63)).give (r := r0 + 4) n8.size)).mono ?_
      rintro e w5 ⟨v5, rfl, p5, k5⟩
      obtain ⟨ro5, o5, m5, n5⟩ := packM p5 k5 ((n8.alloc (.cells #[.int .i64 0, .int .i64 0, .int .i64 0, .int .i64 0, .slice none 0 0, .int .i64 0, .int .i64 0, .slice none 0 0, .slice none 0 0, .slice none 0 0, .int .i64 0, .int .i64 0, .int .i64 0, .int .i64 0, .int .i64 0, .int .i64 0, .int .i64 0, .int .i64 0, .int .i64 0] 63)).give (r := r0 + 4) n8.size)
      clear p5 k5
      obtain ⟨a5, c5, ev5⟩ := o5.form
      subst ev5
      replace o8 := o8.keep (Mv.trans (((Mv.refl ro8 [] w8).alloc (.cells #[.int .i64 0, .int .i64 0, .int .i64 0, .int .i64 0, .slice none 0 0, .int .i64 0, .int .i64 0, .slice none 0 0, .slice none 0 0, .slice none 0 0, .int .i64 0, .int .i64 0, .int .i64 0, .int .i64 0, .int .i64 0, .int .i64 0, .int .i64 0, .int .i64 0, .int .i64 0] 63)).give (r := r0 + 4) (Nat.le_refl _)) m5) (by simp)
      dsimp only
      have B0 := ((Blk.new ro8 (r0 + 4) w8 #[.int .i64 0, .int .i64 0, .int .i64 0, .int .i64 0, .slice none 0 0, .int .i64 0, .int .i64 0, .slice none 0 0, .slice none 0 0, .slice none 0 0, .int .i64 0, .int .i64 0, .int .i64 0, .int .i64 0, .int .i64 0, .int .i64 0, .int .i64 0, .int .i64 0, .int .i64 0] 63)).keep m5 (by simp)
      have hBB : w1.heap.size ≤ w8.heap.size := n8.size
      refine hK.out _ _ (HS1.out ro5 _ n5) (fun hHeld => ?_)
      clear hK K
      refine wpAnyH_ready (rs := [19]) (by kernel_rfl) (by simp) ?_
      refine AllReadyH.cons rfl (fun K hK => ?_) ?_
      rotate_left
      · exact AllReadyH.nil
      go_simp
      go_at_call 79
      refine (HWW.out ro5 _ n5).mono ?_
      rintro e w6 ⟨v6, ro6, rfl, o6, m6⟩
      have n6 := Mv.trans n5 m6
      obtain ⟨a6, c6, ev6⟩ := o6.form
      subst ev6
      replace o8 := o8.keep (Mv.trans (Mv.refl ro5 [] w5) m6) (by simp)
      replace o5 := o5.keep (Mv.trans (Mv.refl ro5 [] w5) m6) (by simp)
      dsimp only
      replace B0 := B0.keep m6 (by simp)
      refine hK.out _ _ (HS1.out ro6 _ n6) (fun hHeld => ?_)
      clear hK K
      refine wpAnyH_ready (rs := [24]) (by kernel_rfl) (by simp) ?_
      refine AllReadyH.cons rfl (fun K hK => ?_) ?_
      rotate_left
      · exact AllReadyH.nil
      go_simp
      go_at_call 80
      refine (HOW.out ro6 _ n6).mono ?_
      rintro e w7 ⟨v7, rfl, p7, k7⟩
      obtain ⟨ro7, o7, m7, n7⟩ := packM p7 k7 n6
      clear p7 k7
      obtain ⟨a7, c7, ev7⟩ := o7.form
      subst ev7
      replace o8 := o8.keep (Mv.trans (Mv.refl ro6 [] w6) m7) (by simp)
      replace o5 := o5.keep (Mv.trans (Mv.refl ro6 [] w6) m7) (by simp)
      replace o6 := o6.keep (Mv.trans (Mv.refl ro6 [] w6) m7) (by simp)
      dsimp only
      replace B0 := B0.keep m7 (by simp)
      refine hK.out _ _ (HS1.out ro7 _ n7) (fun hHeld => ?_)
      clear hK K
      refine' wpAnyH_take (i := 29) (v := _) rfl (by kernel_rfl) (by kernel_rfl) (by kernel_rfl) (fun _ _ _ h => h) (Or.inl ⟨by kernel_rfl, ?hy29⟩) (by assumption) ?rest29
      case hy29 => (intro w hSw; (try dsimp only at hSw); go_simp; try with_reducible rfl)
      try simp only [Act.put, List.getElem_toArray, List.getElem_cons_succ, List.getElem_cons_zero, List.setIfInBounds_toArray, List.set_cons_zero, List.set_cons_succ]
      refine wpAnyH_ready (rs := [31]) (by kernel_rfl) (by simp) ?_
      refine AllReadyH.cons rfl (fun K hK => ?_) ?_
      rotate_left
      · exact AllReadyH.nil
      try simp only [List.getElem_toArray, List.getElem_cons_succ, List.getElem_cons_zero]
      rw [if_pos (by kernel_rfl)]
      refine wp_store_row 63 (.tmp 5) (.tmp 35) rfl _ #[.int .i64 0, .int .i64 0, .int .i64 0, .int .i64 tag, .slice a8 args.length c8, .int .i64 mark, .int .i64 0, .slice a5 s.m.reads.length c5, .slice a6 s.m.writes.length c6, .slice a7 s.m.out.length c7, .int .i64 0, .int .i64 0, .int .i64 0, .int .i64 0, .int .i64 0, .int .i64 s.steps, .int .i64 0, .int .i64 0, .int .i64 0] rfl rfl 63 _ B0.heap (by kernel_rfl) rfl (by simp [Value.oneCell']) ?_
      have mF : Mv ro7 [r0 + 4] w7 ro7 (w7.setRow w8.heap.size #[.int .i64 0, .int .i64 0, .int .i64 0, .int .i64 tag, .slice a8 args.length c8, .int .i64 mark, .int .i64 0, .slice a5 s.m.reads.length c5, .slice a6 s.m.writes.length c6, .slice a7 s.m.out.length c7, .int .i64 0, .int .i64 0, .int .i64 0, .int .i64 0, .int .i64 0, .int .i64 s.steps, .int .i64 0, .int .i64 0, .int .i64 0]) := (Mv.refl _ _ _).setRow (by rw [B0.role]; simp) _
      have nF : Mv ro1 [] w1 ro7 (w7.setRow w8.heap.size #[.int .i64 0, .int .i64 0, .int .i64 0, .int .i64 tag, .slice a8 args.length c8, .int .i64 mark, .int .i64 0, .slice a5 s.m.reads.length c5, .slice a6 s.m.writes.length c6, .slice a7 s.m.out.length c7, .int .i64 0, .int .i64 0, .int .i64 0, .int .i64 0, .int .i64 0, .int .i64 s.steps, .int .i64 0, .int .i64 0, .int .i64 0]) := n7.setRowNew hBB _
      have B1 : Blk ro7 (r0 + 4) (w7.setRow w8.heap.size #[.int .i64 0, .int .i64 0, .int .i64 0, .int .i64 tag, .slice a8 args.length c8, .int .i64 mark, .int .i64 0, .slice a5 s.m.reads.length c5, .slice a6 s.m.writes.length c6, .slice a7 s.m.out.length c7, .int .i64 0, .int .i64 0, .int .i64 0, .int .i64 0, .int .i64 0, .int .i64 s.steps, .int .i64 0, .int .i64 0, .int .i64 0]) w8.heap.size #[.int .i64 0, .int .i64 0, .int .i64 0, .int .i64 tag, .slice a8 args.length c8, .int .i64 mark, .int .i64 0, .slice a5 s.m.reads.length c5, .slice a6 s.m.writes.length c6, .slice a7 s.m.out.length c7, .int .i64 0, .int .i64 0, .int .i64 0, .int .i64 0, .int .i64 0, .int .i64 s.steps, .int .i64 0, .int .i64 0, .int .i64 0] 63 := B0.setRow
      have BA := HA0.out.keep nF (by simp)
      replace o8 := o8.keep mF (by simp)
      replace o5 := o5.keep mF (by simp)
      replace o6 := o6.keep mF (by simp)
      replace o7 := o7.keep mF (by simp)
      have sF := HS1.out _ _ nF
      refine hK.out _ _ sF (fun hHeld => ?_)
      clear hK K
      refine wpAnyH_done (by kernel_rfl) ?_ _
      refine NoPanic.normal ?_
      generalize w7.setRow w8.heap.size #[.int .i64 0, .int .i64 0, .int .i64 0, .int .i64 tag, .slice a8 args.length c8, .int .i64 mark, .int .i64 0, .slice a5 s.m.reads.length c5, .slice a6 s.m.writes.length c6, .slice a7 s.m.out.length c7, .int .i64 0, .int .i64 0, .int .i64 0, .int .i64 0, .int .i64 0, .int .i64 s.steps, .int .i64 0, .int .i64 0, .int .i64 0] = Wf at *
      generalize hq : w8.heap.size = BB at *
      replace hBB : w1.heap.size ≤ BB := by first | exact Nat.le_of_eq hq | exact hBB
      clear hq
      have hB := B1.cell
      obtain ⟨s6, s7, s8, s9, s10⟩ := sF
      have hltB := B1.lt
      have hltA : w.heap.size < Wf.heap.size := BA.lt
      have hAB : w.heap.size ≠ BB := by omega
      clear mF n7 B0
      try clear hHeld
      have O8 := Lib.hid o8
      have O5 := Lib.hid o5
      have O6 := Lib.hid o6
      have O7 := Lib.hid o7
      have HB1 := Lib.hid B1
      have HBA := Lib.hid BA
      have HNF := Lib.hid nF
      clear o8 o5 o6 o7 B1 BA nF
      by_cases hp : s.part = 4
      · rw [hp] at s9
        clear hB
        go_wp2_with (first
          | (go_at_call 81
             refine (HEW.out ro7 _ HNF.out).mono ?_
             rintro e w9 ⟨rfl, b9⟩
             have B9 := HB1.out.keep (Mv.of_below (R := []) b9) (by simp)
             have hB9 := B9.cell
             have hBf9 := B9.free
             have n9 := HNF.out.then_below b9
             have HB12 := Lib.hid (show Blk ro7 (r0 + 4) (((w9.setCell ⟨BB, 10, none⟩ (.int .i64 s.m.how)).setCell ⟨BB, 11, none⟩ (.int .i64 s.m.ecode)).setCell ⟨BB, 12, none⟩ (.int .i64 s.m.err)) BB #[.int .i64 0, .int .i64 0, .int .i64 0, .int .i64 tag, .slice a8 args.length c8, .int .i64 mark, .int .i64 0, .slice a5 s.m.reads.length c5, .slice a6 s.m.writes.length c6, .slice a7 s.m.out.length c7, .int .i64 s.m.how, .int .i64 s.m.ecode, .int .i64 s.m.err, .int .i64 0, .int .i64 0, .int .i64 s.steps, .int .i64 0, .int .i64 0, .int .i64 0] 63 from ((B9.put (i := 10) rfl).put (i := 11) rfl).put (i := 12) rfl)
             have hpB : ro7 BB ∈ [r0 + 4] := by rw [B9.role]; simp
             have HmX := Lib.hid (show Mv ro7 [r0 + 4] Wf ro7 (((w9.setCell ⟨BB, 10, none⟩ (.int .i64 s.m.how)).setCell ⟨BB, 11, none⟩ (.int .i64 s.m.ecode)).setCell ⟨BB, 12, none⟩ (.int .i64 s.m.err)) from (Mv.of_below (R := [r0 + 4]) b9).trans ((((Mv.refl ro7 [r0 + 4] w9).setCell (p := ⟨BB, 10, none⟩) hpB _).setCell (p := ⟨BB, 11, none⟩) hpB _).setCell (p := ⟨BB, 12, none⟩) hpB _))
             have HnX := Lib.hid (show Mv ro1 [] w1 ro7 (((w9.setCell ⟨BB, 10, none⟩ (.int .i64 s.m.how)).setCell ⟨BB, 11, none⟩ (.int .i64 s.m.ecode)).setCell ⟨BB, 12, none⟩ (.int .i64 s.m.err)) from ((n9.setNew (p := ⟨BB, 10, none⟩) hBB _).setNew (p := ⟨BB, 11, none⟩) hBB _).setNew (p := ⟨BB, 12, none⟩) hBB _)
             have HBA9 := Lib.hid (HA0.out.keep HnX.out (by simp)))
          | (refine wpList_load_mid rfl 63 (.tmp 5) rfl BB 0 rfl [.int .i64 0, .int .i64 0, .int .i64 0, .int .i64 tag, .slice a8 args.length c8, .int .i64 mark, .int .i64 0, .slice a5 s.m.reads.length c5, .slice a6 s.m.writes.length c6, .slice a7 s.m.out.length c7, .int .i64 s.m.how, .int .i64 s.m.ecode, .int .i64 s.m.err, .int .i64 0, .int .i64 0, .int .i64 s.steps, .int .i64 0, .int .i64 0, .int .i64 0] _ HB12.out.range Tryz.underlying63 rfl (by kernel_rfl) ?_
             refine wpList_store_row rfl 63 (.tmp 4) (.tmp 47) rfl w.heap.size #[.int .i64 0, .int .i64 0, .int .i64 0, .int .i64 tag, .slice a8 args.length c8, .int .i64 mark, .int .i64 0, .slice a5 s.m.reads.length c5, .slice a6 s.m.writes.length c6, .slice a7 s.m.out.length c7, .int .i64 s.m.how, .int .i64 s.m.ecode, .int .i64 s.m.err, .int .i64 0, .int .i64 0, .int .i64 s.steps, .int .i64 0, .int .i64 0, .int .i64 0] rfl rfl 63 _ HBA9.out.heap (by kernel_rfl) rfl (by simp [Value.oneCell']) ?_
             have BAz := HBA9.out.setRow (ds := #[.int .i64 0, .int .i64 0, .int .i64 0, .int .i64 tag, .slice a8 args.length c8, .int .i64 mark, .int .i64 0, .slice a5 s.m.reads.length c5, .slice a6 s.m.writes.length c6, .slice a7 s.m.out.length c7, .int .i64 s.m.how, .int .i64 s.m.ecode, .int .i64 s.m.err, .int .i64 0, .int .i64 0, .int .i64 s.steps, .int .i64 0, .int .i64 0, .int .i64 0])
             have mz := HmX.out.trans ((Mv.refl ro7 [r0 + 4] (((w9.setCell ⟨BB, 10, none⟩ (.int .i64 s.m.how)).setCell ⟨BB, 11, none⟩ (.int .i64 s.m.ecode)).setCell ⟨BB, 12, none⟩ (.int .i64 s.m.err))).setRow (g := w.heap.size) (by rw [HBA9.out.role]; simp) #[.int .i64 0, .int .i64 0, .int .i64 0, .int .i64 tag, .slice a8 args.length c8, .int .i64 mark, .int .i64 0, .slice a5 s.m.reads.length c5, .slice a6 s.m.writes.length c6, .slice a7 s.m.out.length c7, .int .i64 s.m.how, .int .i64 s.m.ecode, .int .i64 s.m.err, .int .i64 0, .int .i64 0, .int .i64 s.steps, .int .i64 0, .int .i64 0, .int .i64 0])
             have nz := (HN1.out.trans HnX.out).setRowNew (Nat.le_refl _) #[.int .i64 0, .int .i64 0, .int .i64 0, .int .i64 tag, .slice a8 args.length c8, .int .i64 mark, .int .i64 0, .slice a5 s.m.reads.length c5, .slice a6 s.m.writes.length c6, .slice a7 s.m.out.length c7, .int .i64 s.m.how, .int .i64 s.m.ecode, .int .i64 s.m.err, .int .i64 0, .int .i64 0, .int .i64 s.steps, .int .i64 0, .int .i64 0, .int .i64 0]
             clear HBA9 HmX HnX HB12 hB9 hBf9 B9 n9
             generalize World.setRow _ w.heap.size #[.int .i64 0, .int .i64 0, .int .i64 0, .int .i64 tag, .slice a8 args.length c8, .int .i64 mark, .int .i64 0, .slice a5 s.m.reads.length c5, .slice a6 s.m.writes.length c6, .slice a7 s.m.out.length c7, .int .i64 s.m.how, .int .i64 s.m.ecode, .int .i64 s.m.err, .int .i64 0, .int .i64 0, .int .i64 s.steps, .int .i64 0, .int .i64 0, .int .i64 0] = Wz at *
             have hz := BAz.cell))
        refine bodyPost_ret (v := .agg #[.int .i64 0, .int .i64 0, .int .i64 0, .int .i64 tag, .slice a8 args.length c8, .int .i64 mark, .int .i64 0, .slice a5 s.m.reads.length c5, .slice a6 s.m.writes.length c6, .slice a7 s.m.out.length c7, .int .i64 s.m.how, .int .i64 s.m.ecode, .int .i64 s.m.err, .int .i64 0, .int .i64 0, .int .i64 s.steps, .int .i64 0, .int .i64 0, .int .i64 0]) (results_cell_row Tryz.results68 _ _ w.heap.size _ _ (0, 0) _ rfl BAz.heap Tryz.underlying63 rfl (by kernel_rfl)) rfl ?_
        refine ⟨ro7, _, _, _, _, ?_, O8.out.keep mz (by simp), O5.out.keep mz (by simp), O6.out.keep mz (by simp), O7.out.keep mz (by simp), nz⟩
        rw [if_pos hp, if_pos hp, if_pos hp]; rfl
      · have hp9 : (s.part == 4) = false := by simpa using hp
        clear hB
        go_wp2_with (
          refine wpList_load_mid rfl 63 (.tmp 5) rfl BB 0 rfl [.int .i64 0, .int .i64 0, .int .i64 0, .int .i64 tag, .slice a8 args.length c8, .int .i64 mark, .int .i64 0, .slice a5 s.m.reads.length c5, .slice a6 s.m.writes.length c6, .slice a7 s.m.out.length c7, .int .i64 0, .int .i64 0, .int .i64 0, .int .i64 0, .int .i64 0, .int .i64 s.steps, .int .i64 0, .int .i64 0, .int .i64 0] _ HB1.out.range Tryz.underlying63 rfl (by kernel_rfl) ?_
          refine wpList_store_row rfl 63 (.tmp 4) (.tmp 47) rfl w.heap.size #[.int .i64 0, .int .i64 0, .int .i64 0, .int .i64 tag, .slice a8 args.length c8, .int .i64 mark, .int .i64 0, .slice a5 s.m.reads.length c5, .slice a6 s.m.writes.length c6, .slice a7 s.m.out.length c7, .int .i64 0, .int .i64 0, .int .i64 0, .int .i64 0, .int .i64 0, .int .i64 s.steps, .int .i64 0, .int .i64 0, .int .i64 0] rfl rfl 63 _ HBA.out.heap (by kernel_rfl) rfl (by simp [Value.oneCell']) ?_
          have BAz := HBA.out.setRow (ds := #[.int .i64 0, .int .i64 0, .int .i64 0, .int .i64 tag, .slice a8 args.length c8, .int .i64 mark, .int .i64 0, .slice a5 s.m.reads.length c5, .slice a6 s.m.writes.length c6, .slice a7 s.m.out.length c7, .int .i64 0, .int .i64 0, .int .i64 0, .int .i64 0, .int .i64 0, .int .i64 s.steps, .int .i64 0, .int .i64 0, .int .i64 0])
          have mz := (Mv.refl ro7 [r0 + 4] Wf).setRow (g := w.heap.size) (by rw [HBA.out.role]; simp) #[.int .i64 0, .int .i64 0, .int .i64 0, .int .i64 tag, .slice a8 args.length c8, .int .i64 mark, .int .i64 0, .slice a5 s.m.reads.length c5, .slice a6 s.m.writes.length c6, .slice a7 s.m.out.length c7, .int .i64 0, .int .i64 0, .int .i64 0, .int .i64 0, .int .i64 0, .int .i64 s.steps, .int .i64 0, .int .i64 0, .int .i64 0]
          have nz := (HN1.out.trans HNF.out).setRowNew (Nat.le_refl _) #[.int .i64 0, .int .i64 0, .int .i64 0, .int .i64 tag, .slice a8 args.length c8, .int .i64 mark, .int .i64 0, .slice a5 s.m.reads.length c5, .slice a6 s.m.writes.length c6, .slice a7 s.m.out.length c7, .int .i64 0, .int .i64 0, .int .i64 0, .int .i64 0, .int .i64 0, .int .i64 s.steps, .int .i64 0, .int .i64 0, .int .i64 0]
          clear HBA HB1 HNF
          generalize World.setRow _ w.heap.size #[.int .i64 0, .int .i64 0, .int .i64 0, .int .i64 tag, .slice a8 args.length c8, .int .i64 mark, .int .i64 0, .slice a5 s.m.reads.length c5, .slice a6 s.m.writes.length c6, .slice a7 s.m.out.length c7, .int .i64 0, .int .i64 0, .int .i64 0, .int .i64 0, .int .i64 0, .int .i64 s.steps, .int .i64 0, .int .i64 0, .int .i64 0] = Wz at *
          have hz := BAz.cell)
        refine bodyPost_ret (v := .agg #[.int .i64 0, .int .i64 0, .int .i64 0, .int .i64 tag, .slice a8 args.length c8, .int .i64 mark, .int .i64 0, .slice a5 s.m.reads.length c5, .slice a6 s.m.writes.length c6, .slice a7 s.m.out.length c7, .int .i64 0, .int .i64 0, .int .i64 0, .int .i64 0, .int .i64 0, .int .i64 s.steps, .int .i64 0, .int .i64 0, .int .i64 0]) (results_cell_row Tryz.results68 _ _ w.heap.size _ _ (0, 0) _ rfl BAz.heap Tryz.underlying63 rfl (by kernel_rfl)) rfl ?_
        refine ⟨ro7, _, _, _, _, ?_, O8.out.keep mz (by simp), O5.out.keep mz (by simp), O6.out.keep mz (by simp), O7.out.keep mz (by simp), nz⟩
        rw [if_neg hp, if_neg hp, if_neg hp]; rfl
  · skip
    refine AllReadyH.cons rfl (fun K hK => ?_) ?_
    rotate_left
    · exact AllReadyH.nil
    go_simp
    refine hK.out _ _ (HS1.out _ _ ((Mv.refl ro1 [] w1).alloc _).drew) (fun hHeld => ?_)
    clear hK K
    refine wpAnyH_ready (rs := [8]) (by kernel_rfl) (by simp) ?_
    refine AllReadyH.cons rfl (fun K hK => ?_) ?_
    rotate_left
    · exact AllReadyH.nil
    try simp only [List.getElem_toArray, List.getElem_cons_succ, List.getElem_cons_zero]
    refine step_copy (a := ⟨_, _⟩) elF cF_len cF_one (setRo ro1 w1.heap.size (r0 + 4)) r0 rfl (.const (.slice none 0 0)) (.tmp 13) rfl (args.map fx) (.slice va1 args.length va2) rfl rfl (HAW.out (setRo ro1 w1.heap.size (r0 + 4)) _ (((Mv.refl ro1 [] w1).alloc (.cells #[.int .i64 0, .int .i64 0, .int .i64 0, .int .i64 0, .slice none 0 0, .int .i64 0, .int .i64 0, .slice none 0 0, .slice none 0 0, .slice none 0 0, .int .i64 0, .int .i64 0, .int .i64 0, .int .i64 0, .int .i64 0, .int .i64 0, .int .i64 0, .int .i64 0, .int .i64 0] 63)).give (r := r0 + 4) (Nat.le_refl _)).drew) (by rw [List.length_map]; omega) ?_
    intro v8 w8 p8 k8
    obtain ⟨ro8, o8, m8, n8⟩ := packM p8 k8 (((Mv.refl ro1 [] w1).alloc (.cells #[.int .i64 0, .int .i64 0, .int .i64 0, .int .i64 0, .slice none 0 0, .int .i64 0, .int .i64 0, .slice none 0 0, .slice none 0 0, .slice none 0 0, .int .i64 0, .int .i64 0, .int .i64 0, .int .i64 0, .int .i64 0, .int .i64 0, .int .i64 0, .int .i64 0, .int .i64 0] 63)).give (r := r0 + 4) (Nat.le_refl _)).drew
    clear p8 k8
    obtain ⟨a8, c8, ev8⟩ := o8.form
    rw [List.length_map] at ev8
    subst ev8
    have B0 := ((Blk.new ro1 (r0 + 4) w1 #[.int .i64 0, .int .i64 0, .int .i64 0, .int .i64 0, .slice none 0 0, .int .i64 0, .int .i64 0, .slice none 0 0, .slice none 0 0, .slice none 0 0, .int .i64 0, .int .i64 0, .int .i64 0, .int .i64 0, .int .i64 0, .int .i64 0, .int .i64 0, .int .i64 0, .int .i64 0] 63).keep (Mv.refl _ [] _).drew (by simp)).keep m8 (by simp)
    have hBB : w1.heap.size ≤ w1.heap.size := (Nat.le_refl _)
    refine hK.out _ _ (HS1.out ro8 _ n8) (fun hHeld => ?_)
    clear hK K
    refine wpAnyH_ready (rs := [14]) (by kernel_rfl) (by simp) ?_
    refine AllReadyH.cons rfl (fun K hK => ?_) ?_
    rotate_left
    · exact AllReadyH.nil
    go_simp
    go_at_call 78
    refine (HRW.out ro8 _ n8).mono ?_
    rintro e w5 ⟨v5, rfl, p5, k5⟩
    obtain ⟨ro5, o5, m5, n5⟩ := packM p5 k5 n8
    clear p5 k5
    obtain ⟨a5, c5, ev5⟩ := o5.form
    subst ev5
    replace o8 := o8.keep (Mv.trans (Mv.refl ro8 [] w8) m5) (by simp)
    dsimp only
    replace B0 := B0.keep m5 (by simp)
    refine hK.out _ _ (HS1.out ro5 _ n5) (fun hHeld => ?_)
    clear hK K
    refine wpAnyH_ready (rs := [19]) (by kernel_rfl) (by simp) ?_
    refine AllReadyH.cons rfl (fun K hK => ?_) ?_
    rotate_left
    · exact AllReadyH.nil
    go_simp
    go_at_call 79
    refine (HWW.out ro5 _ n5).mono ?_
    rintro e w6 ⟨v6, ro6, rfl, o6, m6⟩
    have n6 := Mv.trans n5 m6
    obtain ⟨a6, c6, ev6⟩ := o6.form
    subst ev6
    replace o8 := o8.keep (Mv.trans (Mv.refl ro5 [] w5) m6) (by simp)
    replace o5 := o5.keep (Mv.trans (Mv.refl ro5 [] w5) m6) (by simp)
    dsimp only
    replace B0 := B0.keep m6 (by simp)
    refine hK.out _ _ (HS1.out ro6 _ n6) (fun hHeld => ?_)
    clear hK K
    refine wpAnyH_ready (rs := [24]) (by kernel_rfl) (by simp) ?_
    refine AllReadyH.cons rfl (fun K hK => ?_) ?_
    rotate_left
    · exact AllReadyH.nil
    go_simp
    go_at_call 80
    refine (HOW.out ro6 _ n6).mono ?_
    rintro e w7 ⟨v7, rfl, p7, k7⟩
    obtain ⟨ro7, o7, m7, n7⟩ := packM p7 k7 n6
    clear p7 k7
    obtain ⟨a7, c7, ev7⟩ := o7.form
    subst ev7
    replace o8 := o8.keep (Mv.trans (Mv.refl ro6 [] w6) m7) (by simp)
    replace o5 := o5.keep (Mv.trans (Mv.refl ro6 [] w6) m7) (by simp)
    replace o6 := o6.keep (Mv.trans (Mv.refl ro6 [] w6) m7) (by simp)
    dsimp only
    replace B0 := B0.keep m7 (by simp)
    refine hK.out _ _ (HS1.out ro7 _ n7) (fun hHeld => ?_)
    clear hK K
    refine' wpAnyH_take (i := 29) (v := _) rfl (by kernel_rfl) (by kernel_rfl) (by kernel_rfl) (fun _ _ _ h => h) (Or.inl ⟨by kernel_rfl, ?hy30⟩) (by assumption) ?rest30
    case hy30 => (intro w hSw; (try dsimp only at hSw); go_simp; try with_reducible rfl)
    try simp only [Act.put, List.getElem_toArray, List.getElem_cons_succ, List.getElem_cons_zero, List.setIfInBounds_toArray, List.set_cons_zero, List.set_cons_succ]
    refine wpAnyH_ready (rs := [31]) (by kernel_rfl) (by simp) ?_
    refine AllReadyH.cons rfl (fun K hK => ?_) ?_
    rotate_left
    · exact AllReadyH.nil
    try simp only [List.getElem_toArray, List.getElem_cons_succ, List.getElem_cons_zero]
    rw [if_pos (by kernel_rfl)]
    refine wp_store_row 63 (.tmp 5) (.tmp 35) rfl _ #[.int .i64 0, .int .i64 0, .int .i64 0, .int .i64 tag, .slice a8 args.length c8, .int .i64 mark, .int .i64 0, .slice a5 s.m.reads.length c5, .slice a6 s.m.writes.length c6, .slice a7 s.m.out.length c7, .int .i64 0, .int .i64 0, .int .i64 0, .int .i64 0, .int .i64 0, .int .i64 s.steps, .int .i64 0, .int .i64 0, .int .i64 0] rfl rfl 63 _ B0.heap (by kernel_rfl) rfl (by simp [Value.oneCell']) ?_
    have mF : Mv ro7 [r0 + 4] w7 ro7 (w7.setRow w1.heap.size #[.int .i64 0, .int .i64 0, .int .i64 0, .int .i64 tag, .slice a8 args.length c8, .int .i64 mark, .int .i64 0, .slice a5 s.m.reads.length c5, .slice a6 s.m.writes.length c6, .slice a7 s.m.out.length c7, .int .i64 0, .int .i64 0, .int .i64 0, .int .i64 0, .int .i64 0, .int .i64 s.steps, .int .i64 0, .int .i64 0, .int .i64 0]) := (Mv.refl _ _ _).setRow (by rw [B0.role]; simp) _
    have nF : Mv ro1 [] w1 ro7 (w7.setRow w1.heap.size #[.int .i64 0, .int .i64 0, .int .i64 0, .int .i64 tag, .slice a8 args.length c8, .int .i64 mark, .int .i64 0, .slice a5 s.m.reads.length c5, .slice a6 s.m.writes.length c6, .slice a7 s.m.out.length c7, .int .i64 0, .int .i64 0, .int .i64 0, .int .i64 0, .int .i64 0, .int .i64 s.steps, .int .i64 0, .int .i64 0, .int .i64 0]) := n7.setRowNew hBB _
    have B1 : Blk ro7 (r0 + 4) (w7.setRow w1.heap.size #[.int .i64 0, .int .i64 0, .int .i64 0, .int .i64 tag, .slice a8 args.length c8, .int .i64 mark, .int .i64 0, .slice a5 s.m.reads.length c5, .slice a6 s.m.writes.length c6, .slice a7 s.m.out.length c7, .int .i64 0, .int .i64 0, .int .i64 0, .int .i64 0, .int .i64 0, .int .i64 s.steps, .int .i64 0, .int .i64 0, .int .i64 0]) w1.heap.size #[.int .i64 0, .int .i64 0, .int .i64 0, .int .i64 tag, .slice a8 args.length c8, .int .i64 mark, .int .i64 0, .slice a5 s.m.reads.length c5, .slice a6 s.m.writes.length c6, .slice a7 s.m.out.length c7, .int .i64 0, .int .i64 0, .int .i64 0, .int .i64 0, .int .i64 0, .int .i64 s.steps, .int .i64 0, .int .i64 0, .int .i64 0] 63 := B0.setRow
    have BA := HA0.out.keep nF (by simp)
    replace o8 := o8.keep mF (by simp)
    replace o5 := o5.keep mF (by simp)
    replace o6 := o6.keep mF (by simp)
    replace o7 := o7.keep mF (by simp)
    have sF := HS1.out _ _ nF
    refine hK.out _ _ sF (fun hHeld => ?_)
    clear hK K
    refine wpAnyH_done (by kernel_rfl) ?_ _
    refine NoPanic.normal ?_
    generalize w7.setRow w1.heap.size #[.int .i64 0, .int .i64 0, .int .i64 0, .int .i64 tag, .slice a8 args.length c8, .int .i64 mark, .int .i64 0, .slice a5 s.m.reads.length c5, .slice a6 s.m.writes.length c6, .slice a7 s.m.out.length c7, .int .i64 0, .int .i64 0, .int .i64 0, .int .i64 0, .int .i64 0, .int .i64 s.steps, .int .i64 0, .int .i64 0, .int .i64 0] = Wf at *
    generalize hq : w1.heap.size = BB at *
    replace hBB : w1.heap.size ≤ BB := by first | exact Nat.le_of_eq hq | exact hBB
    clear hq
    have hB := B1.cell
    obtain ⟨s6, s7, s8, s9, s10⟩ := sF
    have hltB := B1.lt
    have hltA : w.heap.size < Wf.heap.size := BA.lt
    have hAB : w.heap.size ≠ BB := by omega
    clear mF n7 B0
    try clear hHeld
    have O8 := Lib.hid o8
    have O5 := Lib.hid o5
    have O6 := Lib.hid o6
    have O7 := Lib.hid o7
    have HB1 := Lib.hid B1
    have HBA := Lib.hid BA
    have HNF := Lib.hid nF
    clear o8 o5 o6 o7 B1 BA nF
    by_cases hp : s.part = 4
    · rw [hp] at s9
      clear hB
      go_wp2_with (first
        | (go_at_call 81
           refine (HEW.out ro7 _ HNF.out).mono ?_
           rintro e w9 ⟨rfl, b9⟩
           have B9 := HB1.out.keep (Mv.of_below (R := []) b9) (by simp)
           have hB9 := B9.cell
           have hBf9 := B9.free
           have n9 := HNF.out.then_below b9
           have HB12 := Lib.hid (show Blk ro7 (r0 + 4) (((w9.setCell ⟨BB, 10, none⟩ (.int .i64 s.m.how)).setCell ⟨BB, 11, none⟩ (.int .i64 s.m.ecode)).setCell ⟨BB, 12, none⟩ (.int .i64 s.m.err)) BB #[.int .i64 0, .int .i64 0, .int .i64 0, .int .i64 tag, .slice a8 args.length c8, .int .i64 mark, .int .i64 0, .slice a5 s.m.reads.length c5, .slice a6 s.m.writes.length c6, .slice a7 s.m.out.length c7, .int .i64 s.m.how, .int .i64 s.m.ecode, .int .i64 s.m.err, .int .i64 0, .int .i64 0, .int .i64 s.steps, .int .i64 0, .int .i64 0, .int .i64 0] 63 from ((B9.put (i := 10) rfl).put (i := 11) rfl).put (i := 12) rfl)
           have hpB : ro7 BB ∈ [r0 + 4] := by rw [B9.role]; simp
           have HmX := Lib.hid (show Mv ro7 [r0 + 4] Wf ro7 (((w9.setCell ⟨BB, 10, none⟩ (.int .i64 s.m.how)).setCell ⟨BB, 11, none⟩ (.int .i64 s.m.ecode)).setCell ⟨BB, 12, none⟩ (.int .i64 s.m.err)) from (Mv.of_below (R := [r0 + 4]) b9).trans ((((Mv.refl ro7 [r0 + 4] w9).setCell (p := ⟨BB, 10, none⟩) hpB _).setCell (p := ⟨BB, 11, none⟩) hpB _).setCell (p := ⟨BB, 12, none⟩) hpB _))
           have HnX := Lib.hid (show Mv ro1 [] w1 ro7 (((w9.setCell ⟨BB, 10, none⟩ (.int .i64 s.m.how)).setCell ⟨BB, 11, none⟩ (.int .i64 s.m.ecode)).setCell ⟨BB, 12, none⟩ (.int .i64 s.m.err)) from ((n9.setNew (p := ⟨BB, 10, none⟩) hBB _).setNew (p := ⟨BB, 11, none⟩) hBB _).setNew (p := ⟨BB, 12, none⟩) hBB _)
           have HBA9 := Lib.hid (HA0.out.keep HnX.out (by simp)))
        | (refine wpList_load_mid rfl 63 (.tmp 5) rfl BB 0 rfl [.int .i64 0, .int .i64 0, .int .i64 0, .int .i64 tag, .slice a8 args.length c8, .int .i64 mark, .int .i64 0, .slice a5 s.m.reads.length c5, .slice a6 s.m.writes.length c6, .slice a7 s.m.out.length c7, .int .i64 s.m.how, .int .i64 s.m.ecode, .int .i64 s.m.err, .int .i64 0, .int .i64 0, .int .i64 s.steps, .int .i64 0, .int .i64 0, .int .i64 0] _ HB12.out.range Tryz.underlying63 rfl (by kernel_rfl) ?_
           refine wpList_store_row rfl 63 (.tmp 4) (.tmp 47) rfl w.heap.size #[.int .i64 0, .int .i64 0, .int .i64 0, .int .i64 tag, .slice a8 args.length c8, .int .i64 mark, .int .i64 0, .slice a5 s.m.reads.length c5, .slice a6 s.m.writes.length c6, .slice a7 s.m.out.length c7, .int .i64 s.m.how, .int .i64 s.m.ecode, .int .i64 s.m.err, .int .i64 0, .int .i64 0, .int .i64 s.steps, .int .i64 0, .int .i64 0, .int .i64 0] rfl rfl 63 _ HBA9.out.heap (by kernel_rfl) rfl (by simp [Value.oneCell']) ?_
           have BAz := HBA9.out.setRow (ds := #[.int .i64 0, .int .i64 0, .int .i64 0, .int .i64 tag, .slice a8 args.length c8, .int .i64 mark, .int .i64 0, .slice a5 s.m.reads.length c5, .slice a6 s.m.writes.length c6, .slice a7 s.m.out.length c7, .int .i64 s.m.how, .int .i64 s.m.ecode, .int .i64 s.m.err, .int .i64 0, .int .i64 0, .int .i64 s.steps, .int .i64 0, .int .i64 0, .int .i64 0])
           have mz := HmX.out.trans ((Mv.refl ro7 [r0 + 4] (((w9.setCell ⟨BB, 10, none⟩ (.int .i64 s.m.how)).setCell ⟨BB, 11, none⟩ (.int .i64 s.m.ecode)).setCell ⟨BB, 12, none⟩ (.int .i64 s.m.err))).setRow (g := w.heap.size) (by rw [HBA9.out.role]; simp) #[.int .i64 0, .int .i64 0, .int .i64 0, .int .i64 tag, .slice a8 args.length c8, .int .i64 mark, .int .i64 0, .slice a5 s.m.reads.length c5, .slice a6 s.m.writes.length c6, .slice a7 s.m.out.length c7, .int .i64 s.m.how, .int .i64 s.m.ecode, .int .i64 s.m.err, .int .i64 0, .int .i64 0, .int .i64 s.steps, .int .i64 0, .int .i64 0, .int .i64 0])
           have nz := (HN1.out.trans HnX.out).setRowNew (Nat.le_refl _) #[.int .i64 0, .int .i64 0, .int .i64 0, .int .i64 tag, .slice a8 args.length c8, .int .i64 mark, .int .i64 0, .slice a5 s.m.reads.length c5, .slice a6 s.m.writes.length c6, .slice a7 s.m.out.length c7, .int .i64 s.m.how, .int .i64 s.m.ecode, .int .i64 s.m.err, .int .i64 0, .int .i64 0, .int .i64 s.steps, .int .i64 0, .int .i64 0, .int .i64 0]
           clear HBA9 HmX HnX HB12 hB9 hBf9 B9 n9
           generalize World.setRow _ w.heap.size #[.int .i64 0, .int .i64 0, .int .i64 0, .int .i64 tag, .slice a8 args.length c8, .int .i64 mark, .int .i64 0, .slice a5 s.m.reads.length c5, .slice a6 s.m.writes.length c6, .slice a7 s.m.out.length c7, .int .i64 s.m.how, .int .i64 s.m.ecode, .int .i64 s.m.err, .int .i64 0, .int .i64 0, .int .i64 s.steps, .int .i64 0, .int .i64 0, .int .i64 0] = Wz at *
           have hz := BAz.cell))
      refine bodyPost_ret (v := .agg #[.int .i64 0, .int .i64 0, .int .i64 0, .int .i64 tag, .slice a8 args.length c8, .int .i64 mark, .int .i64 0, .slice a5 s.m.reads.length c5, .slice a6 s.m.writes.length c6, .slice a7 s.m.out.length c7, .int .i64 s.m.how, .int .i64 s.m.ecode, .int .i64 s.m.err, .int .i64 0, .int .i64 0, .int .i64 s.steps, .int .i64 0, .int .i64 0, .int .i64 0]) (results_cell_row Tryz.results68 _ _ w.heap.size _ _ (0, 0) _ rfl BAz.heap Tryz.underlying63 rfl (by kernel_rfl)) rfl ?_
      refine ⟨ro7, _, _, _, _, ?_, O8.out.keep mz (by simp), O5.out.keep mz (by simp), O6.out.keep mz (by simp), O7.out.keep mz (by simp), nz⟩
      rw [if_pos hp, if_pos hp, if_pos hp]; rfl
    · have hp9 : (s.part == 4) = false := by simpa using hp
      clear hB
      go_wp2_with (
        refine wpList_load_mid rfl 63 (.tmp 5) rfl BB 0 rfl [.int .i64 0, .int .i64 0, .int .i64 0, .int .i64 tag, .slice a8 args.length c8, .int .i64 mark, .int .i64 0, .slice a5 s.m.reads.length c5, .slice a6 s.m.writes.length c6, .slice a7 s.m.out.length c7, .int .i64 0, .int .i64 0, .int .i64 0, .int .i64 0, .int .i64 0, .int .i64 s.steps, .int .i64 0, .int .i64 0, .int .i64 0] _ HB1.out.range Tryz.underlying63 rfl (by kernel_rfl) ?_
        refine wpList_store_row rfl 63 (.tmp 4) (.tmp 47) rfl w.heap.size #[.int .i64 0, .int .i64 0, .int .i64 0, .int .i64 tag, .slice a8 args.length c8, .int .i64 mark, .int .i64 0, .slice a5 s.m.reads.length c5, .slice a6 s.m.writes.length c6, .slice a7 s.m.out.length c7, .int .i64 0, .int .i64 0, .int .i64 0, .int .i64 0, .int .i64 0, .int .i64 s.steps, .int .i64 0, .int .i64 0, .int .i64 0] rfl rfl 63 _ HBA.out.heap (by kernel_rfl) rfl (by simp [Value.oneCell']) ?_
        have BAz := HBA.out.setRow (ds := #[.int .i64 0, .int .i64 0, .int .i64 0, .int .i64 tag, .slice a8 args.length c8, .int .i64 mark, .int .i64 0, .slice a5 s.m.reads.length c5, .slice a6 s.m.writes.length c6, .slice a7 s.m.out.length c7, .int .i64 0, .int .i64 0, .int .i64 0, .int .i64 0, .int .i64 0, .int .i64 s.steps, .int .i64 0, .int .i64 0, .int .i64 0])
        have mz := (Mv.refl ro7 [r0 + 4] Wf).setRow (g := w.heap.size) (by rw [HBA.out.role]; simp) #[.int .i64 0, .int .i64 0, .int .i64 0, .int .i64 tag, .slice a8 args.length c8, .int .i64 mark, .int .i64 0, .slice a5 s.m.reads.length c5, .slice a6 s.m.writes.length c6, .slice a7 s.m.out.length c7, .int .i64 0, .int .i64 0, .int .i64 0, .int .i64 0, .int .i64 0, .int .i64 s.steps, .int .i64 0, .int .i64 0, .int .i64 0]
        have nz := (HN1.out.trans HNF.out).setRowNew (Nat.le_refl _) #[.int .i64 0, .int .i64 0, .int .i64 0, .int .i64 tag, .slice a8 args.length c8, .int .i64 mark, .int .i64 0, .slice a5 s.m.reads.length c5, .slice a6 s.m.writes.length c6, .slice a7 s.m.out.length c7, .int .i64 0, .int .i64 0, .int .i64 0, .int .i64 0, .int .i64 0, .int .i64 s.steps, .int .i64 0, .int .i64 0, .int .i64 0]
        clear HBA HB1 HNF
        generalize World.setRow _ w.heap.size #[.int .i64 0, .int .i64 0, .int .i64 0, .int .i64 tag, .slice a8 args.length c8, .int .i64 mark, .int .i64 0, .slice a5 s.m.reads.length c5, .slice a6 s.m.writes.length c6, .slice a7 s.m.out.length c7, .int .i64 0, .int .i64 0, .int .i64 0, .int .i64 0, .int .i64 0, .int .i64 s.steps, .int .i64 0, .int .i64 0, .int .i64 0] = Wz at *
        have hz := BAz.cell)
      refine bodyPost_ret (v := .agg #[.int .i64 0, .int .i64 0, .int .i64 0, .int .i64 tag, .slice a8 args.length c8, .int .i64 mark, .int .i64 0, .slice a5 s.m.reads.length c5, .slice a6 s.m.writes.length c6, .slice a7 s.m.out.length c7, .int .i64 0, .int .i64 0, .int .i64 0, .int .i64 0, .int .i64 0, .int .i64 s.steps, .int .i64 0, .int .i64 0, .int .i64 0]) (results_cell_row Tryz.results68 _ _ w.heap.size _ _ (0, 0) _ rfl BAz.heap Tryz.underlying63 rfl (by kernel_rfl)) rfl ?_
      refine ⟨ro7, _, _, _, _, ?_, O8.out.keep mz (by simp), O5.out.keep mz (by simp), O6.out.keep mz (by simp), O7.out.keep mz (by simp), nz⟩
      rw [if_neg hp, if_neg hp, if_neg hp]; rfl
end Go.Proofs.YtphaeodcomgffaaGreat
