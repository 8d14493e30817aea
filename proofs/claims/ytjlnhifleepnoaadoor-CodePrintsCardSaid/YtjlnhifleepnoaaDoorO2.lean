import Derived.Test.YtjlnhifleepnoaaDoorK16
import Derived.Laws.MakeOwn
import Derived.OwnWalk
import Derived.Deep.RegionHeldLaw
set_option linter.unusedVariables false
set_option linter.unusedSimpArgs false
namespace Go.Proofs.YtjlnhifleepnoaaDoor
open Go.RowKit

theorem info_of41 : ∃ i, Tryd.prog.info? 41 = some i ∧ i.zero = some (.agg #[.int .i64 0, .int .i64 0, .float .f64 0]) ∧ i.size = 3 ∧ i.bytes = 24 := by
  have h := info41
  cases h2 : Tryd.prog.info? 41 with
  | none => rw [h2] at h; cases h
  | some i => rw [h2] at h; simp at h; exact ⟨i, rfl, h.1, h.2.1, h.2.2⟩
theorem flat_cells (m : List Ins) : ∀ u ∈ flat m, u.oneCell' = true := by
  intro u hu
  obtain ⟨r, hr, hu⟩ := List.mem_flatten.1 hu
  obtain ⟨p, _, rfl⟩ := List.mem_map.1 hr
  simp only [Ins.row, List.mem_cons, List.not_mem_nil, or_false] at hu
  rcases hu with rfl | rfl | rfl <;> rfl

/-- append(v, u...) where v is the call's own and u reads as m. -/
theorem run_append_rd (ty : TypeId) (w : World) (B : Nat) (l m : List Ins) (v u : Value) (hown : OwnC w B v l) (hrd : RdC w u m) (hlen : (l.length + m.length) * 24 ≤ 140737488355328) (hB : B ≤ w.heap.size) :
    ∃ v' w', (Builtin.append_ #[27, 27] ty #[v, u]).run Tryd.prog w = .ok v' w' ∧ OwnC w' B v' (l ++ m) ∧ w.grownBy w' v.ownBlock := by
  obtain ⟨i, hi, hz, hs, hby⟩ := info_of41
  rcases hrd with ⟨h0, h1 | ⟨a, c, h1⟩⟩ | ⟨b, off, c, h1, hl, hb, hc⟩
  · have hm : m = [] := by simpa using h0
    subst hm h1
    exact ⟨v, w, run_append_owned_none w B 27 ty 41 i 3 under27 hi v l.length (flat l) hown, by simpa using hown, World.grownBy.refl _ _⟩
  · have hm : m = [] := by simpa using h0
    subst hm h1
    obtain ⟨v', w', hr, h2, h3, _⟩ := run_append_own w B 27 ty 41 i _ 3 24 under27 hi hz hs hby rfl (by decide) v l.length (flat l) hown a 0 c [] rfl (by simp) (by simp) (by unfold maxLen; omega) (by simpa using hlen) hB
    refine ⟨v', w', hr, ?_, h3⟩
    have h4 : w'.ownsRow B 41 3 v' l.length (flat l) := by simpa using h2
    simpa [OwnC] using h4
  · simp only [List.length_map] at h1 hl hc
    subst h1
    obtain ⟨v', w', hr, h2, h3, _⟩ := run_append_own w B 27 ty 41 i _ 3 24 under27 hi hz hs hby rfl (by decide) v l.length (flat l) hown ⟨b, off, none⟩ m.length c (flat m) (flat_len m) (fun j u hj => by
        have hj3 : j < m.length * 3 := by rw [← flat_len]; exact (List.getElem?_eq_some_iff.1 hj).1
        have e : j / 3 * 3 + j % 3 = j := by omega
        have h5 := hc (j / 3) (j % 3) (by omega) (by omega)
        rw [← flat_at m (j / 3) (j % 3) (by omega) (by omega), Nat.add_assoc, e, hj] at h5
        rw [Addr.add_lit]; exact h5) (flat_cells m) (by unfold maxLen; omega) hlen hB
    refine ⟨v', w', hr, ?_, h3⟩
    show w'.ownsRow B 41 3 v' (l ++ m).length (flat (l ++ m))
    rw [flat_app, List.length_append]
    exact h2

theorem wp_append_rd {w : World} {o : Oper} {a : Act} {K : Act → World → Prop} {Q : Exit → Act → World → Prop} (s x : Operand)
    (ho : o.op = .call { callee := .builtin .append, args := #[s, x], argTypes := #[27, 27] }) (B : Nat) (l m : List Ins) (v u : Value) (hs : a.eval s = v) (hx : a.eval x = u)
    (hown : OwnC w B v l) (hrd : RdC w u m) (hlen : (l.length + m.length) * 24 ≤ 140737488355328) (hB : B ≤ w.heap.size)
    (h : ∀ v' w', OwnC w' B v' (l ++ m) → w.grownBy w' v.ownBlock → K (a.put o.dst v') w') : o.wp Tryd.prog a w K Q := by
  obtain ⟨v', w', hr, h2, h3⟩ := run_append_rd o.type w B l m v u hown hrd hlen hB
  unfold Oper.wp execOp
  simp only [ho, resolve, invoke, builtin, Sem.run_bind, Sem.run_pure, Result.andThen_ok, List.map_toArray, List.map_cons, List.map_nil, hs, hx, hr]
  exact h v' w' h2 h3
theorem wpList_append_rd {w : World} {ops : Array Oper} {rest : List Oper} {o : Oper} {a : Act} {Q : Exit → Act → World → Prop} (hgd : o.guard = none) (s x : Operand)
    (ho : o.op = .call { callee := .builtin .append, args := #[s, x], argTypes := #[27, 27] }) (B : Nat) (l m : List Ins) (v u : Value) (hs : a.eval s = v) (hx : a.eval x = u)
    (hown : OwnC w B v l) (hrd : RdC w u m) (hlen : (l.length + m.length) * 24 ≤ 140737488355328) (hB : B ≤ w.heap.size)
    (h : ∀ v' w', OwnC w' B v' (l ++ m) → w.grownBy w' v.ownBlock → wpList Tryd.prog ops Q rest (a.put o.dst v') w') : wpList Tryd.prog ops Q (o :: rest) a w :=
  wpList_plain hgd fun _ hK => wp_append_rd s x ho B l m v u hs hx hown hrd hlen hB fun v' w' h2 h3 => hK _ _ (h v' w' h2 h3)
theorem step_append_rd {w : World} {ops : Array Oper} {o : Oper} {a : Act} {K : Act → World → Prop} {Q : Exit → Act → World → Prop} {E : Prop} (hgd : o.guard = none) (s x : Operand)
    (ho : o.op = .call { callee := .builtin .append, args := #[s, x], argTypes := #[27, 27] }) (B : Nat) (l m : List Ins) (v u : Value) (hs : a.eval s = v) (hx : a.eval x = u)
    (hown : OwnC w B v l) (hrd : RdC w u m) (hlen : (l.length + m.length) * 24 ≤ 140737488355328) (hB : B ≤ w.heap.size)
    (h : ∀ v' w', OwnC w' B v' (l ++ m) → w.grownBy w' v.ownBlock → K (a.put o.dst v') w') : if Region.wanted o (yielded ops a.tmps) = true then Oper.wp Tryd.prog o a w K Q else E := by
  have hw : Region.wanted o (yielded ops a.tmps) = true := by simp [Region.wanted, hgd]
  rw [if_pos hw]
  exact wp_append_rd s x ho B l m v u hs hx hown hrd hlen hB h

theorem rd_two (W : World) (T : TypeId) : RdC (W.alloc (.cells #[.int .i64 77, .int .i64 0, .float .f64 0, .int .i64 78, .int .i64 0, .float .f64 0] T)) (.slice (some ⟨W.heap.size, 0, none⟩) 2 2) [⟨77, 0, 0⟩, ⟨78, 0, 0⟩] := by
  refine .inr ⟨_, 0, 2, rfl, by decide, by simp, fun i j hi hj => ?_⟩
  have h := heap_alloc_new W (.cells #[.int .i64 77, .int .i64 0, .float .f64 0, .int .i64 78, .int .i64 0, .float .f64 0] T)
  rw [cell_of_row _ _ _ _ _ _ h, Nat.zero_add]
  have hi' : i < 2 := hi
  rcases (by omega : i = 0 ∨ i = 1) with rfl | rfl <;> rcases (by omega : j = 0 ∨ j = 1 ∨ j = 2) with rfl | rfl | rfl <;> rfl

theorem make_ins (n : Nat) (hn : n * 24 ≤ 140737488351232) : ∃ M : Array Value, M.size = (n + 2) * 3 ∧ ∀ W : World, (Instr.makeSlice 27 (.int .i64 0) (.int .i64 ((n : Int) + 2))).run Tryd.prog W = .ok (.slice (some ⟨W.heap.size, 0, none⟩) 0 (n + 2)) (W.alloc (.cells M 41)) := by
  obtain ⟨i, hi, hz, hs, hby⟩ := info_of41
  refine ⟨madeCells (Value.agg #[.int .i64 0, .int .i64 0, .float .f64 0]).cells ((n + 2) * i.size), by rw [size_madeCells, hs], fun W => ?_⟩
  have h := run_make (P := Tryd.prog) W 27 41 i _ under27 hi hz .i64 .i64 0 ((n : Int) + 2) (by omega) (by omega) (by rw [hby]; omega) (by omega)
  rw [h]
  rfl

theorem own_cap {w : World} {B e size g n cap : Nat} {xs : List Value} (h : w.ownsRow B e size (.slice (some ⟨g, 0, none⟩) n cap) n xs) : n ≤ cap := by
  rcases h.2 with ⟨h1, _⟩ | ⟨g', cap', cur, h1, _, _, hc, _⟩
  · cases h1
  · simp only [Value.slice.injEq, true_and] at h1
    rw [h1.2]; exact hc
set_option maxRecDepth 100000 in
set_option maxHeartbeats 2000000 in
theorem lent_walk (tag : Int) (sl : Value) (l : List Ins) (w : World) (h : RdC w sl l) (hlen : l.length * 24 ≤ 140737488351232) : Calls Tryd.prog 10 #[.agg #[.int .i64 tag, sl]] w fun e w' =>
    ∃ g cap, e = .returned (.agg #[.int .i64 tag, .slice (some ⟨g, 0, none⟩) l.length cap]) ∧ OwnC w' (w.heap.size + 2) (.slice (some ⟨g, 0, none⟩) (l.length + 2) cap) (l ++ [⟨77, 0, 0⟩, ⟨78, 0, 0⟩]) ∧ Below w.heap.size w w' := by
  obtain ⟨a, c, rfl⟩ := h.slice
  obtain ⟨n, hn⟩ : ∃ n, n = l.length := ⟨_, rfl⟩
  have HN := Lib.hid hn
  rw [← hn] at h hlen ⊢
  have RD := Lib.hid h
  obtain ⟨M, hM, hmk⟩ := make_ins n hlen
  have HM := Lib.hid hM
  have hw2 : IntKind.i64.wrap ((n : Int) + 2) = (n : Int) + 2 := by rw [IntKind.wrap_i64]; omega
  clear h hn hM
  go_enter Tryd.func10, Tryd.ntmps10
  go_wp2
  generalize hW : (w.alloc (Obj.cells #[Value.int .i64 tag, Value.slice a n c] 29)).alloc (Obj.cells #[Value.int .i64 0, Value.slice none 0 0] 29) = W
  have C0 := Lib.hid (show Chg [] w W from hW ▸ ((Chg.refl _ _).alloc _).alloc _)
  have z1 : W.heap[w.heap.size]? = some (.cells #[Value.int .i64 tag, Value.slice a n c] 29 (0, 0)) := by
    rw [← hW, Below.heap_alloc _ _ _ (by simp)]; exact heap_alloc_new _ _
  have z2 : W.heap[w.heap.size + 1]? = some (.cells #[Value.int .i64 0, Value.slice none 0 0] 29 (0, 0)) := by
    rw [← hW]; simpa using heap_alloc_new (w.alloc (Obj.cells #[Value.int .i64 tag, Value.slice a n c] 29)) (.cells #[Value.int .i64 0, Value.slice none 0 0] 29)
  have hsz : W.heap.size = w.heap.size + 2 := by rw [← hW]; simp
  have HS := Lib.hid hsz
  have Z1 := Lib.hid z1
  have Z2 := Lib.hid z2
  clear z1 z2 hW hsz
  have c1 := cell_of_row _ _ 1 _ _ _ Z1.out
  go_region_held_law (fun w' => w'.cell? ⟨w.heap.size, 1, none⟩ = some (.slice a n c)) (first | assumption | go_keep)
    (first
      | (refine step_append_rd rfl (.tmp 9) (.tmp 11) rfl (w.heap.size + 2) [] l _ _ rfl rfl (World.ownsRow_made _ M (n + 2) (by rw [← HS.out]; exact Nat.le_refl _) (by unfold maxLen; omega) HM.out) (HN.out ▸ (RD.out.keep0 ((C0.out.drew).alloc _))) (by rw [← HN.out]; simp; omega) (by have := HS.out; simp; omega) ?_
         intro v3 w3 o3 g3
         have C3 := Lib.hid (((Chg.refl [] W).drew.alloc (.cells M 41)).grown g3 (fun k hk => .inr (by have h7 : some W.heap.size = some k := hk; cases h7; exact Nat.le_refl _)))
         have hs3 : w3.cell? ⟨w.heap.size, 1, none⟩ = some (.slice a n c) := cell_of_row _ _ 1 _ _ _ (zrow C3.out Z1.out)
         have O3 := Lib.hid (show OwnC w3 (w.heap.size + 2) v3 l from o3)
         clear o3 g3))
  obtain ⟨a3, c3, rfl⟩ : ∃ a c, v3 = .slice a n c := by rw [HN.out]; exact O3.out.form
  go_wp2_with (refine wpList_append_rd rfl (.tmp 13) (.tmp 16) rfl (w.heap.size + 2) l [⟨77, 0, 0⟩, ⟨78, 0, 0⟩] _ _ rfl rfl (O3.out.keep0 ((Chg.refl _ _).alloc _)) (rd_two w3 41) (by rw [← HN.out]; simp; omega) (by have := HS.out; have := C3.out.size; simp; omega) ?_
               intro v4 w4 o4 g4
               have e4 : (l ++ [⟨77, 0, 0⟩, ⟨78, 0, 0⟩] : List Ins).length = n + 2 := by rw [HN.out]; simp
               have o5 : w4.ownsRow (w.heap.size + 2) 41 3 v4 (n + 2) (flat (l ++ [⟨77, 0, 0⟩, ⟨78, 0, 0⟩])) := by rw [← e4]; exact o4
               obtain ⟨g, cap, rfl, hb4, hlt4⟩ := World.ownsRow.form o5 (by omega)
               have hcap := own_cap o5
               have hcap1 : (n : Int) ≤ cap := by omega
               have hcap2 : n ≤ cap := by omega
               have C4 := Lib.hid ((C3.out.alloc _).grown g4 fun k hk => .inr (by have := (O3.out.blk k hk).1; have := HS.out; omega))
               have Y1 := Lib.hid (zrow C4.out Z1.out)
               have Y2 := Lib.hid (zrow C4.out Z2.out)
               have d0 := cell_of_row _ _ 0 _ _ _ Y1.out
               have d1 := frozen_of_row _ _ 1 _ _ Y1.out
               have d2 := frozen_of_row _ _ 0 _ _ Y2.out
               have d3 := frozen_of_row _ _ 1 _ _ Y2.out
               have d4 := cell_of_row _ _ 1 _ _ _ Y1.out
               have d5 := cell_of_row _ _ 0 _ _ _ Y2.out
               have d6 := cell_of_row _ _ 1 _ _ _ Y2.out
               have O4 := Lib.hid (show OwnC w4 (w.heap.size + 2) (.slice (some ⟨g, 0, none⟩) (n + 2) cap) (l ++ [⟨77, 0, 0⟩, ⟨78, 0, 0⟩]) from o4)
               clear o4 g4 o5 hb4 hlt4 e4)
  have q0 : (w4.setCell ⟨w.heap.size, 1, none⟩ (.slice (some ⟨g, 0, none⟩) n cap)).heap[w.heap.size + 1]? = some (.cells #[Value.int .i64 0, Value.slice none 0 0] 29 (0, 0)) := (Below.heap_setCell _ _ _ _ (by simp)).trans Y2.out
  have R2 := heap_put (heap_put q0 (i := 0) (v := .int .i64 tag) (cs' := #[.int .i64 tag, .slice none 0 0]) rfl) (i := 1) (v := .slice (some ⟨g, 0, none⟩) n cap) (cs' := #[.int .i64 tag, .slice (some ⟨g, 0, none⟩) n cap]) rfl
  refine bodyPost_ret (results_cell_row (p := 2) (ty := 29) (by kernel_rfl) _ _ (w.heap.size + 1) 29 _ (0, 0) _ rfl R2 Tryd.underlying29 rfl (by kernel_rfl)) rfl ⟨g, cap, rfl, ?_, ?_⟩
  · refine O4.out.keep (S := [w.heap.size, w.heap.size + 1]) ((((Chg.refl _ _).setCell (.inl (by simp)) _).setCell (.inl (by simp)) _).setCell (.inl (by simp)) _) fun k hk => ?_
    have := (O4.out.blk k hk).1
    simp
    omega
  · exact below_of_chg (((((C0.out.trans C4.out).setCell (.inr (Nat.le_refl _)) _).setCell (.inr (Nat.le_succ _)) _).setCell (.inr (Nat.le_succ _)) _))
end Go.Proofs.YtjlnhifleepnoaaDoor
