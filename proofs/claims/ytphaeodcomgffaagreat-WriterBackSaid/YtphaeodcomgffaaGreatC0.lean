import Derived.Test.YtphaeodcomgffaaGreatS2
import Derived.Laws.OwnMore
set_option linter.unusedVariables false
set_option linter.unusedSimpArgs false
namespace Go.Proofs.YtphaeodcomgffaaGreat
open Go.RowKit

/-- All blocks from n on have the role r. -/
def newRo (ro : Nat → Nat) (n r : Nat) : Nat → Nat := fun k => if k < n then ro k else r
theorem newRo_ge {ro : Nat → Nat} {n r k : Nat} (h : n ≤ k) : newRo ro n r k = r := by unfold newRo; rw [if_neg (by omega)]
theorem Mv.news {ro : Nat → Nat} {R : List Nat} {w w' : World} {r : Nat} (h : Mv ro R w ro w') : Mv ro R w (newRo ro w.heap.size r) w' := ⟨fun k hk => by unfold newRo; rw [if_pos hk], h.os, h.tape, h.output, h.size, h.block⟩
theorem OwnL.rd {α : Type} {f : α → List Value} {ro r w E size v} {l : List α} (hf : ∀ x, (f x).length = size) (h : OwnL f ro r w E size v l) : Rd w size v (l.map f) := by
  rcases h.own.2 with ⟨h1, h2⟩ | ⟨g, cap, cur, h1, hB, hg, hn, hm, hs, ht⟩
  · exact .inl ⟨by rw [List.eq_nil_of_length_eq_zero h2]; rfl, .inl h1⟩
  · subst h1
    rcases Nat.eq_zero_or_pos l.length with h0 | h0
    · exact .inl ⟨by rw [List.eq_nil_of_length_eq_zero h0]; rfl, .inr ⟨⟨g, 0, none⟩, cap, by rw [h0]⟩⟩
    · refine .inr ⟨g, 0, cap, by simp, by simpa using h0, lt_of_heap hg, fun i j hi hj => ?_⟩
      have hi' : i < l.length := by simpa using hi
      rw [Nat.zero_add, OwnL.at hf h hi' hj]
      simp [List.getD, List.getElem?_map, List.getElem?_eq_getElem hi']

/-- A type of elements: its number, its cells, its bytes. -/
structure Elem (T E size bytes : Nat) (z : Value) : Prop where
  under : Tryz.prog.underlying T = some (.slice E)
  info : (Tryz.prog.info? E).map (fun i => (i.zero, i.size, i.bytes)) = some (some z, size, bytes)
  zs : z.cells.size = size
  pos : 0 < size
  by_ : 0 < bytes
theorem elF : Elem 27 74 1 8 (.float .f64 0) := ⟨by kernel_rfl, by kernel_rfl, rfl, by decide, by decide⟩
theorem elT : Elem 59 76 2 16 (.agg #[.int .i64 0, .float .f64 0]) := ⟨by kernel_rfl, by kernel_rfl, rfl, by decide, by decide⟩
theorem elC : Elem 24 117 3 24 (.agg #[.int .i64 0, .int .i64 0, .float .f64 0]) := ⟨by kernel_rfl, by kernel_rfl, rfl, by decide, by decide⟩

theorem map_flatten {α : Type} (f : α → List Value) (l : List α) : (l.map f).flatten = l.flatMap f := rfl
/-- append(nil, u...) where u reads as m. -/
theorem run_copy {α : Type} {f : α → List Value} {T E size bytes : Nat} {z : Value} (el : Elem T E size bytes z) (hf : ∀ x, (f x).length = size) (h1 : ∀ x, ∀ u ∈ f x, u.oneCell' = true) (ro : Nat → Nat) (r : Nat) (ty : TypeId) (w : World) (m : List α) (u : Value) (hrd : Rd w size u (m.map f)) (hlen : m.length * bytes ≤ 140737488355328) :
    ∃ v' w', (Builtin.append_ #[T, T] ty #[.slice none 0 0, u]).run Tryz.prog w = .ok v' w' ∧ OwnL f (newRo ro w.heap.size r) r w' E size v' m ∧ Mv ro [] w (newRo ro w.heap.size r) w' := by
  obtain ⟨i, hi, hz, hs, hby⟩ := info_three el.info
  have hown : w.ownsRow w.heap.size E size (.slice none 0 0) 0 [] := ⟨by simp, .inl ⟨rfl, rfl⟩⟩
  have fin : ∀ v' w', w'.ownsRow w.heap.size E size v' m.length (m.flatMap f) → w.grownBy w' none → OwnL f (newRo ro w.heap.size r) r w' E size v' m ∧ Mv ro [] w (newRo ro w.heap.size r) w' := fun v' w' h2 h3 => by
    refine ⟨⟨⟨h2.1, ?_⟩, fun k hk => ?_⟩, ((Mv.refl ro [] w).grown h3 (by simp)).news⟩
    · rcases h2.2 with h | ⟨g, cap, cur, a, b, c⟩
      · exact .inl h
      · exact .inr ⟨g, cap, cur, a, Nat.zero_le _, c⟩
    · rcases h2.2 with ⟨h, _⟩ | ⟨g, cap, cur, a, b, c⟩
      · subst h; cases hk
      · subst a; simp only [Value.ownBlock, Option.some.injEq] at hk; subst hk; exact newRo_ge b
  have hb := el.by_
  have hle : m.length ≤ m.length * bytes := Nat.le_mul_of_pos_right _ hb
  rcases hrd with ⟨h0, h2 | ⟨a, c, h2⟩⟩ | ⟨b, off, c, h2, hl, hb, hc⟩
  · have hm : m = [] := by simpa using h0
    subst hm h2
    exact ⟨_, w, run_append_owned_none w w.heap.size T ty E i size el.under hi _ 0 [] hown, OwnL.nil _ _ _ _ _ _, (Mv.refl ro [] w).news⟩
  · have hm : m = [] := by simpa using h0
    subst hm h2
    obtain ⟨v', w', hr, h3, h4, _⟩ := run_append_own w w.heap.size T ty E i z size bytes el.under hi hz hs hby el.zs el.pos _ 0 [] hown a 0 c [] (by simp) (by simp) (by simp) (by unfold maxLen; omega) (by omega) (Nat.le_refl _)
    exact ⟨v', w', hr, fin v' w' (by simpa using h3) h4⟩
  · simp only [List.length_map] at h2 hl hc
    subst h2
    obtain ⟨v', w', hr, h3, h4, _⟩ := run_append_own w w.heap.size T ty E i z size bytes el.under hi hz hs hby el.zs el.pos _ 0 [] hown ⟨b, off, none⟩ m.length c (m.flatMap f) (flatMap_len f size hf m) (fun j u hj => by
        have hj3 : j < m.length * size := by rw [← flatMap_len f size hf]; exact (List.getElem?_eq_some_iff.1 hj).1
        have hp := el.pos
        have q1 : j / size < m.length := Nat.div_lt_of_lt_mul (by rw [Nat.mul_comm]; exact hj3)
        have q2 : j % size < size := Nat.mod_lt _ hp
        have e : j / size * size + j % size = j := by rw [Nat.mul_comm]; exact Nat.div_add_mod j size
        have h5 := hc (j / size) (j % size) q1 q2
        have h6 := flatMap_at f size hf m (j / size) (j % size) q1 q2
        rw [e, hj] at h6
        rw [Nat.add_assoc, e] at h5
        rw [Addr.add_lit, h5, h6]
        simp [List.getD, List.getElem?_map, List.getElem?_eq_getElem q1]) (fun u hu => by
          obtain ⟨x, _, hx⟩ := List.mem_flatMap.1 hu
          exact h1 x u hx) (by unfold maxLen; omega) (by rw [Nat.zero_add]; exact hlen) (Nat.le_refl _)
    exact ⟨v', w', hr, fin v' w' (by simpa using h3) h4⟩
theorem wp_copy {α : Type} {f : α → List Value} {T E size bytes : Nat} {z : Value} (el : Elem T E size bytes z) (hf : ∀ x, (f x).length = size) (h1 : ∀ x, ∀ u ∈ f x, u.oneCell' = true) (ro : Nat → Nat) (r : Nat) {w : World} {o : Oper} {a : Act} {K : Act → World → Prop} {Q : Exit → Act → World → Prop} (s x : Operand)
    (ho : o.op = .call { callee := .builtin .append, args := #[s, x], argTypes := #[T, T] }) (m : List α) (u : Value) (hs : a.eval s = .slice none 0 0) (hx : a.eval x = u) (hrd : Rd w size u (m.map f)) (hlen : m.length * bytes ≤ 140737488355328)
    (h : ∀ v' w', OwnL f (newRo ro w.heap.size r) r w' E size v' m → Mv ro [] w (newRo ro w.heap.size r) w' → K (a.put o.dst v') w') : o.wp Tryz.prog a w K Q := by
  obtain ⟨v', w', hr, h2, h3⟩ := run_copy el hf h1 ro r o.type w m u hrd hlen
  unfold Oper.wp execOp
  simp only [ho, resolve, invoke, builtin, Sem.run_bind, Sem.run_pure, Result.andThen_ok, List.map_toArray, List.map_cons, List.map_nil, hs, hx, hr]
  exact h v' w' h2 h3
theorem wpList_copy {α : Type} {f : α → List Value} {T E size bytes : Nat} {z : Value} (el : Elem T E size bytes z) (hf : ∀ x, (f x).length = size) (h1 : ∀ x, ∀ u ∈ f x, u.oneCell' = true) (ro : Nat → Nat) (r : Nat) {w : World} {ops : Array Oper} {rest : List Oper} {o : Oper} {a : Act} {Q : Exit → Act → World → Prop} (hgd : o.guard = none) (s x : Operand)
    (ho : o.op = .call { callee := .builtin .append, args := #[s, x], argTypes := #[T, T] }) (m : List α) (u : Value) (hs : a.eval s = .slice none 0 0) (hx : a.eval x = u) (hrd : Rd w size u (m.map f)) (hlen : m.length * bytes ≤ 140737488355328)
    (h : ∀ v' w', OwnL f (newRo ro w.heap.size r) r w' E size v' m → Mv ro [] w (newRo ro w.heap.size r) w' → wpList Tryz.prog ops Q rest (a.put o.dst v') w') : wpList Tryz.prog ops Q (o :: rest) a w :=
  wpList_plain hgd fun _ hK => wp_copy el hf h1 ro r s x ho m u hs hx hrd hlen fun v' w' h2 h3 => hK _ _ (h v' w' h2 h3)
theorem step_copy {α : Type} {f : α → List Value} {T E size bytes : Nat} {z : Value} (el : Elem T E size bytes z) (hf : ∀ x, (f x).length = size) (h1 : ∀ x, ∀ u ∈ f x, u.oneCell' = true) (ro : Nat → Nat) (r : Nat) {w : World} {ops : Array Oper} {o : Oper} {a : Act} {K : Act → World → Prop} {Q : Exit → Act → World → Prop} {X : Prop} (hgd : o.guard = none) (s x : Operand)
    (ho : o.op = .call { callee := .builtin .append, args := #[s, x], argTypes := #[T, T] }) (m : List α) (u : Value) (hs : a.eval s = .slice none 0 0) (hx : a.eval x = u) (hrd : Rd w size u (m.map f)) (hlen : m.length * bytes ≤ 140737488355328)
    (h : ∀ v' w', OwnL f (newRo ro w.heap.size r) r w' E size v' m → Mv ro [] w (newRo ro w.heap.size r) w' → K (a.put o.dst v') w') : if Region.wanted o (yielded ops a.tmps) = true then Oper.wp Tryz.prog o a w K Q else X := by
  have hw : Region.wanted o (yielded ops a.tmps) = true := by simp [Region.wanted, hgd]
  rw [if_pos hw]
  exact wp_copy el hf h1 ro r s x ho m u hs hx hrd hlen h
theorem cF_one (x : Nat) : ∀ u ∈ cF x, u.oneCell' = true := by intro u hu; simp [cF] at hu; subst hu; rfl
theorem cT_one (x : Int × Nat) : ∀ u ∈ cT x, u.oneCell' = true := by intro u hu; simp [cT] at hu; rcases hu with rfl | rfl <;> rfl
theorem row_one (x : Ins) : ∀ u ∈ Ins.row x, u.oneCell' = true := by intro u hu; simp [Ins.row] at hu; rcases hu with rfl | rfl | rfl <;> rfl
theorem row_len (x : Ins) : (Ins.row x).length = 3 := rfl
end Go.Proofs.YtphaeodcomgffaaGreat
