import Derived.Test.YtphaeodcomgffaaGreatC0
import Derived.Test.YtphaeodcomgffaaGreatRR
import Derived.Deep.Upon
import Derived.Test.YtphaeodcomgffaaGreatQC
set_option linter.unusedVariables false
set_option linter.unusedSimpArgs false
namespace Go.Proofs.YtphaeodcomgffaaGreat
open Go.RowKit

/-! Rows that are never written over in place. -/
/-- v reads as l; its block has the role r. -/
structure RdL {α : Type} (f : α → List Value) (ro : Nat → Nat) (r : Nat) (w : World) (size : Nat) (v : Value) (l : List α) : Prop where
  rd : Rd w size v (l.map f)
  form : (v = .slice none 0 0 ∧ l = []) ∨ ∃ b off c, v = .slice (some ⟨b, off, none⟩) l.length c ∧ l.length ≤ c ∧ b < w.heap.size ∧ ro b = r
theorem RdL.nil {α : Type} (f : α → List Value) (ro : Nat → Nat) (r : Nat) (w : World) (size : Nat) : RdL f ro r w size (.slice none 0 0) ([] : List α) := ⟨.inl ⟨rfl, .inl rfl⟩, .inl ⟨rfl, rfl⟩⟩
theorem RdL.keep {α : Type} {f : α → List Value} {ro ro' : Nat → Nat} {r : Nat} {w w' : World} {size v R} {l : List α} (h : RdL f ro r w size v l) (mv : Mv ro R w ro' w') (hr : r ∉ R) : RdL f ro' r w' size v l := by
  rcases h.form with ⟨rfl, rfl⟩ | ⟨b, off, c, rfl, hc, hb, hro⟩
  · exact RdL.nil _ _ _ _ _
  · have e := mv.block b hb (by rw [hro]; exact hr)
    refine ⟨?_, .inr ⟨b, off, c, rfl, hc, Nat.lt_of_lt_of_le hb mv.size, (mv.ext b hb).trans hro⟩⟩
    rcases h.rd with h1 | ⟨b1, off1, c1, hv, hl, hb1, h1⟩
    · exact .inl h1
    · simp only [Value.slice.injEq, Option.some.injEq, Addr.mk.injEq] at hv
      obtain ⟨⟨rfl, rfl, -⟩, hn, rfl⟩ := hv
      refine .inr ⟨b, off, c, by rw [hn], hl, Nat.lt_of_lt_of_le hb mv.size, fun i j hi hj => ?_⟩
      rw [World.cell?_of_block (w := w) e]
      exact h1 i j hi hj
theorem OwnL.rdl {α : Type} {f : α → List Value} {ro r w E size v} {l : List α} (hf : ∀ x, (f x).length = size) (h : OwnL f ro r w E size v l) : RdL f ro r w size v l := by
  refine ⟨h.rd hf, ?_⟩
  rcases h.own.2 with ⟨h1, h2⟩ | ⟨g, cap, cur, h1, hB, hg, hn, hm, hs, ht⟩
  · exact .inl ⟨h1, List.eq_nil_of_length_eq_zero h2⟩
  · exact .inr ⟨g, 0, cap, h1, hn, lt_of_heap hg, h.role g (by rw [h1]; rfl)⟩
theorem RdL.slice {α : Type} {f : α → List Value} {ro r w size v} {l : List α} (h : RdL f ro r w size v l) : ∃ a c, v = .slice a l.length c ∧ l.length ≤ c := by
  rcases h.form with ⟨rfl, rfl⟩ | ⟨b, off, c, rfl, hc, _⟩
  · exact ⟨_, _, rfl, Nat.le_refl _⟩
  · exact ⟨_, _, rfl, hc⟩
theorem RdL.form3 {α : Type} {f : α → List Value} {ro r w size v} {l : List α} (h : RdL f ro r w size v l) : ∃ a n c, v = .slice a n c := by
  obtain ⟨a, c, e, _⟩ := h.slice
  exact ⟨a, _, c, e⟩
theorem RdL.at {α : Type} {f : α → List Value} {ro r w size n c b off} {l : List α} (h : RdL f ro r w size (.slice (some ⟨b, off, none⟩) n c) l) {i j : Nat} (hi : i < l.length) (hj : j < size) : w.cell? ⟨b, off + i * size + j, none⟩ = (f l[i])[j]? := by
  rcases h.rd with ⟨h1, _⟩ | ⟨b1, off1, c1, hv, hl, hb1, h1⟩
  · have : l = [] := by simpa using h1
    subst this; simp at hi
  · simp only [Value.slice.injEq, Option.some.injEq, Addr.mk.injEq] at hv
    obtain ⟨⟨rfl, rfl, -⟩, hn, rfl⟩ := hv
    rw [h1 i j (by simpa using hi) hj]
    simp [List.getD, List.getElem?_map, List.getElem?_eq_getElem hi]
theorem RdL.at1 {α : Type} {f : α → List Value} {ro r w n c b off} {l : List α} (h : RdL f ro r w 1 (.slice (some ⟨b, off, none⟩) n c) l) {i : Nat} (hi : i < l.length) : w.cell? ⟨b, off + i, none⟩ = (f l[i])[0]? := by
  have := h.at hi (j := 0) (by omega)
  simpa using this
/-- The first n, with no room behind. -/
theorem RdL.front {α : Type} {f : α → List Value} {ro r w size k c b off} {l : List α} (h : RdL f ro r w size (.slice (some ⟨b, off, none⟩) k c) l) {n : Nat} (hn : n ≤ l.length) : RdL f ro r w size (.slice (some ⟨b, off, none⟩) n n) (l.take n) := by
  rcases h.form with ⟨h1, h2⟩ | ⟨b1, off1, c1, hv, hc, hb, hro⟩
  · cases h1
  · simp only [Value.slice.injEq, Option.some.injEq, Addr.mk.injEq] at hv
    obtain ⟨⟨rfl, rfl, -⟩, hk, rfl⟩ := hv
    refine ⟨?_, .inr ⟨b, off, n, by rw [List.length_take, Nat.min_eq_left hn], by rw [List.length_take]; omega, hb, hro⟩⟩
    rcases Nat.eq_zero_or_pos n with h0 | h0
    · subst h0
      exact .inl ⟨by simp, .inr ⟨_, _, rfl⟩⟩
    · refine .inr ⟨b, off, n, by rw [List.length_map, List.length_take, Nat.min_eq_left hn], by rw [List.length_map, List.length_take]; omega, hb, fun i j hi hj => ?_⟩
      rw [List.length_map, List.length_take] at hi
      rw [h.at (by omega) hj]
      simp [List.getD, List.getElem?_map, List.getElem?_take, List.getElem?_eq_getElem (show i < l.length by omega), show i < n by omega]
theorem cI_one (x : Int) : ∀ u ∈ cI x, u.oneCell' = true := by intro u hu; simp [cI] at hu; subst hu; rfl
theorem elI : Elem 141 3 1 8 (.int .i64 0) := ⟨by kernel_rfl, by kernel_rfl, rfl, by decide, by decide⟩

/-- append(v, u...) where v has no room. -/
theorem run_app {α : Type} {f : α → List Value} {T E size bytes : Nat} {z : Value} (el : Elem T E size bytes z) (hf : ∀ x, (f x).length = size) (h1 : ∀ x, ∀ u ∈ f x, u.oneCell' = true) (ro : Nat → Nat) (r : Nat) (ty : TypeId) (w : World) (l m : List α) (a : Option Addr) (n c : Nat) (u : Value) (hn : n = l.length) (hcap : c = l.length) (hv : RdL f ro r w size (.slice a n c) l) (hrd : Rd w size u (m.map f)) (hlen : (l.length + m.length) * bytes ≤ 140737488355328) :
    ∃ v' w', (Builtin.append_ #[T, T] ty #[.slice a n c, u]).run Tryz.prog w = .ok v' w' ∧ RdL f (newRo ro w.heap.size r) r w' size v' (l ++ m) ∧ Mv ro [] w (newRo ro w.heap.size r) w' := by
  subst hn
  rcases hv.form with ⟨e1, rfl⟩ | ⟨b, off, c', e1, hc, hb, hro⟩
  · rw [e1]
    obtain ⟨v', w', hr, h2, h3⟩ := run_copy el hf h1 ro r ty w m u hrd (by simpa using hlen)
    exact ⟨v', w', hr, h2.rdl hf, h3⟩
  · simp only [Value.slice.injEq] at e1
    obtain ⟨rfl, -, rfl⟩ := e1
    subst hcap
    obtain ⟨i, hi, hz, hs, hby⟩ := info_three el.info
    subst hs
    subst hby
    have hbp := el.by_
    have hflat : ∀ (k : List α) (b off : Nat), (∀ i' j, i' < k.length → j < i.size → w.cell? ⟨b, off + i' * i.size + j, none⟩ = ((k.map f).getD i' [])[j]?) → ∀ j u, (k.flatMap f)[j]? = some u → w.cell? ((⟨b, off, none⟩ : Addr).add j) = some u := fun k b off hc j u hj => by
      have hj3 : j < k.length * i.size := by rw [← flatMap_len f i.size hf]; exact (List.getElem?_eq_some_iff.1 hj).1
      have hp := el.pos
      have q1 : j / i.size < k.length := Nat.div_lt_of_lt_mul (by rw [Nat.mul_comm]; exact hj3)
      have q2 : j % i.size < i.size := Nat.mod_lt _ hp
      have e : j / i.size * i.size + j % i.size = j := by rw [Nat.mul_comm]; exact Nat.div_add_mod j i.size
      have h5 := hc (j / i.size) (j % i.size) q1 q2
      have h6 := flatMap_at f i.size hf k (j / i.size) (j % i.size) q1 q2
      rw [e, hj] at h6
      rw [Nat.add_assoc, e] at h5
      rw [Addr.add_lit, h5, h6]
      simp [List.getD, List.getElem?_map, List.getElem?_eq_getElem q1]
    by_cases hm : m = []
    · subst hm
      rw [List.append_nil]
      have hk : Tryz.prog.underlying T = some (.slice E) := el.under
      have hsrc : Src Tryz.prog i.size T u 0 [] w := by
        rcases hrd with ⟨_, rfl | ⟨a, c, rfl⟩⟩ | ⟨_, _, _, _, h0, _⟩
        · exact Src.ofNil w hk 0
        · exact Src.ofSlice w hk a 0 c [] (by simp) (by simp) (by simp)
        · simp at h0
      exact ⟨_, w, run_append_nothing w T T ty E i hk hi _ _ _ (Nat.le_refl _) u hsrc, hv.keep (R := []) (Mv.refl ro [] w).news (by simp), (Mv.refl ro [] w).news⟩
    · have hmp : 0 < m.length := List.length_pos_iff.2 hm
      obtain ⟨b2, off2, c2, rfl, hb2, hc2⟩ := hrd.blk (by simpa using hmp)
      rw [List.length_map] at hc2 ⊢
      have hle : (l.length + m.length) ≤ (l.length + m.length) * i.bytes := Nat.le_mul_of_pos_right _ hbp
      have hr := run_append_grow (P := Tryz.prog) w T ty E i z el.under hi hz ⟨b, off, none⟩ l.length l.length (l.flatMap f) (flatMap_len f i.size hf l) (hflat l b off fun i' j hi' hj => by
          rw [hv.at hi' hj]; simp [List.getD, List.getElem?_map, List.getElem?_eq_getElem hi']) ⟨b2, off2, none⟩ m.length c2 (m.flatMap f) (flatMap_len f i.size hf m) (hflat m b2 off2 hc2) (by omega) (by omega) (growslice_fits (by omega) hlen)
      refine ⟨_, _, hr, ⟨.inr ⟨w.heap.size, 0, grownCap w (l.length + m.length) l.length E, by simp, by simp; omega, by simp, fun i' j hi' hj => ?_⟩, .inr ⟨w.heap.size, 0, grownCap w (l.length + m.length) l.length E, by rw [List.length_append], by rw [List.length_append]; exact grownCap_ge _ _ _ _, by simp, newRo_ge (Nat.le_refl _)⟩⟩, ((Mv.refl ro [] w).drew.alloc _).news⟩
      have hi2 : i' < (l ++ m).length := by simpa using hi'
      have hcell := cell_of_row (w.drew.alloc (.cells ((l.flatMap f).toArray ++ (m.flatMap f).toArray ++ Builtin.zeroCells z.cells (grownCap w (l.length + m.length) l.length E - (l.length + m.length))) E)) w.heap.size (0 + i' * i.size + j) _ _ _ (heap_alloc_new w.drew _)
      rw [hcell]
      have hq : i' * i.size + j < ((l ++ m).flatMap f).length := by
        rw [flatMap_len f i.size hf]
        have := Nat.mul_le_mul_right i.size (Nat.succ_le_of_lt hi2)
        rw [Nat.succ_mul] at this
        omega
      have h6 := flatMap_at f i.size hf (l ++ m) i' j hi2 hj
      rw [List.flatMap_append] at h6 hq
      rw [Nat.zero_add, Array.getElem?_append_left (by simpa using hq), show (l.flatMap f).toArray ++ (m.flatMap f).toArray = (l.flatMap f ++ m.flatMap f).toArray by simp, List.getElem?_toArray, h6, List.getD_eq_getElem?_getD, List.getElem?_map, List.getElem?_eq_getElem hi2]
      rfl
theorem wp_app {α : Type} {f : α → List Value} {T E size bytes : Nat} {z : Value} (el : Elem T E size bytes z) (hf : ∀ x, (f x).length = size) (h1 : ∀ x, ∀ u ∈ f x, u.oneCell' = true) (ro : Nat → Nat) (r : Nat) {w : World} {o : Oper} {a : Act} {K : Act → World → Prop} {Q : Exit → Act → World → Prop} (s x : Operand)
    (ho : o.op = .call { callee := .builtin .append, args := #[s, x], argTypes := #[T, T] }) (l m : List α) (p : Option Addr) (n c : Nat) (u : Value) (hs : a.eval s = .slice p n c) (hx : a.eval x = u) (hn : n = l.length) (hcap : c = l.length) (hv : RdL f ro r w size (.slice p n c) l) (hrd : Rd w size u (m.map f)) (hlen : (l.length + m.length) * bytes ≤ 140737488355328)
    (h : ∀ v' w', RdL f (newRo ro w.heap.size r) r w' size v' (l ++ m) → Mv ro [] w (newRo ro w.heap.size r) w' → K (a.put o.dst v') w') : o.wp Tryz.prog a w K Q := by
  obtain ⟨v', w', hr, h2, h3⟩ := run_app el hf h1 ro r o.type w l m p n c u hn hcap hv hrd hlen
  unfold Oper.wp execOp
  simp only [ho, resolve, invoke, builtin, Sem.run_bind, Sem.run_pure, Result.andThen_ok, List.map_toArray, List.map_cons, List.map_nil, hs, hx, hr]
  exact h v' w' h2 h3
theorem wpList_app {α : Type} {f : α → List Value} {T E size bytes : Nat} {z : Value} (el : Elem T E size bytes z) (hf : ∀ x, (f x).length = size) (h1 : ∀ x, ∀ u ∈ f x, u.oneCell' = true) (ro : Nat → Nat) (r : Nat) {w : World} {ops : Array Oper} {rest : List Oper} {o : Oper} {a : Act} {Q : Exit → Act → World → Prop} (hgd : o.guard = none) (s x : Operand)
    (ho : o.op = .call { callee := .builtin .append, args := #[s, x], argTypes := #[T, T] }) (l m : List α) (p : Option Addr) (n c : Nat) (u : Value) (hs : a.eval s = .slice p n c) (hx : a.eval x = u) (hn : n = l.length) (hcap : c = l.length) (hv : RdL f ro r w size (.slice p n c) l) (hrd : Rd w size u (m.map f)) (hlen : (l.length + m.length) * bytes ≤ 140737488355328)
    (h : ∀ v' w', RdL f (newRo ro w.heap.size r) r w' size v' (l ++ m) → Mv ro [] w (newRo ro w.heap.size r) w' → wpList Tryz.prog ops Q rest (a.put o.dst v') w') : wpList Tryz.prog ops Q (o :: rest) a w :=
  wpList_plain hgd fun _ hK => wp_app el hf h1 ro r s x ho l m p n c u hs hx hn hcap hv hrd hlen fun v' w' h2 h3 => hK _ _ (h v' w' h2 h3)
theorem step_app {α : Type} {f : α → List Value} {T E size bytes : Nat} {z : Value} (el : Elem T E size bytes z) (hf : ∀ x, (f x).length = size) (h1 : ∀ x, ∀ u ∈ f x, u.oneCell' = true) (ro : Nat → Nat) (r : Nat) {w : World} {ops : Array Oper} {o : Oper} {a : Act} {K : Act → World → Prop} {Q : Exit → Act → World → Prop} {X : Prop} (hgd : o.guard = none) (s x : Operand)
    (ho : o.op = .call { callee := .builtin .append, args := #[s, x], argTypes := #[T, T] }) (l m : List α) (p : Option Addr) (n c : Nat) (u : Value) (hs : a.eval s = .slice p n c) (hx : a.eval x = u) (hn : n = l.length) (hcap : c = l.length) (hv : RdL f ro r w size (.slice p n c) l) (hrd : Rd w size u (m.map f)) (hlen : (l.length + m.length) * bytes ≤ 140737488355328)
    (h : ∀ v' w', RdL f (newRo ro w.heap.size r) r w' size v' (l ++ m) → Mv ro [] w (newRo ro w.heap.size r) w' → K (a.put o.dst v') w') : if Region.wanted o (yielded ops a.tmps) = true then Oper.wp Tryz.prog o a w K Q else X := by
  have hw : Region.wanted o (yielded ops a.tmps) = true := by simp [Region.wanted, hgd]
  rw [if_pos hw]
  exact wp_app el hf h1 ro r s x ho l m p n c u hs hx hn hcap hv hrd hlen h

/-- Block M is a machine of the document's that stands at d: its rows (but for the locals) are never written over. -/
structure DM (ro : Nat → Nat) (r : Nat) (w : World) (M : Nat) (C : Cfg) (tag : Int) (vc : Value) (d : Dm) (p : Dq) : Prop where
  blk : Blk ro r w M (dcells C tag vc d p) 143
  args : RdL cF ro (r + 1) w 1 p.va d.args
  stack : RdL cF ro (r + 2) w 1 p.vs d.stack
  calls : RdL cI ro (r + 3) w 1 p.vk d.calls
  locals : OwnL cF ro (r + 4) w 74 1 p.vl d.locals
  out : RdL cF ro (r + 5) w 1 p.vo d.out
  reads : RdL cT ro (r + 6) w 2 p.vr d.reads
  writes : RdL cT ro (r + 7) w 2 p.vb d.writes
theorem DMIs.dm {ro : Nat → Nat} {r : Nat} {w : World} {M C tag vc d p} (h : DMIs ro r w M C tag vc d p) : DM ro r w M C tag vc d p :=
  ⟨h.blk, h.args.rdl cF_len, h.stack.rdl cF_len, h.calls.rdl cI_len, h.locals, h.out.rdl cF_len, h.reads.rdl cT_len, h.writes.rdl cT_len⟩
theorem DM.keep {ro ro' : Nat → Nat} {r : Nat} {w w' : World} {M C tag vc d p R} (h : DM ro r w M C tag vc d p) (mv : Mv ro R w ro' w') (hR : ∀ x ∈ R, x < r ∨ r + 7 < x) : DM ro' r w' M C tag vc d p := by
  have k : ∀ i, i ≤ 7 → r + i ∉ R := fun i hi hx => by have := hR _ hx; omega
  exact ⟨h.blk.keep mv (k 0 (by omega)), h.args.keep mv (k 1 (by omega)), h.stack.keep mv (k 2 (by omega)), h.calls.keep mv (k 3 (by omega)), h.locals.keep mv (k 4 (by omega)), h.out.keep mv (k 5 (by omega)), h.reads.keep mv (k 6 (by omega)), h.writes.keep mv (k 7 (by omega))⟩
theorem DM.keep0 {ro ro' : Nat → Nat} {r : Nat} {w w' : World} {M C tag vc d p} (h : DM ro r w M C tag vc d p) (mv : Mv ro [] w ro' w') : DM ro' r w' M C tag vc d p := h.keep mv (by simp)
end Go.Proofs.YtphaeodcomgffaaGreat
set_option linter.unusedVariables false
set_option linter.unusedSimpArgs false
namespace Go.Proofs.YtphaeodcomgffaaGreat
open Go.RowKit Ieee

/-- All numbers of a machine have the one NaN; a machine that goes on has no error. -/
structure FixA (m : Ms) : Prop where
  args : ∀ i, fx (m.args i) = m.args i
  locals : ∀ i, fx (m.locals i) = m.locals i
  stack : ∀ y ∈ m.stack, fx y = y
  writes : ∀ t ∈ m.writes, fx t.2 = t.2
  clean : m.how = 0 → m.ecode = 0 ∧ m.err = 0

theorem fx_0 : fx 0 = 0 := by decide +kernel
theorem fx_nan : fx theNaN = theNaN := fx_bad bad_nan
theorem fx_orN (o : Option Nat) : fx (orN o) = orN o := by
  cases o with
  | none => exact fx_nan
  | some x => exact fx_fx x
theorem one_fix (op : Int) (x : Nat) : fx (oneF op x) = oneF op x := by
  unfold oneF
  split
  · exact fx_fx _
  split
  · exact fx_fx _
  split
  · exact fx_fx _
  split
  · exact fx_orN _
  split
  · exact fx_yes _
  split
  · exact fx_yes _
  split
  · split
    · decide +kernel
    · split
      · decide +kernel
      · exact fx_fx _
  · exact fx_fx _
theorem two_fix (op : Int) (x y : Nat) : fx (twoF op x y) = twoF op x y := by
  unfold twoF
  split
  · exact fx_orN _
  split
  · exact fx_orN _
  split
  · exact fx_orN _
  split
  · exact fx_orN _
  split
  · exact fx_fx _
  split
  · split
    · exact fx_nan
    · split
      · exact fx_fx _
      · exact fx_fx _
  split
  · split
    · exact fx_nan
    · split
      · exact fx_fx _
      · exact fx_fx _
  repeat' split
  all_goals exact fx_yes _
theorem FixA.top {m : Ms} (h : FixA m) (n : Nat) : fx (m.top n) = m.top n := by
  unfold Ms.top
  rw [List.getD_eq_getElem?_getD]
  rcases hx : m.stack[m.stack.length - 1 - n]? with _ | y
  · exact fx_0
  · exact h.stack y (List.mem_of_getElem? hx)
theorem FixA.trade {m : Ms} (h : FixA m) (n : Nat) {l : List Nat} (hl : ∀ y ∈ l, fx y = y) : FixA (m.trade n l) :=
  ⟨h.args, h.locals, fun y hy => by
    unfold Ms.trade at hy
    rcases List.mem_append.1 hy with h1 | h1
    · exact h.stack y (List.mem_of_mem_take h1)
    · exact hl y h1, h.writes, h.clean⟩
theorem FixA.same {m m' : Ms} (h : FixA m) (ha : m'.args = m.args) (hl : m'.locals = m.locals) (hs : m'.stack = m.stack) (hw : m'.writes = m.writes) (hh : m'.how = m.how) (hc : m'.ecode = m.ecode) (he : m'.err = m.err) : FixA m' :=
  ⟨by rw [ha]; exact h.args, by rw [hl]; exact h.locals, by rw [hs]; exact h.stack, by rw [hw]; exact h.writes, by rw [hh, hc, he]; exact h.clean⟩
theorem FixA.ends {m : Ms} (h : FixA m) {a : Int} (ha : a ≠ 0) (b c : Int) : FixA (m.ends a b c).1 := ⟨h.args, h.locals, h.stack, h.writes, fun e => absurd e ha⟩
theorem one_fixm {x : Nat} (h : fx x = x) : ∀ y ∈ [x], fx y = y := fun y hy => by simp at hy; rw [hy]; exact h
theorem none_fixm : ∀ y ∈ ([] : List Nat), fx y = y := by simp

theorem reck_fix {m : Ms} {x : Ins} (h : FixA m) : FixA (m.reck x) := by
  unfold Ms.reck
  by_cases e : x.op = 1
  · rw [if_pos e]
    exact h.trade 0 (one_fixm (fx_fx _))
  rw [if_neg e]; clear e
  by_cases e : x.op = 2
  · rw [if_pos e]
    exact h.trade 1 none_fixm
  rw [if_neg e]; clear e
  by_cases e : x.op = 3
  · rw [if_pos e]
    exact h.trade 0 (one_fixm (h.top 0))
  rw [if_neg e]; clear e
  by_cases e : x.op = 4
  · rw [if_pos e]
    exact h.trade 2 (fun y hy => by simp at hy; rcases hy with e | e <;> rw [e] <;> exact h.top _)
  rw [if_neg e]; clear e
  by_cases e : x.op = 5
  · rw [if_pos e]
    exact h.trade 0 (one_fixm (h.top _))
  rw [if_neg e]; clear e
  by_cases e : x.op = 6
  · rw [if_pos e]
    exact h.trade 0 (one_fixm (h.args _))
  rw [if_neg e]; clear e
  by_cases e : x.op = 7
  · rw [if_pos e]
    exact h.trade 0 (one_fixm (h.locals _))
  rw [if_neg e]; clear e
  by_cases e : x.op = 8
  · rw [if_pos e]
    have k := h.trade 1 none_fixm
    refine ⟨k.args, fun i => ?_, k.stack, k.writes, k.clean⟩
    show fx (if i = x.n.toNat then m.top 0 else m.locals i) = (if i = x.n.toNat then m.top 0 else m.locals i)
    by_cases hi : i = x.n.toNat
    · rw [if_pos hi]; exact h.top 0
    · rw [if_neg hi]; exact h.locals i
  rw [if_neg e]; clear e
  by_cases e : x.op = 9
  · rw [if_pos e]
    exact h.trade 1 (one_fixm (one_fix _ _))
  rw [if_neg e]; clear e
  by_cases e : x.op = 10
  · rw [if_pos e]
    exact h.trade 2 (one_fixm (two_fix _ _ _))
  rw [if_neg e]; clear e
  by_cases e : x.op = 18
  · rw [if_pos e]
    exact (h.trade 1 none_fixm).same rfl rfl rfl rfl rfl rfl rfl
  rw [if_neg e]; clear e
  exact h
theorem do_fix {C : Cfg} {m : Ms} {x : Ins} {q : Ms × Ask} {tag : Int} (h : FixA m) (e : m.doS C tag x = .ok q) : FixA q.1 := by
  unfold Ms.doS at e
  split at e
  · unfold Ms.readS at e
    split at e
    · cases e
    · split at e
      · cases e; exact (h.trade 1 none_fixm).same rfl rfl rfl rfl rfl rfl rfl
      · rename_i y hy
        cases e
        obtain ⟨t, ht, e1⟩ := wrote_in hy
        exact (h.trade 1 (one_fixm (e1 ▸ h.writes t ht))).same rfl rfl rfl rfl rfl rfl rfl
  split at e
  · unfold Ms.writeS at e
    split at e
    · cases e
    split at e
    · cases e
    · split at e
      · cases e
      · rename_i p hp
        cases e
        have k := h.trade 2 none_fixm
        refine ⟨k.args, k.locals, k.stack, fun t ht => ?_, k.clean⟩
        rcases put_in hp t ht with h1 | h1
        · rw [h1]; exact fx_fx _
        · exact h.writes t h1
  split at e
  · cases e; exact h.ends (by decide) _ _
  split at e
  · cases e; exact h.ends (by decide) _ _
  split at e
  · cases e; exact h.same rfl rfl rfl rfl rfl rfl rfl
  split at e
  · cases e; exact (h.trade 1 none_fixm).same rfl rfl rfl rfl rfl rfl rfl
  split at e
  · cases e; exact h.same rfl rfl rfl rfl rfl rfl rfl
  split at e
  · split at e
    · cases e; exact h.ends (by decide) _ _
    · cases e; exact h.same rfl rfl rfl rfl rfl rfl rfl
  · cases e; exact reck_fix h
theorem begin_fix {m : Ms} (h : FixA m) : FixA m.begin := h.same rfl rfl rfl rfl rfl rfl rfl
theorem step_fix {C : Cfg} {code : List Ins} {m : Ms} {tag : Int} (h : FixA m) : FixA (m.step C tag code).1 := by
  unfold Ms.step
  split
  · exact h
  split
  · exact h
  split
  · exact h.ends (by decide) _ _
  split
  · exact h.ends (by decide) _ _
  split
  · exact h.ends (by decide) _ _
  split
  · exact h.ends (by decide) _ _
  split
  · split
    · exact (begin_fix h).ends (by decide) _ _
    · rename_i r hr
      exact do_fix (begin_fix h) hr
  · exact (begin_fix h).ends (by decide) _ _
theorem give_fix {m : Ms} (h : FixA m) {x : Nat} : FixA (m.give x).1 := by
  unfold Ms.give
  split
  · exact h
  · exact (h.trade 0 (one_fixm (fx_fx x))).same rfl rfl rfl rfl rfl rfl rfl
theorem new_fix (bad : Bool) (args : List Nat) : FixA (Ms.new bad args) := by
  refine ⟨fun i => ?_, fun _ => fx_0, by simp [Ms.new], by simp [Ms.new], fun _ => ⟨rfl, rfl⟩⟩
  show fx (if i < args.length then fx (args.getD i 0) else 0) = (if i < args.length then fx (args.getD i 0) else 0)
  split
  · exact fx_fx _
  · exact fx_0
end Go.Proofs.YtphaeodcomgffaaGreat
