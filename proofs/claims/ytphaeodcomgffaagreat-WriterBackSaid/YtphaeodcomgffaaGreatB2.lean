import Derived.Test.YtphaeodcomgffaaGreatF1
import Derived.Deep.AppendLies
import Derived.WalkSmall
set_option linter.unusedVariables false
set_option linter.unusedSimpArgs false
namespace Go.Proofs.YtphaeodcomgffaaGreat
open Go.RowKit

/-- A new role for one block. -/
def setRo (ro : Nat → Nat) (b r : Nat) : Nat → Nat := fun k => if k = b then r else ro k
theorem setRo_at (ro : Nat → Nat) (b r : Nat) : setRo ro b r b = r := by simp [setRo]
theorem setRo_ne {ro : Nat → Nat} {b r k : Nat} (h : k ≠ b) : setRo ro b r k = ro k := by simp [setRo, h]

/-- From one world to a later one: the old blocks keep their roles; only blocks of the roles R (and new ones) may have turned. -/
structure Mv (ro : Nat → Nat) (R : List Nat) (w : World) (ro' : Nat → Nat) (w' : World) : Prop where
  ext : ∀ k, k < w.heap.size → ro' k = ro k
  os : w'.os = w.os
  tape : w'.tape = w.tape
  output : w'.output = w.output
  size : w.heap.size ≤ w'.heap.size
  block : ∀ k, k < w.heap.size → ro k ∉ R → w'.heap[k]? = w.heap[k]?

theorem Mv.refl (ro : Nat → Nat) (R : List Nat) (w : World) : Mv ro R w ro w := ⟨fun _ _ => rfl, rfl, rfl, rfl, Nat.le_refl _, fun _ _ _ => rfl⟩
theorem Mv.trans {ro ro1 ro2 : Nat → Nat} {R : List Nat} {a b c : World} (h : Mv ro R a ro1 b) (k : Mv ro1 R b ro2 c) : Mv ro R a ro2 c :=
  ⟨fun i hi => (k.ext i (Nat.lt_of_lt_of_le hi h.size)).trans (h.ext i hi), k.os.trans h.os, k.tape.trans h.tape, k.output.trans h.output, Nat.le_trans h.size k.size,
    fun i hi hr => (k.block i (Nat.lt_of_lt_of_le hi h.size) (by rw [h.ext i hi]; exact hr)).trans (h.block i hi hr)⟩
theorem Mv.mono {ro ro1 : Nat → Nat} {R R' : List Nat} {a b : World} (h : Mv ro R a ro1 b) (hr : ∀ x ∈ R, x ∈ R') : Mv ro R' a ro1 b :=
  ⟨h.ext, h.os, h.tape, h.output, h.size, fun i hi hn => h.block i hi fun hx => hn (hr _ hx)⟩
theorem Mv.of_chg {ro : Nat → Nat} {R : List Nat} {S : List Nat} {a b : World} (h : Chg S a b) (hs : ∀ x ∈ S, ro x ∈ R ∨ a.heap.size ≤ x) : Mv ro R a ro b :=
  ⟨fun _ _ => rfl, h.os, h.tape, h.output, h.size, fun i hi hn => h.block i hi fun hx => by rcases hs i hx with h1 | h1; exact hn h1; omega⟩
theorem Mv.of_chg0 {ro : Nat → Nat} {R : List Nat} {a b : World} (h : Chg [] a b) : Mv ro R a ro b := .of_chg h (by simp)
theorem Mv.of_below {ro : Nat → Nat} {R : List Nat} {a b : World} (h : Below a.heap.size a b) : Mv ro R a ro b := .of_chg0 (.of_below h)
theorem Mv.chg {ro ro1 : Nat → Nat} {a b : World} (h : Mv ro [] a ro1 b) : Chg [] a b := ⟨h.os, h.tape, h.output, h.size, fun k hk _ => h.block k hk (by simp)⟩
theorem Mv.then_below {ro ro1 : Nat → Nat} {R : List Nat} {a b c : World} (h : Mv ro R a ro1 b) (k : Below b.heap.size b c) : Mv ro R a ro1 c := h.trans (.of_below k)
theorem Mv.drew {ro ro1 : Nat → Nat} {R : List Nat} {a b : World} (h : Mv ro R a ro1 b) : Mv ro R a ro1 b.drew := ⟨h.ext, h.os, h.tape, h.output, h.size, h.block⟩
theorem Mv.drewN {ro ro1 : Nat → Nat} {R : List Nat} {a b : World} (h : Mv ro R a ro1 b) (n : Nat) : Mv ro R a ro1 (b.drewN n) := ⟨h.ext, h.os, h.tape, h.output, h.size, h.block⟩
theorem Mv.alloc {ro ro1 : Nat → Nat} {R : List Nat} {a b : World} (h : Mv ro R a ro1 b) (o : Obj) : Mv ro R a ro1 (b.alloc o) :=
  h.trans (.of_chg0 ((Chg.refl [] b).alloc o))
theorem Mv.setCell {ro ro1 : Nat → Nat} {R : List Nat} {a b : World} (h : Mv ro R a ro1 b) {p : Addr} (hp : ro1 p.block ∈ R) (u : Value) : Mv ro R a ro1 (b.setCell p u) :=
  h.trans (.of_chg (S := [p.block]) ((Chg.refl _ b).setCell (.inl (by simp)) u) (fun x hx => by simp at hx; subst hx; exact .inl hp))
theorem Mv.setRow {ro ro1 : Nat → Nat} {R : List Nat} {a b : World} (h : Mv ro R a ro1 b) {g : Nat} (hp : ro1 g ∈ R) (cs : Array Value) : Mv ro R a ro1 (b.setRow g cs) :=
  h.trans (.of_chg (S := [g]) ((Chg.refl _ b).setRow (.inl (by simp)) cs) (fun x hx => by simp at hx; subst hx; exact .inl hp))
theorem Mv.give {ro ro1 : Nat → Nat} {R : List Nat} {a b : World} (h : Mv ro R a ro1 b) {g r : Nat} (hg : a.heap.size ≤ g) : Mv ro R a (setRo ro1 g r) b :=
  ⟨fun i hi => (setRo_ne (by omega)).trans (h.ext i hi), h.os, h.tape, h.output, h.size, h.block⟩
theorem Mv.grown {ro ro1 : Nat → Nat} {R : List Nat} {a b c : World} {row : Option Nat} (h : Mv ro R a ro1 b) (hg : b.grownBy c row) (hr : ∀ k, row = some k → ro1 k ∈ R) : Mv ro R a ro1 c :=
  ⟨h.ext, hg.os.trans h.os, hg.tape.trans h.tape, hg.output.trans h.output, Nat.le_trans h.size hg.size, fun k hk hn =>
    (hg.block k (Nat.lt_of_lt_of_le hk h.size) (fun e => by have := hr k e.symm; rw [h.ext k hk] at this; exact hn this)).trans (h.block k hk hn)⟩

/-- A block that is known whole, and its role. -/
structure Blk (ro : Nat → Nat) (r : Nat) (w : World) (b : Nat) (cs : Array Value) (t : TypeId) : Prop where
  heap : w.heap[b]? = some (.cells cs t (0, 0))
  role : ro b = r
theorem Blk.lt {ro r w b cs t} (h : Blk ro r w b cs t) : b < w.heap.size := lt_of_heap h.heap
theorem Blk.cell {ro r w b cs t} (h : Blk ro r w b cs t) : ∀ o, w.cell? ⟨b, o, none⟩ = cs[o]? := fun o => cell_of_row w b o _ _ _ h.heap
theorem Blk.free {ro r w b cs t} (h : Blk ro r w b cs t) : ∀ o, w.frozen? ⟨b, o, none⟩ = false := fun o => frozen_of_row w b o _ _ h.heap
theorem Blk.keep {ro ro' : Nat → Nat} {r : Nat} {w w' : World} {b cs t R} (h : Blk ro r w b cs t) (m : Mv ro R w ro' w') (hr : r ∉ R) : Blk ro' r w' b cs t :=
  ⟨(m.block b h.lt (by rw [h.role]; exact hr)).trans h.heap, (m.ext b h.lt).trans h.role⟩
theorem Blk.put {ro : Nat → Nat} {r : Nat} {w : World} {b i cs cs' t v} (h : Blk ro r w b cs t) (e : cs.setIfInBounds i v = cs') : Blk ro r (w.setCell ⟨b, i, none⟩ v) b cs' t := ⟨heap_put h.heap e, h.role⟩
theorem Blk.away {ro : Nat → Nat} {r : Nat} {w : World} {b cs t v} {p : Addr} (h : Blk ro r w b cs t) (hp : ro p.block ≠ r) : Blk ro r (w.setCell p v) b cs t :=
  h.keep ((Mv.refl ro [ro p.block] w).setCell (by simp) v) (by simpa using fun e => hp e.symm)
theorem Blk.ne {ro : Nat → Nat} {r s : Nat} {w : World} {b c cs ds t u} (h : Blk ro r w b cs t) (k : Blk ro s w c ds u) (hrs : r ≠ s) : b ≠ c := by
  rintro rfl; exact hrs (h.role.symm.trans k.role)
theorem Blk.new (ro : Nat → Nat) (r : Nat) (w : World) (cs : Array Value) (t : TypeId) : Blk (setRo ro w.heap.size r) r (w.alloc (.cells cs t)) w.heap.size cs t := ⟨heap_alloc_new _ _, setRo_at _ _ _⟩

/-- v is a row of its own, of that role. -/
structure Own (ro : Nat → Nat) (r : Nat) (w : World) (E size : Nat) (v : Value) (n : Nat) (xs : List Value) : Prop where
  own : w.ownsRow 0 E size v n xs
  role : ∀ k, v.ownBlock = some k → ro k = r
theorem Own.lt {ro r w E size v n xs} (h : Own ro r w E size v n xs) : ∀ k, v.ownBlock = some k → k < w.heap.size := fun k hk => (World.ownsRow.lt h.own k hk).2
theorem Own.nil (ro : Nat → Nat) (r : Nat) (w : World) (E size : Nat) : Own ro r w E size (.slice none 0 0) 0 [] := ⟨⟨by simp, .inl ⟨rfl, rfl⟩⟩, by simp [Value.ownBlock]⟩
theorem Own.keep {ro ro' : Nat → Nat} {r : Nat} {w w' : World} {E size v n xs R} (h : Own ro r w E size v n xs) (m : Mv ro R w ro' w') (hr : r ∉ R) : Own ro' r w' E size v n xs := by
  refine ⟨⟨h.own.1, ?_⟩, fun k hk => (m.ext k (h.lt k hk)).trans (h.role k hk)⟩
  rcases h.own.2 with h1 | ⟨g, cap, cur, h1, hB, hg, hn⟩
  · exact .inl h1
  · exact .inr ⟨g, cap, cur, h1, hB, (m.block g (lt_of_heap hg) (by rw [h.role g (by rw [h1]; rfl)]; exact hr)).trans hg, hn⟩
theorem Own.form {ro r w E size v n xs} (h : Own ro r w E size v n xs) : ∃ a c, v = .slice a n c := by
  rcases h.own.2 with ⟨h1, h2⟩ | ⟨g, cap, cur, h1, _⟩
  · exact ⟨none, 0, by rw [h1, h2]⟩
  · exact ⟨_, _, h1⟩
theorem Own.cellAt {ro r w E size g n cap xs} (h : Own ro r w E size (.slice (some ⟨g, 0, none⟩) n cap) n xs) {i : Nat} (hi : i < n * size) : w.cell? ⟨g, i, none⟩ = xs[i]? := by
  rw [h.own.cellAt i hi]
theorem Own.free {ro r w E size g n cap xs} (h : Own ro r w E size (.slice (some ⟨g, 0, none⟩) n cap) n xs) (i : Nat) : w.frozen? ⟨g, i, none⟩ = false := by
  rcases h.own.2 with ⟨h1, h2⟩ | ⟨g', cap', cur, h1, hB, hg, hn⟩
  · cases h1
  · cases h1; exact frozen_of_row _ _ _ _ _ hg
theorem Own.pos {ro r w E size v n xs} (h : Own ro r w E size v n xs) (hn : 0 < n) : ∃ g cap, v = .slice (some ⟨g, 0, none⟩) n cap ∧ ro g = r ∧ n ≤ cap ∧ cap ≤ maxLen := by
  rcases h.own.2 with ⟨h1, h2⟩ | ⟨g, cap, cur, h1, hB, hg, hc, hm, _⟩
  · omega
  · exact ⟨g, cap, h1, h.role g (by rw [h1]; rfl), hc, hm⟩
/-- The first k of a row. -/
theorem Own.front {ro r w E size g n cap xs} (h : Own ro r w E size (.slice (some ⟨g, 0, none⟩) n cap) n xs) {k : Nat} (hk : k ≤ n) : Own ro r w E size (.slice (some ⟨g, 0, none⟩) k cap) k (xs.take (k * size)) := by
  have hle : k * size ≤ n * size := Nat.mul_le_mul_right _ hk
  refine ⟨⟨by rw [List.length_take, h.own.1]; omega, ?_⟩, fun j hj => h.role j hj⟩
  rcases h.own.2 with ⟨h1, h2⟩ | ⟨g', cap', cur, h1, hB, hg, hn, hm, hs, ht⟩
  · cases h1
  · cases h1
    refine .inr ⟨g, cap, cur, rfl, hB, hg, by omega, hm, hs, ?_⟩
    rw [← ht, List.take_take, Nat.min_eq_left hle]
/-- Behind an append. -/
theorem Own.grown {ro : Nat → Nat} {r : Nat} {w w' : World} {E size v n xs g m cap ys H} (h : Own ro r w E size v n xs) (ho : w'.ownsRow 0 E size (.slice (some ⟨g, 0, none⟩) m cap) m ys) (hg : v.ownBlock = some g ∨ g = H) : Own (setRo ro H r) r w' E size (.slice (some ⟨g, 0, none⟩) m cap) m ys := by
  refine ⟨ho, fun k hk => ?_⟩
  simp only [Value.ownBlock, Option.some.injEq] at hk
  subst hk
  by_cases e : g = H
  · rw [e, setRo_at]
  · rw [setRo_ne e]
    rcases hg with h1 | h1
    · exact h.role g h1
    · exact absurd h1 e
theorem Own.mv {ro : Nat → Nat} {r : Nat} {w w' : World} {E size v n xs} {R : List Nat} (h : Own ro r w E size v n xs) (hg : w.grownBy w' v.ownBlock) (hr : r ∈ R) : Mv ro R w (setRo ro w.heap.size r) w' :=
  ((Mv.refl ro R w).grown hg fun k hk => by rw [h.role k hk]; exact hr).give (Nat.le_refl _)

theorem flatMap_at {α : Type} (f : α → List Value) (size : Nat) (hf : ∀ x, (f x).length = size) (l : List α) (i j : Nat) (hi : i < l.length) (hj : j < size) : (l.flatMap f)[i * size + j]? = (f l[i])[j]? := by
  induction l generalizing i with
  | nil => simp at hi
  | cons p l ih =>
    cases i with
    | zero => rw [List.flatMap_cons, List.getElem?_append_left (by rw [hf]; omega)]; simp
    | succ i =>
      rw [List.flatMap_cons, List.getElem?_append_right (by rw [hf, Nat.succ_mul]; omega), hf, show (i + 1) * size + j - size = i * size + j by rw [Nat.succ_mul]; omega, ih i (by simpa using hi)]
      simp
theorem flatMap_len {α : Type} (f : α → List Value) (size : Nat) (hf : ∀ x, (f x).length = size) (l : List α) : (l.flatMap f).length = l.length * size := by
  induction l with
  | nil => simp
  | cons p l ih => rw [List.flatMap_cons, List.length_append, hf, ih, List.length_cons, Nat.succ_mul]; omega
theorem flatMap_take {α : Type} (f : α → List Value) (size : Nat) (hf : ∀ x, (f x).length = size) (l : List α) (k : Nat) (hk : k ≤ l.length) : (l.flatMap f).take (k * size) = (l.take k).flatMap f := by
  induction l generalizing k with
  | nil => simp
  | cons p l ih =>
    cases k with
    | zero => simp
    | succ k =>
      rw [List.flatMap_cons, List.take_succ_cons, List.flatMap_cons, ← ih k (by simpa using hk), List.take_append, hf, List.take_of_length_le (by rw [hf, Nat.succ_mul]; omega), show (k + 1) * size - size = k * size by rw [Nat.succ_mul]; omega]

def cF (x : Nat) : List Value := [.float .f64 x]
def cI (n : Int) : List Value := [.int .i64 n]
def cU (n : Nat) : List Value := [.int .u64 n]
def cT (t : Int × Nat) : List Value := [.int .i64 t.1, .float .f64 t.2]
theorem cF_len (x : Nat) : (cF x).length = 1 := rfl
theorem cI_len (x : Int) : (cI x).length = 1 := rfl
theorem cU_len (x : Nat) : (cU x).length = 1 := rfl
theorem cT_len (x : Int × Nat) : (cT x).length = 2 := rfl

/-- v is a row of its own that holds the elements l. -/
def OwnL {α : Type} (f : α → List Value) (ro : Nat → Nat) (r : Nat) (w : World) (E size : Nat) (v : Value) (l : List α) : Prop := Own ro r w E size v l.length (l.flatMap f)
theorem OwnL.nil {α : Type} (f : α → List Value) (ro : Nat → Nat) (r : Nat) (w : World) (E size : Nat) : OwnL f ro r w E size (.slice none 0 0) [] := Own.nil _ _ _ _ _
theorem OwnL.keep {α : Type} {f : α → List Value} {ro ro' : Nat → Nat} {r : Nat} {w w' : World} {E size v l R} (h : OwnL f ro r w E size v l) (m : Mv ro R w ro' w') (hr : r ∉ R) : OwnL f ro' r w' E size v l := Own.keep h m hr
theorem OwnL.form {α : Type} {f : α → List Value} {ro r w E size v} {l : List α} (h : OwnL f ro r w E size v l) : ∃ a c, v = .slice a l.length c := Own.form h
theorem OwnL.pos {α : Type} {f : α → List Value} {ro r w E size v} {l : List α} (h : OwnL f ro r w E size v l) (hn : 0 < l.length) : ∃ g cap, v = .slice (some ⟨g, 0, none⟩) l.length cap ∧ ro g = r ∧ l.length ≤ cap ∧ cap ≤ maxLen := Own.pos h hn
theorem OwnL.at {α : Type} {f : α → List Value} {ro r w E size g n cap} {l : List α} (hf : ∀ x, (f x).length = size) (h : OwnL f ro r w E size (.slice (some ⟨g, 0, none⟩) n cap) l) {i j : Nat} (hi : i < l.length) (hj : j < size) : w.cell? ⟨g, i * size + j, none⟩ = (f l[i])[j]? := by
  have hl : n = l.length := by obtain ⟨a, c, e⟩ := h.form; cases e; rfl
  subst hl
  have hlt : i * size + j < l.length * size := by
    have := Nat.mul_le_mul_right size (Nat.succ_le_of_lt hi)
    rw [Nat.succ_mul] at this
    omega
  rw [Own.cellAt h hlt]
  exact flatMap_at f size hf l i j hi hj
theorem OwnL.at1 {α : Type} {f : α → List Value} {ro r w E g n cap} {l : List α} (hf : ∀ x, (f x).length = 1) (h : OwnL f ro r w E 1 (.slice (some ⟨g, 0, none⟩) n cap) l) {i : Nat} (hi : i < l.length) : w.cell? ⟨g, i, none⟩ = (f l[i])[0]? := by
  have := OwnL.at hf h hi (j := 0) (by omega)
  simpa using this
theorem OwnL.front {α : Type} {f : α → List Value} {ro r w E size g n cap} {l : List α} (hf : ∀ x, (f x).length = size) (h : OwnL f ro r w E size (.slice (some ⟨g, 0, none⟩) n cap) l) {k : Nat} (hk : k ≤ l.length) : OwnL f ro r w E size (.slice (some ⟨g, 0, none⟩) k cap) (l.take k) := by
  have hl : n = l.length := by obtain ⟨a, c, e⟩ := h.form; cases e; rfl
  subst hl
  have := Own.front h hk
  unfold OwnL
  rw [List.length_take, Nat.min_eq_left hk, ← flatMap_take f size hf l k hk]
  exact this
theorem OwnL.blk {α : Type} {f : α → List Value} {ro r w E size v} {l : List α} (h : OwnL f ro r w E size v l) : ∀ k, v.ownBlock = some k → k < w.heap.size ∧ ro k = r := fun k hk => ⟨Own.lt h k hk, Own.role h k hk⟩
theorem OwnL.away {α : Type} {f : α → List Value} {ro : Nat → Nat} {r : Nat} {w : World} {E size v u} {l : List α} {p : Addr} (h : OwnL f ro r w E size v l) (hp : ro p.block ≠ r) : OwnL f ro r (w.setCell p u) E size v l :=
  h.keep ((Mv.refl ro [ro p.block] w).setCell (by simp) u) (by simpa using fun e => hp e.symm)
end Go.Proofs.YtphaeodcomgffaaGreat
