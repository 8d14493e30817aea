import Derived.Test.YtjlnhifleepnoaaGreatDoorA2
import Derived.Laws.AppendOwnNone
set_option linter.unusedVariables false
set_option linter.unusedSimpArgs false
namespace Go.Proofs.YtjlnhifleepnoaaGreatDoor
open Go.RowKit

/-- Only the blocks in S (and new ones) may have turned. -/
structure Chg (S : List Nat) (w w' : World) : Prop where
  os : w'.os = w.os
  tape : w'.tape = w.tape
  output : w'.output = w.output
  size : w.heap.size ≤ w'.heap.size
  block : ∀ k, k < w.heap.size → k ∉ S → w'.heap[k]? = w.heap[k]?

theorem Chg.refl (S : List Nat) (w : World) : Chg S w w := ⟨rfl, rfl, rfl, Nat.le_refl _, fun _ _ _ => rfl⟩
theorem Chg.trans {S : List Nat} {a b c : World} (h : Chg S a b) (k : Chg S b c) : Chg S a c :=
  ⟨k.os.trans h.os, k.tape.trans h.tape, k.output.trans h.output, Nat.le_trans h.size k.size, fun i hi hs => (k.block i (Nat.lt_of_lt_of_le hi h.size) hs).trans (h.block i hi hs)⟩
theorem Chg.mono {S S' : List Nat} {a b : World} (h : Chg S a b) (hs : ∀ x ∈ S, x ∈ S' ∨ a.heap.size ≤ x) : Chg S' a b :=
  ⟨h.os, h.tape, h.output, h.size, fun i hi hn => h.block i hi fun hx => by rcases hs i hx with h1 | h1; exact hn h1; omega⟩
theorem Chg.drewN {S : List Nat} {a b : World} (h : Chg S a b) (n : Nat) : Chg S a (b.drewN n) := ⟨h.os, h.tape, h.output, h.size, h.block⟩
theorem Chg.drew {S : List Nat} {a b : World} (h : Chg S a b) : Chg S a b.drew := ⟨h.os, h.tape, h.output, h.size, h.block⟩
theorem Chg.alloc {S : List Nat} {a b : World} (h : Chg S a b) (o : Obj) : Chg S a (b.alloc o) :=
  h.trans ⟨rfl, rfl, rfl, by simp, fun k hk _ => Below.heap_alloc _ _ _ hk⟩
theorem Chg.setCell {S : List Nat} {a b : World} (h : Chg S a b) {p : Addr} (hp : p.block ∈ S ∨ a.heap.size ≤ p.block) (u : Value) : Chg S a (b.setCell p u) :=
  ⟨h.os, h.tape, h.output, by simpa [World.setCell] using h.size, fun k hk hn => by
    rw [Below.heap_setCell _ _ _ _ (by rintro rfl; rcases hp with hp | hp; exact hn hp; omega)]; exact h.block k hk hn⟩
theorem Chg.of_below {S : List Nat} {w w' : World} (h : Below w.heap.size w w') : Chg S w w' := ⟨h.os, h.tape, h.output, h.size, fun k hk _ => h.block k hk⟩
theorem Chg.below {S : List Nat} {w w' : World} {B : Nat} (h : Chg S w w') (hB : B ≤ w.heap.size) (hs : ∀ x ∈ S, B ≤ x) : Below B w w' :=
  ⟨h.os, h.tape, h.output, h.size, fun k hk => h.block k (by omega) fun hx => by have := hs k hx; omega⟩
theorem Chg.grown {S : List Nat} {a w w' : World} {row : Option Nat} (h : Chg S a w) (hg : w.grownBy w' row) (hr : ∀ k, row = some k → k ∈ S ∨ a.heap.size ≤ k) : Chg S a w' :=
  ⟨hg.os.trans h.os, hg.tape.trans h.tape, hg.output.trans h.output, Nat.le_trans h.size hg.size, fun k hk hn =>
    (hg.block k (Nat.lt_of_lt_of_le hk h.size) (fun e => by rcases hr k e.symm with h1 | h1; exact hn h1; omega)).trans (h.block k hk hn)⟩
theorem Chg.setRow {S : List Nat} {a b : World} (h : Chg S a b) {g : Nat} (hp : g ∈ S ∨ a.heap.size ≤ g) (cs : Array Value) : Chg S a (b.setRow g cs) :=
  ⟨h.os, h.tape, h.output, by simpa using h.size, fun k hk hn => by
    rw [setRow_other _ _ _ _ (by rintro rfl; rcases hp with hp | hp; exact hn hp; omega)]; exact h.block k hk hn⟩
theorem lt_of_heap {w : World} {b : Nat} {o : Obj} (h : w.heap[b]? = some o) : b < w.heap.size := by
  rcases Nat.lt_or_ge b w.heap.size with h' | h'
  · exact h'
  · simp [Array.getElem?_eq_none h'] at h
/-- A store into a block that is known whole. -/
theorem heap_put {w : World} {g i : Nat} {cs cs' : Array Value} {t : TypeId} {v : Value} (hg : w.heap[g]? = some (.cells cs t (0, 0))) (he : cs.setIfInBounds i v = cs') :
    (w.setCell ⟨g, i, none⟩ v).heap[g]? = some (.cells cs' t (0, 0)) := by subst he; exact heap_setCell_same w g i cs t v hg

theorem info9 : (Tryz.prog.info? 9).map (fun i => (i.zero, i.size, i.bytes)) = some (some (.string ⟨#[]⟩), 1, 16) := by kernel_rfl
/-- v owns, from block B on, a row that holds the texts l. -/
def OwnS (w : World) (B : Nat) (v : Value) (l : List ByteArray) : Prop := w.ownsRow B 9 1 v l.length (l.map (Value.string))

theorem OwnS.nil (w : World) (B : Nat) : OwnS w B (.slice none 0 0) [] := ⟨rfl, .inl ⟨rfl, rfl⟩⟩

theorem OwnS.blk {w : World} {B : Nat} {v : Value} {l : List ByteArray} (h : OwnS w B v l) : ∀ k, v.ownBlock = some k → B ≤ k ∧ k < w.heap.size := fun k hk => ⟨(World.ownsRow.lt h k hk).1, (World.ownsRow.lt h k hk).2⟩

/-- The slice v reads as the whole numbers l. -/
def RdS (w : World) (v : Value) (l : List ByteArray) : Prop :=
  (l = [] ∧ (v = .slice none 0 0 ∨ ∃ a c, v = .slice (some a) 0 c)) ∨
  ∃ b off c, v = .slice (some ⟨b, off, none⟩) l.length c ∧ 0 < l.length ∧ ∀ i, i < l.length → w.cell? ⟨b, off + i, none⟩ = some (.string (l.getD i ⟨#[]⟩))

theorem RdS.slice {w v l} (h : RdS w v l) : ∃ a c, v = .slice a l.length c := by
  rcases h with ⟨rfl, h | ⟨a, c, h⟩⟩ | ⟨b, off, c, h, _⟩
  · exact ⟨_, _, h⟩
  · exact ⟨_, _, h⟩
  · exact ⟨_, _, h⟩
theorem RdS.blk {w v l} (h : RdS w v l) (hl : 0 < l.length) : ∃ b off c, v = .slice (some ⟨b, off, none⟩) l.length c ∧ b < w.heap.size ∧ ∀ i, i < l.length → w.cell? ⟨b, off + i, none⟩ = some (.string (l.getD i ⟨#[]⟩)) := by
  rcases h with ⟨rfl, _⟩ | ⟨b, off, c, h, _, hc⟩
  · simp at hl
  · exact ⟨b, off, c, h, block_lt_of_cell (hc 0 hl), hc⟩
theorem RdS.keep {w w' : World} {v : Value} {l : List ByteArray} {S : List Nat} (h : RdS w v l) (c : Chg S w w') (hs : ∀ k, v.ownBlock = some k → k ∉ S) : RdS w' v l := by
  rcases h with h | ⟨b, off, k, rfl, hl, hc⟩
  · exact .inl h
  · refine .inr ⟨b, off, k, rfl, hl, fun i hi => ?_⟩
    rw [World.cell?_of_block (w := w) (c.block b (block_lt_of_cell (hc i hi)) (hs b rfl))]
    exact hc i hi
theorem RdS.keep0 {w w' : World} {v : Value} {l : List ByteArray} (h : RdS w v l) (c : Chg [] w w') : RdS w' v l := h.keep c (by simp)
theorem OwnS.rd {w : World} {B : Nat} {v : Value} {l : List ByteArray} (h : OwnS w B v l) : RdS w v l := by
  rcases h.2 with ⟨h1, h2⟩ | ⟨g, cap, cur, h1, hB, hg, hn, hm, hs, ht⟩
  · exact .inl ⟨List.eq_nil_of_length_eq_zero h2, .inl h1⟩
  · subst h1
    rcases Nat.eq_zero_or_pos l.length with h0 | h0
    · exact .inl ⟨List.eq_nil_of_length_eq_zero h0, .inr ⟨⟨g, 0, none⟩, cap, by rw [h0]⟩⟩
    · refine .inr ⟨g, 0, cap, rfl, h0, fun i hi => ?_⟩
      have hown : w.ownsRow B 9 1 (.slice (some ⟨g, 0, none⟩) l.length cap) l.length (l.map (Value.string)) := h
      rw [Nat.zero_add, hown.cellAt i (by omega)]
      simp [List.getD, List.getElem?_eq_getElem hi]
theorem OwnS.keep {w w' : World} {B : Nat} {v : Value} {l : List ByteArray} {S : List Nat} (h : OwnS w B v l) (c : Chg S w w') (hs : ∀ k, v.ownBlock = some k → k ∉ S) : OwnS w' B v l := by
  refine ⟨h.1, ?_⟩
  rcases h.2 with h1 | ⟨g, cap, cur, h1, hB, hg, hn⟩
  · exact .inl h1
  · exact .inr ⟨g, cap, cur, h1, hB, (c.block g (lt_of_heap hg) (hs g (by rw [h1]; rfl))).trans hg, hn⟩
theorem OwnS.keep0 {w w' : World} {B : Nat} {v : Value} {l : List ByteArray} (h : OwnS w B v l) (c : Chg [] w w') : OwnS w' B v l := h.keep c (by simp)
theorem OwnS.mono {w : World} {B B' : Nat} {v : Value} {l : List ByteArray} (h : OwnS w B v l) (hb : B' ≤ B) : OwnS w B' v l := by
  refine ⟨h.1, ?_⟩
  rcases h.2 with h1 | ⟨g, cap, cur, h1, hB, hg⟩
  · exact .inl h1
  · exact .inr ⟨g, cap, cur, h1, by omega, hg⟩


end Go.Proofs.YtjlnhifleepnoaaGreatDoor
