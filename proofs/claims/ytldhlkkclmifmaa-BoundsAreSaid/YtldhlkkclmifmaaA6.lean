import Derived.Test.YtldhlkkclmifmaaA5
import Derived.Laws.AppendOwnNone
namespace Go.Proofs.Ytldhlkkclmifmaa
open Go.RowKit

/-- The slice v reads as the whole numbers l. -/
def RdI (w : World) (v : Value) (l : List Int) : Prop :=
  (l = [] ∧ (v = .slice none 0 0 ∨ ∃ a c, v = .slice (some a) 0 c)) ∨
  ∃ b off c, v = .slice (some ⟨b, off, none⟩) l.length c ∧ 0 < l.length ∧ ∀ i, i < l.length → w.cell? ⟨b, off + i, none⟩ = some (.int .i64 (l.getD i 0))

theorem RdI.slice {w v l} (h : RdI w v l) : ∃ a c, v = .slice a l.length c := by
  rcases h with ⟨rfl, h | ⟨a, c, h⟩⟩ | ⟨b, off, c, h, _⟩
  · exact ⟨_, _, h⟩
  · exact ⟨_, _, h⟩
  · exact ⟨_, _, h⟩
theorem RdI.blk {w v l} (h : RdI w v l) (hl : 0 < l.length) : ∃ b off c, v = .slice (some ⟨b, off, none⟩) l.length c ∧ b < w.heap.size ∧ ∀ i, i < l.length → w.cell? ⟨b, off + i, none⟩ = some (.int .i64 (l.getD i 0)) := by
  rcases h with ⟨rfl, _⟩ | ⟨b, off, c, h, _, hc⟩
  · simp at hl
  · exact ⟨b, off, c, h, block_lt_of_cell (hc 0 hl), hc⟩
theorem RdI.keep {w w' : World} {v : Value} {l : List Int} {S : List Nat} (h : RdI w v l) (c : Chg S w w') (hs : ∀ k, v.ownBlock = some k → k ∉ S) : RdI w' v l := by
  rcases h with h | ⟨b, off, k, rfl, hl, hc⟩
  · exact .inl h
  · refine .inr ⟨b, off, k, rfl, hl, fun i hi => ?_⟩
    rw [World.cell?_of_block (w := w) (c.block b (block_lt_of_cell (hc i hi)) (hs b rfl))]
    exact hc i hi
theorem RdI.keep0 {w w' : World} {v : Value} {l : List Int} (h : RdI w v l) (c : Chg [] w w') : RdI w' v l := h.keep c (by simp)
theorem OwnI.rd {w : World} {B : Nat} {v : Value} {l : List Int} (h : OwnI w B v l) : RdI w v l := by
  rcases h.2 with ⟨h1, h2⟩ | ⟨g, cap, cur, h1, hB, hg, hn, hm, hs, ht⟩
  · exact .inl ⟨List.eq_nil_of_length_eq_zero h2, .inl h1⟩
  · subst h1
    rcases Nat.eq_zero_or_pos l.length with h0 | h0
    · exact .inl ⟨List.eq_nil_of_length_eq_zero h0, .inr ⟨⟨g, 0, none⟩, cap, by rw [h0]⟩⟩
    · refine .inr ⟨g, 0, cap, rfl, h0, fun i hi => ?_⟩
      have hown : w.ownsRow B 3 1 (.slice (some ⟨g, 0, none⟩) l.length cap) l.length (l.map (Value.int .i64)) := h
      rw [Nat.zero_add, hown.cellAt i (by omega)]
      simp [List.getD, List.getElem?_eq_getElem hi]
theorem OwnI.keep {w w' : World} {B : Nat} {v : Value} {l : List Int} {S : List Nat} (h : OwnI w B v l) (c : Chg S w w') (hs : ∀ k, v.ownBlock = some k → k ∉ S) : OwnI w' B v l := by
  refine ⟨h.1, ?_⟩
  rcases h.2 with h1 | ⟨g, cap, cur, h1, hB, hg, hn⟩
  · exact .inl h1
  · exact .inr ⟨g, cap, cur, h1, hB, (c.block g (lt_of_heap hg) (hs g (by rw [h1]; rfl))).trans hg, hn⟩
theorem OwnI.keep0 {w w' : World} {B : Nat} {v : Value} {l : List Int} (h : OwnI w B v l) (c : Chg [] w w') : OwnI w' B v l := h.keep c (by simp)
theorem OwnI.mono {w : World} {B B' : Nat} {v : Value} {l : List Int} (h : OwnI w B v l) (hb : B' ≤ B) : OwnI w B' v l := by
  refine ⟨h.1, ?_⟩
  rcases h.2 with h1 | ⟨g, cap, cur, h1, hB, hg⟩
  · exact .inl h1
  · exact .inr ⟨g, cap, cur, h1, by omega, hg⟩

/-- append of a slice that is only read to a slice of the call's own. -/
theorem push_ints {wr : World} {ops : Array Oper} {rest : List Oper} {o : Oper} {a : Act} {Q : Exit → Act → World → Prop} (hgd : o.guard = none) (s x : Operand)
    (ho : o.op = .call { callee := .builtin .append, args := #[s, x], argTypes := #[26, 26] })
    (B : Nat) (l m : List Int) (v u : Value) (hs : a.eval s = v) (hown : OwnI wr B v l) (hx : a.eval x = u) (hrd : RdI wr u m)
    (h63 : (l.length + m.length) * 8 ≤ 140737488351232) (hB : B ≤ wr.heap.size)
    (h : ∀ v' w', OwnI w' B v' (l ++ m) → wr.grownBy w' v.ownBlock → wpList Try.prog ops Q rest (a.put o.dst v') w') :
    wpList Try.prog ops Q (o :: rest) a wr := by
  obtain ⟨i0, hi, hz0, hz1, hz2⟩ := info_parts info3
  rcases hrd with ⟨rfl, rfl | ⟨b, c, rfl⟩⟩ | ⟨b, off, c, rfl, hl, hc⟩
  · exact wpList_append_own_none hgd s x 26 ho B 3 i0 1 under26 hi v l.length _ hs hown hx (h v wr (by simpa using hown) (World.grownBy.refl _ _))
  · refine wpList_append_own _ hgd s x 26 ho B 3 i0 (.int .i64 0) 1 8 under26 hi hz0 hz1 hz2 rfl (by decide) v l.length _ hs hown b 0 c [] hx rfl (by simp) (by simp) (by unfold maxLen; simp at h63; omega) (by simp at h63; omega) hB ?_
    intro v' w' h1 h2 _
    exact h v' w' (by simpa [OwnI] using h1) h2
  · refine wpList_append_own _ hgd s x 26 ho B 3 i0 (.int .i64 0) 1 8 under26 hi hz0 hz1 hz2 rfl (by decide) v l.length _ hs hown ⟨b, off, none⟩ m.length c (m.map (Value.int .i64)) hx (by simp) ?_ (by simp [Value.oneCell']) (by unfold maxLen; omega) (by omega) hB ?_
    · intro j u hj
      have hjl : j < m.length := by simpa using (List.getElem?_eq_some_iff.1 hj).1
      rw [Addr.add_lit, hc j hjl, ← hj]
      simp [List.getD, List.getElem?_eq_getElem hjl]
    · intro v' w' h1 h2 _
      exact h v' w' (by simpa [OwnI] using h1) h2

end Go.Proofs.Ytldhlkkclmifmaa
