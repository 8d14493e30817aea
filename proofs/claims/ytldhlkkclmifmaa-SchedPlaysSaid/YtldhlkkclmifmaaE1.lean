import Derived.Test.YtldhlkkclmifmaaC3
set_option linter.unusedVariables false
set_option linter.unusedSimpArgs false
namespace Go.Proofs.Ytldhlkkclmifmaa
open Go.RowKit

/-! the document's rounds -/
def OwnB (w : World) (B : Nat) (v : Value) (l : List Bool) : Prop := w.ownsRow B 4 1 v l.length (l.map Value.bool)
theorem OwnB.keep {w w' : World} {B : Nat} {v : Value} {l : List Bool} {S : List Nat} (h : OwnB w B v l) (c : Chg S w w') (hs : ∀ k, v.ownBlock = some k → k ∉ S) : OwnB w' B v l := by
  refine ⟨h.1, ?_⟩
  rcases h.2 with h1 | ⟨g, cap, cur, h1, hB, hg, hn⟩
  · exact .inl h1
  · exact .inr ⟨g, cap, cur, h1, hB, (c.block g (lt_of_heap hg) (hs g (by rw [h1]; rfl))).trans hg, hn⟩
theorem OwnB.keep0 {w w' : World} {B : Nat} {v : Value} {l : List Bool} (h : OwnB w B v l) (c : Chg [] w w') : OwnB w' B v l := h.keep c (by simp)
theorem OwnB.facts {w : World} {B g cap n : Nat} {l : List Bool} (h : OwnB w B (.slice (some ⟨g, 0, none⟩) n cap) l) :
    n = l.length ∧ B ≤ g ∧ g < w.heap.size ∧ (∀ i, i < l.length → w.cell? ⟨g, i, none⟩ = some (.bool (l.getD i false))) ∧ ∀ i, w.frozen? ⟨g, i, none⟩ = false := by
  rcases h.2 with ⟨h1, h2⟩ | ⟨g', cap', cur, h1, hB, hg, hn, hm, hs, ht⟩
  · simp at h1
  · simp only [Value.slice.injEq, Option.some.injEq, Addr.mk.injEq, and_true, true_and] at h1
    obtain ⟨rfl, rfl, rfl⟩ := h1
    refine ⟨rfl, hB, lt_of_heap hg, fun i hi => ?_, fun i => frozen_of_row w g i cur 4 hg⟩
    have hown : w.ownsRow B 4 1 (.slice (some ⟨g, 0, none⟩) l.length cap) l.length (l.map Value.bool) := h
    rw [hown.cellAt i (by omega)]
    simp [List.getD, List.getElem?_eq_getElem hi]
theorem OwnB.set {w : World} {B g cap n : Nat} {l : List Bool} (h : OwnB w B (.slice (some ⟨g, 0, none⟩) n cap) l) (j : Nat) (x : Bool) :
    OwnB (w.setCell ⟨g, j, none⟩ (.bool x)) B (.slice (some ⟨g, 0, none⟩) n cap) (l.set j x) := by
  obtain ⟨rfl, _⟩ := h.facts
  have hown : w.ownsRow B 4 1 (.slice (some ⟨g, 0, none⟩) l.length cap) l.length (l.map Value.bool) := h
  have := (hown.stored j (.bool x)).1
  unfold OwnB
  simpa [List.map_set] using this

/-- what one of the document's rounds holds: block rb, its two lists in the blocks of D. -/
structure RefIs (w : World) (rb : Nat) (n : Int) (s : ST) (g : Nat) (vS : Value) (fl : List Bool) (st : List Int) : Prop where
  head : w.heap[rb]? = some (.cells #[.slice (some ⟨g, 0, none⟩) fl.length fl.length, vS, .int .i64 s.o] 73 (0, 0))
  ownF : OwnB w 0 (.slice (some ⟨g, 0, none⟩) fl.length fl.length) fl
  ownS : OwnI w 0 vS st
  len : (fl.length : Int) = n
  fin : ∀ i : Nat, (i : Int) < n → fl.getD i false = !s.L i
  stp : ∀ i : Nat, (i : Int) < n → s.S i = (s.L i && decide ((i : Int) ∈ st))
  stin : ∀ x ∈ st, 0 ≤ x ∧ x < n
  nd : st.Nodup

def dom (rb g : Nat) (vS : Value) : List Nat := rb :: g :: vS.ownBlock.toList
def Ref (w : World) (rb : Nat) (n : Int) (s : ST) (D : List Nat) : Prop := ∃ g vS fl st, RefIs w rb n s g vS fl st ∧ D = dom rb g vS

theorem nodup_le : ∀ (k : Nat) (l : List Int), l.Nodup → (∀ x ∈ l, 0 ≤ x ∧ x < (k : Int)) → l.length ≤ k
  | 0, l, _, h => by
    cases l with
    | nil => simp
    | cons a l => have := h a (by simp); omega
  | k + 1, l, hn, h => by
    have h1 := nodup_le k (l.erase (k : Int)) (hn.erase _) (fun x hx => by
      have h2 := h x (List.mem_of_mem_erase hx)
      have h3 : x ≠ (k : Int) := fun e => by subst e; exact (List.Nodup.not_mem_erase hn) hx
      omega)
    have := List.length_erase_le (a := (k : Int)) (l := l)
    have h4 : l.length ≤ (l.erase (k : Int)).length + 1 := by rw [List.length_erase]; split <;> omega
    omega
theorem RefIs.st8 {w rb n s g vS fl st} (h : RefIs w rb n s g vS fl st) (hn : n ≤ 8) : st.length ≤ 8 :=
  nodup_le 8 st h.nd fun x hx => by have := h.stin x hx; omega
theorem RefIs.rb_ne {w rb n s g vS fl st} (h : RefIs w rb n s g vS fl st) : rb ≠ g ∧ (∀ k, vS.ownBlock = some k → k ≠ rb ∧ k ≠ g) := by
  have hF := h.ownF.2
  rcases hF with ⟨h1, _⟩ | ⟨g', cap, cur, h1, _, hg, _⟩
  · simp at h1
  · simp only [Value.slice.injEq, Option.some.injEq, Addr.mk.injEq, and_true, true_and] at h1
    obtain ⟨rfl, _⟩ := h1
    refine ⟨?_, fun k hk => ?_⟩
    · rintro rfl; rw [h.head] at hg; simp at hg
    · rcases h.ownS.2 with ⟨h2, _⟩ | ⟨g2, cap2, cur2, h2, _, hg2, _⟩
      · rw [h2] at hk; simp [Value.ownBlock] at hk
      · rw [h2] at hk
        have e : g2 = k := by simpa [Value.ownBlock] using hk
        subst e
        exact ⟨by rintro rfl; rw [h.head] at hg2; simp at hg2, by rintro rfl; rw [hg] at hg2; simp at hg2⟩
theorem RefIs.keep {w w' rb n s g vS fl st} {S : List Nat} (h : RefIs w rb n s g vS fl st) (c : Chg S w w') (hS : ∀ x ∈ dom rb g vS, x ∉ S) : RefIs w' rb n s g vS fl st :=
  ⟨(c.block rb (lt_of_heap h.head) (hS rb (by simp [dom]))).trans h.head, h.ownF.keep c (fun k hk => hS k (by simp [Value.ownBlock] at hk; simp [dom, hk])), h.ownS.keep c (fun k hk => hS k (by simp [dom, hk])), h.len, h.fin, h.stp, h.stin, h.nd⟩
theorem Ref.keep {w w' : World} {rb : Nat} {n : Int} {s : ST} {D S : List Nat} (h : Ref w rb n s D) (c : Chg S w w') (hS : ∀ x ∈ D, x ∉ S) : Ref w' rb n s D := by
  obtain ⟨g, vS, fl, st, h1, rfl⟩ := h
  exact ⟨g, vS, fl, st, h1.keep c hS, rfl⟩
theorem Ref.lt {w : World} {rb : Nat} {n : Int} {s : ST} {D : List Nat} (h : Ref w rb n s D) : ∀ x ∈ D, x < w.heap.size := by
  obtain ⟨g, vS, fl, st, h1, rfl⟩ := h
  intro x hx
  simp only [dom, List.mem_cons, Option.mem_toList, Option.mem_def] at hx
  rcases hx with rfl | rfl | hx
  · exact lt_of_heap h1.head
  · exact h1.ownF.facts.2.2.1
  · exact (h1.ownS.blk x hx).2

set_option maxHeartbeats 400000 in
theorem was_any (w : World) (rb : Nat) (n : Int) (s : ST) (g : Nat) (vS : Value) (fl : List Bool) (st : List Int) (h : RefIs w rb n s g vS fl st) (hn : n ≤ 8) (t : Int) :
    Calls Try.prog 38 #[.pointer (some ⟨rb, 0, none⟩), .int .i64 t] w fun e w' => e = .returned (.bool (decide (t ∈ st))) ∧ w = w' := by
  have hst := h.st8 hn
  obtain ⟨a, c, rfl⟩ := h.ownS.rd.slice
  have h1 : w.cell? ⟨rb, 1, none⟩ = some (.slice a st.length c) := cell_of_row w rb 1 _ _ _ h.head
  have OW := Lib.hid h.ownS
  clear h
  go_enter Try.func38, Try.ntmps38
  go_wp2
  go_loop [5] (fun i => ∃ k : Nat, k ≤ st.length ∧ i = .int .i64 k ∧ ∀ j < k, st.getD j 0 ≠ t) (fun i => st.length - (intOf i).toNat)
  case atStart => exact ⟨0, Nat.zero_le _, rfl, by omega⟩
  case round =>
    obtain ⟨k, hk, rfl, hne⟩ := hrel
    have HNE := Lib.hid hne; clear hne
    by_cases hkn : k < st.length
    · obtain ⟨b', off, c', e, hb', hc'⟩ := OW.out.rd.blk (by omega)
      simp only [Value.slice.injEq, true_and] at e
      obtain ⟨rfl, rfl⟩ := e
      obtain ⟨x, X, g1⟩ : ∃ x, Hid (st.getD k 0 = x) ∧ w.cell? ⟨b', off + k, none⟩ = some (.int .i64 x) := ⟨_, rfl, hc' k hkn⟩
      clear hc' hb'
      by_cases he : x = t
      · have hm := Lib.hid (show t ∈ st from by rw [← he, ← X.out, List.getD, List.getElem?_eq_getElem hkn]; exact List.getElem_mem _)
        have z : (x == t) = true := by simp [he]
        clear he
        go_wp2
        go_ret
        exact ⟨by simp [hm.out], rfl⟩
      · have z : (x == t) = false := by simp [he]
        have HE := Lib.hid he; clear he
        go_wp2
        go_round
        case rel => exact ⟨k + 1, by omega, by go_num, fun j hj => by rcases Nat.lt_succ_iff_lt_or_eq.1 hj with h | rfl; exact HNE.out j h; rw [X.out]; exact HE.out⟩
        case measure => simp [intOf]; omega
    · have hm := Lib.hid (show ¬ t ∈ st from fun hx => by
        obtain ⟨j, hj, e⟩ := List.mem_iff_getElem.1 hx
        have := HNE.out j (by omega)
        rw [List.getD, List.getElem?_eq_getElem hj] at this
        exact this e)
      go_wp2
      go_ret
      exact ⟨by simp [hm.out], rfl⟩

end Go.Proofs.Ytldhlkkclmifmaa
