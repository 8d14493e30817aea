import Derived.Test.YtldhlkkclmifmaaRd
set_option linter.unusedVariables false
set_option linter.unusedSimpArgs false
namespace Go.Proofs.Ytldhlkkclmifmaa
open Go.ChangeShapes Go.WideShapes Go.ChangeAt Go.RowKit Go.Deep

def opRow (p : Int × Int) : List Value := [.int .i64 p.1, .int .i64 p.2]
/-- A slice of operations that came in. -/
def InOps (w : World) (v : Value) : Prop := ∃ l : List (Int × Int), Rd w 2 v (l.map opRow) ∧ (∀ p ∈ l, (-9223372036854775808 ≤ p.1 ∧ p.1 ≤ 9223372036854775807) ∧ (-9223372036854775808 ≤ p.2 ∧ p.2 ≤ 9223372036854775807)) ∧ l.length * 16 ≤ 140737488351232

theorem bytes44 : Try.prog.bytesOf 44 = 16 := by kernel_rfl
theorem rows_ops : ∀ rows : List (List Value), (∀ r ∈ rows, ∃ p q : Int, r = [.int .i64 p, .int .i64 q] ∧ (Lit.int .i64 p).wf = true ∧ (Lit.int .i64 q).wf = true) →
    ∃ l : List (Int × Int), rows = l.map opRow ∧ ∀ p ∈ l, (-9223372036854775808 ≤ p.1 ∧ p.1 ≤ 9223372036854775807) ∧ (-9223372036854775808 ≤ p.2 ∧ p.2 ≤ 9223372036854775807)
  | [], _ => ⟨[], rfl, by simp⟩
  | r :: rows, h => by
    obtain ⟨l, rfl, hl⟩ := rows_ops rows fun x hx => h x (by simp [hx])
    obtain ⟨p, q, rfl, h1, h2⟩ := h r (by simp)
    exact ⟨(p, q) :: l, rfl, fun x hx => by
      rcases List.mem_cons.1 hx with rfl | hx
      · exact ⟨int_bounds h1, int_bounds h2⟩
      · exact hl x hx⟩

theorem open_ops_in {H : Type} {enc : TypeId × Value → H} {W : World} {base : Nat} {v : Value} {d : DataW H} {p : List MemPlace} {ts : List TypeId} {ds : List (DataW H)} {j : Nat}
    (hv : Value.okWide Try.prog W .any base 42 v) (h : DataW.Trod enc Try.prog W 0 (fun _ => true) true 42 v d p)
    (hsz : (DataW.weightsEach Try.prog ts ds).all (· ≤ reachBytes) = true) (ht : ts[j]? = some 42) (hd : ds[j]? = some d) : InOps W v := by
  obtain ⟨a0, len0, cap0, rfl⟩ := okWide_slice Try.underlying42 hv
  obtain ⟨fuel, hf⟩ := h
  obtain ⟨u, rows, hcs, hrd, hG, hlen, hx⟩ := rd_open (G := fun r => ∃ p q : Int, r = [.int .i64 p, .int .i64 q] ∧ (Lit.int .i64 p).wf = true ∧ (Lit.int .i64 q).wf = true) Try.underlying42 (size := 2) (by kernel_rfl) (by decide) hf
    (fun n cs y hl hy => two_ints Try.underlying44 hl rfl rfl (by kernel_rfl) (by kernel_rfl) (by kernel_rfl) (by kernel_rfl) hy)
  simp [Value.cells] at hcs
  subst hcs
  obtain ⟨l, rfl, hl⟩ := rows_ops rows fun r hr => (hG r hr).1
  refine ⟨l, hrd, hl, ?_⟩
  rcases hx with ⟨_, h0⟩ | ⟨el, sp, rfl, he⟩
  · have : l = [] := by simpa using h0
    simp [this]
  · have hreach := sized_slice hsz ht hd Try.underlying42
    rw [bytes44, he] at hreach
    simp [reachBytes] at hreach
    omega

theorem opAt {w : World} {v : Value} {l : List (Int × Int)} (h : Rd w 2 v (l.map opRow)) {k : Nat} (hk : k < l.length) :
    ∃ b off c p q, v = .slice (some ⟨b, off, none⟩) l.length c ∧ b < w.heap.size ∧ l[k]? = some (p, q) ∧ w.cell? ⟨b, off + k * 2, none⟩ = some (.int .i64 p) ∧ w.cell? ⟨b, off + k * 2 + 1, none⟩ = some (.int .i64 q) := by
  obtain ⟨b, off, c, e, hb, hc⟩ := h.blk (by simp; omega)
  simp only [List.length_map] at e hc
  refine ⟨b, off, c, l[k].1, l[k].2, e, hb, List.getElem?_eq_getElem hk, ?_, ?_⟩
  · have := hc k 0 hk (by omega)
    simpa [List.getD, List.getElem?_map, List.getElem?_eq_getElem hk, opRow] using this
  · have := hc k 1 hk (by omega)
    simpa [List.getD, List.getElem?_map, List.getElem?_eq_getElem hk, opRow] using this

end Go.Proofs.Ytldhlkkclmifmaa
