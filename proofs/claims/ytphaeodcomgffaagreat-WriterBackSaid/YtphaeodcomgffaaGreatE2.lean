import Derived.Test.YtphaeodcomgffaaGreatB2
import Derived.Test.YtphaeodcomgffaaGreatS2
import Derived.Test.YtphaeodcomgffaaGreatMO
import Derived.Test.YtphaeodcomgffaaGreatR3
set_option linter.unusedVariables false
set_option linter.unusedSimpArgs false
namespace Go.Proofs.YtphaeodcomgffaaGreat
open Go.RowKit

/-- Block B is shared memory: its words, whether an access may be, how many were. -/
structure MemIs (ro : Nat → Nat) (r : Nat) (w : World) (B : Nat) (v : Value) (words : List Nat) (op : Bool) (cnt : Int) : Prop where
  blk : Blk ro r w B #[v, .bool op, .int .i64 cnt] 121
  own : OwnL cU ro (r + 1) w 40 1 v words
theorem MemIs.keep {ro ro' : Nat → Nat} {r : Nat} {w w' : World} {B v words op cnt R} (h : MemIs ro r w B v words op cnt) (m : Mv ro R w ro' w') (h1 : r ∉ R) (h2 : r + 1 ∉ R) : MemIs ro' r w' B v words op cnt := ⟨h.blk.keep m h1, h.own.keep m h2⟩

theorem set_flat (l : List Nat) (i x : Nat) : (l.set i x).flatMap cU = (l.flatMap cU).set i (.int .u64 x) := by
  induction l generalizing i with
  | nil => simp
  | cons a l ih =>
    cases i with
    | zero => simp [cU]
    | succ i =>
      have := ih i
      simp only [List.set_cons_succ, List.flatMap_cons, cU, List.singleton_append] at this ⊢
      rw [← this]
/-- A store into the row of the words. -/
theorem OwnL.setU {ro : Nat → Nat} {r : Nat} {w : World} {E g n cap : Nat} {l : List Nat} (h : OwnL cU ro r w E 1 (.slice (some ⟨g, 0, none⟩) n cap) l) (i x : Nat) (hi : i < l.length) : OwnL cU ro r (w.setCell ⟨g, i, none⟩ (.int .u64 x)) E 1 (.slice (some ⟨g, 0, none⟩) n cap) (l.set i x) := by
  have hl : n = l.length := by obtain ⟨a, c, e⟩ := h.form; cases e; rfl
  subst hl
  refine ⟨⟨?_, ?_⟩, fun k hk => h.role k hk⟩
  · rw [set_flat, List.length_set, List.length_set]; exact h.own.1
  · rcases h.own.2 with ⟨h1, h2⟩ | ⟨g', cap', cur, h1, hB, hg, hc, hm, hs, ht⟩
    · cases h1
    · cases h1
      refine .inr ⟨g, cap, cur.setIfInBounds i (.int .u64 x), by rw [List.length_set], hB, heap_put hg rfl, by rw [List.length_set]; exact hc, hm, by simpa using hs, ?_⟩
      rw [List.length_set, set_flat, ← ht, Array.toList_setIfInBounds, List.take_set]

set_option maxRecDepth 100000 in
set_option maxHeartbeats 1000000 in
theorem load_ok {ro : Nat → Nat} {r : Nat} {w : World} {B : Nat} {v : Value} {words : List Nat} {cnt : Int} (h : MemIs ro r w B v words true cnt) (i : Nat) (hi : i < words.length) (hl : words.length ≤ 4096) (c0 : 0 ≤ cnt) (c1 : cnt ≤ 1000000000) :
    Calls Tryz.prog 19 #[.pointer (some ⟨B, 0, none⟩), .int .i64 i] w fun e w' => e = .returned (.tuple #[.int .u64 (words.getD i 0), .int .i64 0]) ∧ MemIs ro r w' B v words false (cnt + 1) ∧ Mv ro [r] w ro w' := by
  have hmf : ∀ (fn : Fn) (first cap : Array Value) (w : World), (Instr.makeFunc fn first cap).run Tryz.prog w = .ok (.func fn first cap) w := fun _ _ _ _ => rfl
  have hc := h.blk.cell
  have hf := h.blk.free
  have hlt := h.blk.lt
  obtain ⟨g, cap, rfl, hg, q1, q2⟩ := h.own.pos (by omega)
  have hx := h.own.at1 cU_len hi
  have hgl := block_lt_of_cell (hx.trans rfl : _ = some (.int .u64 (words[i]'hi)))
  rw [show words.getD i 0 = words[i]'hi by rw [List.getD_eq_getElem?_getD, List.getElem?_eq_getElem hi]; rfl]
  simp only [cU, List.getElem?_cons_zero] at hx
  generalize words[i]'hi = y at *
  have hne : B ≠ g := by rintro rfl; have := h.blk.role; omega
  have hne2 := hne.symm
  have hi1 : (i : Int) < words.length := by omega
  have H := Lib.hid h
  simp only at hgl
  clear h
  go_enter Tryz.func19, Tryz.ntmps19
  go_wp2_with (go_in)
  go_end0
  go_wp2_with (go_in)
  go_ret2
  have hB : ro B ∈ [r] := by rw [H.out.blk.role]; simp
  have mv : Mv ro [r] w ro (((w.setCell ⟨B, 1, none⟩ (.bool false)).setCell ⟨B, 2, none⟩ (.int .i64 (cnt + 1))).alloc (.cells #[.int .u64 y] 40)) := (((Mv.refl _ _ _).setCell hB _).setCell hB _).alloc _
  exact ⟨rfl, ⟨((H.out.blk.put (i := 1) rfl).put (i := 2) rfl).keep ((Mv.refl _ [] _).alloc _) (by simp), H.out.own.keep mv (by simp)⟩, mv⟩
/-- What stops an access: 30, there is no such word; 31, the access is spent. -/
def stop (op : Bool) (n : Nat) (i : Int) : Int := if i < 0 ∨ (n : Int) ≤ i then 30 else if op then 0 else 31
set_option maxRecDepth 100000 in
set_option maxHeartbeats 1000000 in
theorem load_no {ro : Nat → Nat} {r : Nat} {w : World} {B : Nat} {v : Value} {words : List Nat} {op : Bool} {cnt : Int} (h : MemIs ro r w B v words op cnt) (i : Int) (hi : stop op words.length i ≠ 0) :
    Calls Tryz.prog 19 #[.pointer (some ⟨B, 0, none⟩), .int .i64 i] w fun e w' => e = .returned (.tuple #[.int .u64 0, .int .i64 (stop op words.length i)]) ∧ Mv ro [] w ro w' := by
  have hmf : ∀ (fn : Fn) (first cap : Array Value) (w : World), (Instr.makeFunc fn first cap).run Tryz.prog w = .ok (.func fn first cap) w := fun _ _ _ _ => rfl
  have hc := h.blk.cell
  have hlt := h.blk.lt
  obtain ⟨p, c, rfl⟩ := h.own.form
  unfold stop at hi ⊢
  clear h
  generalize words.length = n at *
  by_cases h1 : i < 0
  · rw [if_pos (.inl h1)]
    clear hi
    go_enter Tryz.func19, Tryz.ntmps19
    go_wp2_with (go_in)
    go_ret2
    exact ⟨rfl, (Mv.refl _ _ _).alloc _⟩
  by_cases h2 : (n : Int) ≤ i
  · rw [if_pos (.inr h2)]
    clear hi
    go_enter Tryz.func19, Tryz.ntmps19
    go_wp2_with (go_in)
    go_ret2
    exact ⟨rfl, (Mv.refl _ _ _).alloc _⟩
  rw [if_neg (by omega)] at hi ⊢
  cases op
  · clear hi
    simp only [Bool.false_eq_true, if_false]
    go_enter Tryz.func19, Tryz.ntmps19
    go_wp2_with (go_in)
    go_ret2
    exact ⟨rfl, (Mv.refl _ _ _).alloc _⟩
  · exact absurd rfl hi
set_option maxRecDepth 100000 in
set_option maxHeartbeats 1000000 in
theorem store_ok {ro : Nat → Nat} {r : Nat} {w : World} {B : Nat} {v : Value} {words : List Nat} {cnt : Int} (h : MemIs ro r w B v words true cnt) (i x : Nat) (hi : i < words.length) (hl : words.length ≤ 4096) (c0 : 0 ≤ cnt) (c1 : cnt ≤ 1000000000) :
    Calls Tryz.prog 107 #[.pointer (some ⟨B, 0, none⟩), .int .i64 i, .int .u64 x] w fun e w' => e = .returned (.int .i64 0) ∧ MemIs ro r w' B v (words.set i x) false (cnt + 1) ∧ Mv ro [r, r + 1] w ro w' := by
  have hmf : ∀ (fn : Fn) (first cap : Array Value) (w : World), (Instr.makeFunc fn first cap).run Tryz.prog w = .ok (.func fn first cap) w := fun _ _ _ _ => rfl
  have hc := h.blk.cell
  have hf := h.blk.free
  have hlt := h.blk.lt
  obtain ⟨g, cap, rfl, hg, q1, q2⟩ := h.own.pos (by omega)
  have hx := h.own.at1 cU_len hi
  have hgl := block_lt_of_cell (hx.trans rfl : _ = some (.int .u64 (words[i]'hi)))
  have hfg := Own.free h.own i
  simp only [cU, List.getElem?_cons_zero] at hx
  generalize words[i]'hi = y at *
  have hne : B ≠ g := by rintro rfl; have := h.blk.role; omega
  have hne2 := hne.symm
  have hi1 : (i : Int) < words.length := by omega
  have H := Lib.hid h
  simp only at hgl
  clear h
  go_enter Tryz.func107, Tryz.ntmps107
  go_wp2_with (go_in)
  go_end0
  go_wp2_with (go_in)
  go_ret
  have hB : ro B ∈ [r, r + 1] := by rw [H.out.blk.role]; simp
  have hG : ro g ∈ [r, r + 1] := by rw [hg]; simp
  have mB : Mv ro [r] w ro ((w.setCell ⟨B, 1, none⟩ (.bool false)).setCell ⟨B, 2, none⟩ (.int .i64 (cnt + 1))) := ((Mv.refl _ _ _).setCell (by rw [H.out.blk.role]; simp) _).setCell (by rw [H.out.blk.role]; simp) _
  have mG : Mv ro [r + 1] ((w.setCell ⟨B, 1, none⟩ (.bool false)).setCell ⟨B, 2, none⟩ (.int .i64 (cnt + 1))) ro ((((w.setCell ⟨B, 1, none⟩ (.bool false)).setCell ⟨B, 2, none⟩ (.int .i64 (cnt + 1))).setCell ⟨g, i, none⟩ (.int .u64 x)).alloc (.cells #[.int .u64 x] 40)) := ((Mv.refl _ _ _).setCell (by rw [hg]; simp) _).alloc _
  exact ⟨rfl, ⟨((H.out.blk.put (i := 1) rfl).put (i := 2) rfl).keep mG (by simp), ((H.out.own.keep mB (by simp)).setU i x hi).keep ((Mv.refl _ [] _).alloc _) (by simp)⟩, (mB.mono (by simp)).trans (mG.mono (by simp))⟩
set_option maxRecDepth 100000 in
set_option maxHeartbeats 1000000 in
theorem peek_ok {ro : Nat → Nat} {r : Nat} {w : World} {B : Nat} {v : Value} {words : List Nat} {op : Bool} {cnt : Int} (h : MemIs ro r w B v words op cnt) (i : Nat) (hi : i < words.length) :
    Calls Tryz.prog 26 #[.pointer (some ⟨B, 0, none⟩), .int .i64 i] w fun e w' => e = .returned (.tuple #[.int .u64 (words.getD i 0), .int .i64 0]) ∧ ∃ q, w' = w.drewN q := by
  have hc := h.blk.cell
  obtain ⟨g, cap, rfl, hg, q1, q2⟩ := h.own.pos (by omega)
  have hx := h.own.at1 cU_len hi
  rw [show words.getD i 0 = words[i]'hi by rw [List.getD_eq_getElem?_getD, List.getElem?_eq_getElem hi]; rfl]
  simp only [cU, List.getElem?_cons_zero] at hx
  generalize words[i]'hi = y at *
  have hi1 : (i : Int) < words.length := by omega
  clear h
  go_enter Tryz.func26, Tryz.ntmps26
  go_wp2
  go_ret2
  exact ⟨rfl, 0, rfl⟩
set_option maxRecDepth 100000 in
set_option maxHeartbeats 1000000 in
theorem poke_ok {ro : Nat → Nat} {r : Nat} {w : World} {B : Nat} {v : Value} {words : List Nat} {op : Bool} {cnt : Int} (h : MemIs ro r w B v words op cnt) (i x : Nat) (hi : i < words.length) :
    Calls Tryz.prog 43 #[.pointer (some ⟨B, 0, none⟩), .int .i64 i, .int .u64 x] w fun e w' => e = .returned (.int .i64 0) ∧ MemIs ro r w' B v (words.set i x) op cnt ∧ Mv ro [r + 1] w ro w' := by
  have hc := h.blk.cell
  obtain ⟨g, cap, rfl, hg, q1, q2⟩ := h.own.pos (by omega)
  have hx := h.own.at1 cU_len hi
  have hfg := Own.free h.own i
  simp only [cU, List.getElem?_cons_zero] at hx
  generalize words[i]'hi = y at *
  have hi1 : (i : Int) < words.length := by omega
  have H := Lib.hid h
  clear h
  go_enter Tryz.func43, Tryz.ntmps43
  go_wp2
  go_ret
  have mG : Mv ro [r + 1] w ro (w.setCell ⟨g, i, none⟩ (.int .u64 x)) := (Mv.refl _ _ _).setCell (by rw [hg]; simp) _
  exact ⟨rfl, ⟨H.out.blk.keep mG (by simp), H.out.own.setU i x hi⟩, mG⟩
set_option maxRecDepth 100000 in
theorem mlen_walk {ro : Nat → Nat} {r : Nat} {w : World} {B : Nat} {v : Value} {words : List Nat} {op : Bool} {cnt : Int} (h : MemIs ro r w B v words op cnt) :
    Calls Tryz.prog 61 #[.pointer (some ⟨B, 0, none⟩)] w fun e w' => e = .returned (.int .i64 words.length) ∧ w' = w := by
  have hc := h.blk.cell
  obtain ⟨p, c, rfl⟩ := h.own.form
  clear h
  go_enter Tryz.func61, Tryz.ntmps61
  go_wp2
  go_ret
  exact ⟨rfl, rfl⟩
set_option maxRecDepth 100000 in
theorem mcount_walk {ro : Nat → Nat} {r : Nat} {w : World} {B : Nat} {v : Value} {words : List Nat} {op : Bool} {cnt : Int} (h : MemIs ro r w B v words op cnt) :
    Calls Tryz.prog 20 #[.pointer (some ⟨B, 0, none⟩)] w fun e w' => e = .returned (.int .i64 cnt) ∧ w' = w := by
  have hc := h.blk.cell
  clear h
  go_enter Tryz.func20, Tryz.ntmps20
  go_wp2
  go_ret
  exact ⟨rfl, rfl⟩
set_option maxRecDepth 100000 in
theorem open_walk {ro : Nat → Nat} {r : Nat} {w : World} {B : Nat} {v : Value} {words : List Nat} {op : Bool} {cnt : Int} (h : MemIs ro r w B v words op cnt) :
    Calls Tryz.prog 62 #[.pointer (some ⟨B, 0, none⟩)] w fun e w' => e = .returned (.tuple #[]) ∧ MemIs ro r w' B v words true cnt ∧ Mv ro [r] w ro w' := by
  have hc := h.blk.cell
  have hf := h.blk.free
  have H := Lib.hid h
  clear h
  go_enter Tryz.func62, Tryz.ntmps62
  go_wp2
  go_end0
  have mB : Mv ro [r] w ro (w.setCell ⟨B, 1, none⟩ (.bool true)) := (Mv.refl _ _ _).setCell (by rw [H.out.blk.role]; simp) _
  exact ⟨rfl, ⟨H.out.blk.put (i := 1) rfl, H.out.own.keep mB (by simp)⟩, mB⟩
end Go.Proofs.YtphaeodcomgffaaGreat
set_option linter.unusedVariables false
set_option linter.unusedSimpArgs false
namespace Go.Proofs.YtphaeodcomgffaaGreat
open Go.RowKit

theorem wrapU (n : Int) : IntKind.u64.wrap n = n % 18446744073709551616 := by
  unfold IntKind.wrap
  simp [IntKind.signed, IntKind.bits]
def planV (C : Cfg) : Value := .agg #[.int .i64 0, .int .i64 1, .int .i64 2, .int .i64 3, .int .i64 (3 + C.threads), .int .i64 (3 + C.threads + 3 * C.cells)]
/-- Block B is a reader's coming in. -/
def comeC (C : Cfg) (th n : Int) (claim stamp : Nat) : Array Value := #[.int .i64 0, .int .i64 1, .int .i64 2, .int .i64 3, .int .i64 (3 + C.threads), .int .i64 (3 + C.threads + 3 * C.cells), .int .i64 th, .int .i64 n, .int .u64 claim, .int .u64 stamp]

set_option maxRecDepth 100000 in
set_option maxHeartbeats 1000000 in
theorem place_walk (C : Cfg) (th : Int) (h0 : 0 ≤ th) (h1 : th < 8) (w : World) :
    Calls Tryz.prog 106 #[planV C, .int .i64 th] w fun e w' => e = .returned (.tuple #[.int .i64 (3 + th), .int .i64 0]) ∧ Below w.heap.size w w' := by
  unfold planV
  have e1 : ¬ th < 0 := by omega
  have e2 : ¬ 8 ≤ th := by omega
  go_enter Tryz.func106, Tryz.ntmps106
  go_wp2
  go_ret2
  exact ⟨rfl, (Below.refl _ _).alloc (Nat.le_refl _) _⟩

def Came (ro : Nat → Nat) (r a : Nat) (w : World) (C : Cfg) (th : Int) (B : Nat) (n : Int) (claim stamp : Nat) (MB : Nat) (v : Value) (words : List Nat) (op : Bool) (cnt : Int) (done : Bool) (e : Ending) (w' : World) : Prop :=
  e = .returned (.tuple #[.bool done, .int .i64 0]) ∧ Blk ro a w' B (comeC C th n claim stamp) 177 ∧ MemIs ro r w' MB v words op cnt ∧ Mv ro [a, r, r + 1] w ro w'

set_option maxRecDepth 100000 in
set_option maxHeartbeats 1000000 in
theorem come0 {ro : Nat → Nat} {r a : Nat} {w : World} {C : Cfg} {th : Int} {B MB : Nat} {claim stamp : Nat} {v : Value} {words : List Nat} {cnt : Int} (hb : Blk ro a w B (comeC C th 0 claim stamp) 177) (hm : MemIs ro r w MB v words true cnt) (ha : a < r ∨ r + 1 < a) (h0 : 0 ≤ th) (h1 : th < 8) (hl : 3 ≤ words.length) (hl2 : words.length ≤ 4096) (c0 : 0 ≤ cnt) (c1 : cnt ≤ 1000000000) :
    Calls Tryz.prog 63 #[ptr B, ptr MB] w (Came ro r a w C th B 1 (words.getD 2 0) stamp MB v words false (cnt + 1) false) := by
  have hc := hb.cell
  have PW := place_walk C th h0 h1
  have LW : ∀ W, Mv ro [] w ro W → Calls Tryz.prog 19 #[ptr MB, .int .i64 2] W fun e w' => e = .returned (.tuple #[.int .u64 (words.getD 2 0), .int .i64 0]) ∧ MemIs ro r w' MB v words false (cnt + 1) ∧ Mv ro [r] W ro w' := fun W mv => load_ok (hm.keep mv (by simp) (by simp)) 2 (by omega) hl2 c0 c1
  have hW : ∀ W, Mv ro [] w ro W → ∀ o, W.cell? ⟨B, o, none⟩ = (comeC C th 0 claim stamp)[o]? := fun W mv => (hb.keep mv (by simp)).cell
  generalize words.getD 2 0 = y at *
  have HB := Lib.hid hb
  have HM := Lib.hid hm
  unfold comeC at hc hW
  unfold planV at PW
  simp only [ptr] at LW ⊢
  clear hb hm
  go_enter Tryz.func63, Tryz.ntmps63
  go_wp2
  refine wp_region_noPanic ?_
  go_region_law (go_simp; go_at_call 106; refine (PW _).mono ?_; rintro e w1 ⟨rfl, b1⟩; have m1 : Mv ro [] w ro w1 := (Mv.refl ro [] w).drew.then_below b1; have hc1 := hW _ m1)
  all_goals
    refine NoPanic.normal ?_
    go_wp2_with (go_at_call 19; refine (LW _ m1).mono ?_; rintro e w2 ⟨rfl, q2, m2⟩; have b2 := (HB.out.keep m1 (by simp)).keep m2 (by simp; omega); have hc2 := b2.cell; have hf2 := b2.free; unfold comeC at hc2)
    go_ret2
    have hB : ro B ∈ [a] := by rw [b2.role]; simp
    have mB : Mv ro [a] w2 ro ((w2.setCell ⟨B, 8, none⟩ (.int .u64 y)).setCell ⟨B, 7, none⟩ (.int .i64 1)) := ((Mv.refl _ _ _).setCell hB _).setCell hB _
    exact ⟨rfl, (b2.put (i := 8) rfl).put (i := 7) rfl, q2.keep mB (by simp; omega) (by simp; omega), ((m1.mono (by simp)).trans (m2.mono (by simp))).trans (mB.mono (by simp))⟩
set_option maxRecDepth 100000 in
set_option maxHeartbeats 1000000 in
theorem come2 {ro : Nat → Nat} {r a : Nat} {w : World} {C : Cfg} {th : Int} {B MB : Nat} {claim stamp : Nat} {v : Value} {words : List Nat} {cnt : Int} (hb : Blk ro a w B (comeC C th 2 claim stamp) 177) (hm : MemIs ro r w MB v words true cnt) (ha : a < r ∨ r + 1 < a) (h0 : 0 ≤ th) (h1 : th < 8) (hl : 3 ≤ words.length) (hl2 : words.length ≤ 4096) (c0 : 0 ≤ cnt) (c1 : cnt ≤ 1000000000) :
    Calls Tryz.prog 63 #[ptr B, ptr MB] w (Came ro r a w C th B 3 claim (words.getD 2 0) MB v words false (cnt + 1) true) := by
  have hc := hb.cell
  have PW := place_walk C th h0 h1
  have LW : ∀ W, Mv ro [] w ro W → Calls Tryz.prog 19 #[ptr MB, .int .i64 2] W fun e w' => e = .returned (.tuple #[.int .u64 (words.getD 2 0), .int .i64 0]) ∧ MemIs ro r w' MB v words false (cnt + 1) ∧ Mv ro [r] W ro w' := fun W mv => load_ok (hm.keep mv (by simp) (by simp)) 2 (by omega) hl2 c0 c1
  have hW : ∀ W, Mv ro [] w ro W → ∀ o, W.cell? ⟨B, o, none⟩ = (comeC C th 2 claim stamp)[o]? := fun W mv => (hb.keep mv (by simp)).cell
  generalize words.getD 2 0 = y at *
  have HB := Lib.hid hb
  have HM := Lib.hid hm
  unfold comeC at hc hW
  unfold planV at PW
  simp only [ptr] at LW ⊢
  clear hb hm
  go_enter Tryz.func63, Tryz.ntmps63
  go_wp2
  refine wp_region_noPanic ?_
  go_region_law (go_simp; go_at_call 106; refine (PW _).mono ?_; rintro e w1 ⟨rfl, b1⟩; have m1 : Mv ro [] w ro w1 := (Mv.refl ro [] w).drew.then_below b1; have hc1 := hW _ m1)
  all_goals
    refine NoPanic.normal ?_
    go_wp2_with (go_at_call 19; refine (LW _ m1).mono ?_; rintro e w2 ⟨rfl, q2, m2⟩; have b2 := (HB.out.keep m1 (by simp)).keep m2 (by simp; omega); have hc2 := b2.cell; have hf2 := b2.free; unfold comeC at hc2)
    go_ret2
    have hB : ro B ∈ [a] := by rw [b2.role]; simp
    have mB : Mv ro [a] w2 ro ((w2.setCell ⟨B, 9, none⟩ (.int .u64 y)).setCell ⟨B, 7, none⟩ (.int .i64 3)) := ((Mv.refl _ _ _).setCell hB _).setCell hB _
    exact ⟨rfl, (b2.put (i := 9) rfl).put (i := 7) rfl, q2.keep mB (by simp; omega) (by simp; omega), ((m1.mono (by simp)).trans (m2.mono (by simp))).trans (mB.mono (by simp))⟩
set_option maxRecDepth 100000 in
set_option maxHeartbeats 1000000 in
theorem come1 {ro : Nat → Nat} {r a : Nat} {w : World} {C : Cfg} {th : Int} {B MB : Nat} {claim stamp : Nat} {v : Value} {words : List Nat} {cnt : Int} (hb : Blk ro a w B (comeC C th 1 claim stamp) 177) (hm : MemIs ro r w MB v words true cnt) (ha : a < r ∨ r + 1 < a) (h0 : 0 ≤ th) (h1 : th < 8) (hl : 3 + th.toNat < words.length) (hl2 : words.length ≤ 4096) (c0 : 0 ≤ cnt) (c1 : cnt ≤ 1000000000) :
    Calls Tryz.prog 63 #[ptr B, ptr MB] w (Came ro r a w C th B 2 claim stamp MB v (words.set (3 + th.toNat) ((claim + 1) % 18446744073709551616)) false (cnt + 1) false) := by
  have hc := hb.cell
  have PW := place_walk C th h0 h1
  have LW : ∀ W, Mv ro [] w ro W → Calls Tryz.prog 107 #[ptr MB, .int .i64 (3 + th), .int .u64 (((claim + 1) % 18446744073709551616 : Nat) : Int)] W fun e w' => e = .returned (.int .i64 0) ∧ MemIs ro r w' MB v (words.set (3 + th.toNat) ((claim + 1) % 18446744073709551616)) false (cnt + 1) ∧ Mv ro [r, r + 1] W ro w' := fun W mv => by
    have := store_ok (hm.keep mv (by simp) (by simp)) (3 + th.toNat) ((claim + 1) % 18446744073709551616) hl hl2 c0 c1
    rwa [show (((3 + th.toNat : Nat) : Int)) = 3 + th by omega] at this
  have hwrap : IntKind.u64.wrap ((claim : Int) + 1) = (((claim + 1) % 18446744073709551616 : Nat) : Int) := by rw [wrapU]; omega
  have hW : ∀ W, Mv ro [] w ro W → ∀ o, W.cell? ⟨B, o, none⟩ = (comeC C th 1 claim stamp)[o]? := fun W mv => (hb.keep mv (by simp)).cell
  generalize words.set (3 + th.toNat) ((claim + 1) % 18446744073709551616) = words' at *
  generalize (claim + 1) % 18446744073709551616 = y at *
  have HB := Lib.hid hb
  have HM := Lib.hid hm
  unfold comeC at hc hW
  unfold planV at PW
  simp only [ptr] at LW ⊢
  clear hb hm
  go_enter Tryz.func63, Tryz.ntmps63
  go_wp2
  refine wp_region_noPanic ?_
  go_region_law (go_simp; go_at_call 106; refine (PW _).mono ?_; rintro e w1 ⟨rfl, b1⟩; have m1 : Mv ro [] w ro w1 := (Mv.refl ro [] w).drew.then_below b1; have hc1 := hW _ m1)
  all_goals
    refine NoPanic.normal ?_
    go_wp2_with (go_at_call 107; refine (LW _ m1).mono ?_; rintro e w2 ⟨rfl, q2, m2⟩; have b2 := (HB.out.keep m1 (by simp)).keep m2 (by simp; omega); have hc2 := b2.cell; have hf2 := b2.free; unfold comeC at hc2)
    go_ret2
    have hB : ro B ∈ [a] := by rw [b2.role]; simp
    have mB : Mv ro [a] w2 ro (w2.setCell ⟨B, 7, none⟩ (.int .i64 2)) := (Mv.refl _ _ _).setCell hB _
    exact ⟨rfl, b2.put (i := 7) rfl, q2.keep mB (by simp; omega) (by simp; omega), ((m1.mono (by simp)).trans (m2.mono (by simp))).trans (mB.mono (by simp))⟩
theorem alloc2_heap (w : World) (o1 : Obj) (cs : Array Value) (t : TypeId) : ((w.alloc o1).alloc (.cells cs t)).heap[w.heap.size + 1]? = some (.cells cs t (0, 0)) := by
  have := heap_alloc_new (w.alloc o1) (.cells cs t)
  rw [show (w.alloc o1).heap.size = w.heap.size + 1 by simp] at this
  exact this
set_option maxRecDepth 100000 in
theorem newcome_walk (ro : Nat → Nat) (a : Nat) (C : Cfg) (th : Int) (w : World) :
    Calls Tryz.prog 103 #[planV C, .int .i64 th] w fun e w' => ∃ B ro', e = .returned (ptr B) ∧ Blk ro' a w' B (comeC C th 0 0 0) 177 ∧ Mv ro [] w ro' w' := by
  unfold planV
  go_enter Tryz.func103, Tryz.ntmps103
  go_wp2
  go_ret
  refine ⟨w.heap.size + 1, setRo ro (w.heap.size + 1) a, rfl, ⟨?_, setRo_at _ _ _⟩, (((Mv.refl ro [] w).alloc _).alloc _).give (by omega)⟩
  exact alloc2_heap _ _ _ _
set_option maxRecDepth 100000 in
theorem stamp_walk {ro : Nat → Nat} {a : Nat} {w : World} {C : Cfg} {th n : Int} {B : Nat} {claim stamp : Nat} (hb : Blk ro a w B (comeC C th n claim stamp) 177) :
    Calls Tryz.prog 69 #[ptr B] w fun e w' => e = .returned (.int .u64 stamp) ∧ w' = w := by
  have hc := hb.cell
  unfold comeC at hc
  clear hb
  simp only [ptr]
  go_enter Tryz.func69, Tryz.ntmps69
  go_wp2
  go_ret
  exact ⟨rfl, rfl⟩
set_option maxRecDepth 100000 in
set_option maxHeartbeats 1000000 in
theorem leave_walk {ro : Nat → Nat} {r : Nat} {w : World} {C : Cfg} {th : Int} {MB : Nat} {v : Value} {words : List Nat} {cnt : Int} (hm : MemIs ro r w MB v words true cnt) (h0 : 0 ≤ th) (h1 : th < 8) (hl : 3 + th.toNat < words.length) (hl2 : words.length ≤ 4096) (c0 : 0 ≤ cnt) (c1 : cnt ≤ 1000000000) :
    Calls Tryz.prog 65 #[ptr MB, planV C, .int .i64 th] w fun e w' => e = .returned (.int .i64 0) ∧ MemIs ro r w' MB v (words.set (3 + th.toNat) 0) false (cnt + 1) ∧ Mv ro [r, r + 1] w ro w' := by
  have PW := place_walk C th h0 h1
  have LW : ∀ W, Mv ro [] w ro W → Calls Tryz.prog 107 #[ptr MB, .int .i64 (3 + th), .int .u64 0] W fun e w' => e = .returned (.int .i64 0) ∧ MemIs ro r w' MB v (words.set (3 + th.toNat) 0) false (cnt + 1) ∧ Mv ro [r, r + 1] W ro w' := fun W mv => by
    have := store_ok (hm.keep mv (by simp) (by simp)) (3 + th.toNat) 0 hl hl2 c0 c1
    rwa [show (((3 + th.toNat : Nat) : Int)) = 3 + th by omega] at this
  unfold planV at PW ⊢
  simp only [ptr] at LW ⊢
  clear hm
  go_enter Tryz.func65, Tryz.ntmps65
  go_wp2_with (first
    | (go_at_call 106; refine (PW _).mono ?_; rintro e w1 ⟨rfl, b1⟩; have m1 : Mv ro [] w ro w1 := ((Mv.refl ro [] w).alloc _).then_below b1)
    | (go_at_call 107; refine (LW _ m1).mono ?_; rintro e w2 ⟨rfl, q2, m2⟩))
  go_ret
  exact ⟨rfl, q2, (m1.mono (by simp)).trans m2⟩
end Go.Proofs.YtphaeodcomgffaaGreat
