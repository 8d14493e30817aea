import Derived.Test.YtldhlkkclmifmaaA3
namespace Go.Proofs.Ytldhlkkclmifmaa
open Go.RowKit

theorem RIs.cellL {w : World} {b : Nat} {L S n over} (h : RIs w b L S n over) (t : Nat) (ht : t < 8) : w.cell? ⟨b, t, none⟩ = some (.bool (L t)) := by rw [h.cell, rcells_L L S n over t ht]
theorem RIs.cellS {w : World} {b : Nat} {L S n over} (h : RIs w b L S n over) (t : Nat) (ht : t < 8) : w.cell? ⟨b, 8 + t, none⟩ = some (.bool (S t)) := by rw [h.cell, rcells_S L S n over t ht]
theorem RIs.celln {w : World} {b : Nat} {L S n over} (h : RIs w b L S n over) : w.cell? ⟨b, 16, none⟩ = some (.int .i64 n) := h.cell 16
theorem RIs.cello {w : World} {b : Nat} {L S n over} (h : RIs w b L S n over) : w.cell? ⟨b, 17, none⟩ = some (.int .i64 over) := h.cell 17

set_option maxHeartbeats 400000 in
theorem step_bad (w : World) (b : Nat) (L S : Nat → Bool) (n over t : Int) (h : RIs w b L S n over) (ht : t < 0 ∨ n ≤ t) :
    Calls Try.prog 25 #[.pointer (some ⟨b, 0, none⟩), .int .i64 t] w fun e w' => e = .returned (.int .i64 100) ∧ w = w' := by
  have hn := h.celln
  clear h
  by_cases h0 : t < 0
  · go_enter Try.func25, Try.ntmps25
    go_wp2
    go_ret
    exact ⟨rfl, rfl⟩
  · have h1 : n ≤ t := by omega
    clear ht
    go_enter Try.func25, Try.ntmps25
    go_wp2
    go_ret
    exact ⟨rfl, rfl⟩


def Up (w : World) (b : Nat) (L S : Nat → Bool) (n over : Int) (r : Value) (e : Ending) (w' : World) : Prop := e = .returned r ∧ Chg [b] w w' ∧ RIs w' b L S n over

def stepS (L S : Nat → Bool) (t : Nat) : Nat → Bool := if L t then lookS L (upd S t true) else S
def stepN (L S : Nat → Bool) (over : Int) (t : Nat) : Int := if L t then lookN L (upd S t true) over else over
def finL (L : Nat → Bool) (t : Nat) : Nat → Bool := if L t then upd L t false else L
def finS (L S : Nat → Bool) (t : Nat) : Nat → Bool := if L t then lookS (upd L t false) (upd S t false) else S
def finN (L S : Nat → Bool) (over : Int) (t : Nat) : Int := if L t then lookN (upd L t false) (upd S t false) over else over

set_option maxHeartbeats 400000 in
theorem step_any (w : World) (b : Nat) (L S : Nat → Bool) (n over : Int) (t : Nat) (h : RIs w b L S n over) (hn : n ≤ 8) (ht : (t : Int) < n) (h3 : -9223372036854775808 ≤ over) (h4 : over < 9223372036854775807) :
    Calls Try.prog 25 #[.pointer (some ⟨b, 0, none⟩), .int .i64 t] w (Up w b L (stepS L S t) n (stepN L S over t) (.int .i64 0)) := by
  have hcn := h.celln
  have hcl := h.cellL t (by omega)
  have hcs := h.cellS t (by omega)
  have hf := h.free
  have H := Lib.hid h; clear h
  have h8 : t < 8 := by omega
  cases hL : L t
  · rw [hL] at hcl
    have HL := Lib.hid hL; clear hL
    go_enter Try.func25, Try.ntmps25
    go_wp2
    go_ret
    refine ⟨rfl, Chg.refl _ _, ?_⟩
    simp only [stepS, stepN, HL.out]
    exact H.out
  · rw [hL] at hcl
    have HL := Lib.hid hL; clear hL
    have c1 : Chg [b] w (w.setCell ⟨b, 8 + t, none⟩ (.bool true)) := (Chg.refl _ _).setCell (.inl (by simp)) _
    have k1 : RIs (w.setCell ⟨b, 8 + t, none⟩ (.bool true)) b L (upd S t true) n over := heap_put H.out (rcells_setS L S n over true t h8)
    have C1 := Lib.hid c1; clear c1
    have K1 := Lib.hid k1; clear k1
    go_enter Try.func25, Try.ntmps25
    go_wp2_with (go_at_call 37; refine (look_any _ b L (upd S t true) n over K1.out h3 h4).mono ?_; rintro e w' ⟨rfl, c2, k2⟩; have C2 := Lib.hid c2; clear c2; have K2 := Lib.hid k2; clear k2)
    go_ret
    refine ⟨rfl, C1.out.trans C2.out, ?_⟩
    simp only [stepS, stepN, HL.out]
    exact K2.out

set_option maxHeartbeats 400000 in
theorem fin_bad (w : World) (b : Nat) (L S : Nat → Bool) (n over t : Int) (h : RIs w b L S n over) (ht : t < 0 ∨ n ≤ t) :
    Calls Try.prog 26 #[.pointer (some ⟨b, 0, none⟩), .int .i64 t] w fun e w' => e = .returned (.int .i64 100) ∧ w = w' := by
  have hn := h.celln
  clear h
  by_cases h0 : t < 0
  · go_enter Try.func26, Try.ntmps26
    go_wp2
    go_ret
    exact ⟨rfl, rfl⟩
  · have h1 : n ≤ t := by omega
    clear ht
    go_enter Try.func26, Try.ntmps26
    go_wp2
    go_ret
    exact ⟨rfl, rfl⟩

set_option maxHeartbeats 400000 in
theorem fin_any (w : World) (b : Nat) (L S : Nat → Bool) (n over : Int) (t : Nat) (h : RIs w b L S n over) (hn : n ≤ 8) (ht : (t : Int) < n) (h3 : -9223372036854775808 ≤ over) (h4 : over < 9223372036854775807) :
    Calls Try.prog 26 #[.pointer (some ⟨b, 0, none⟩), .int .i64 t] w (Up w b (finL L t) (finS L S t) n (finN L S over t) (.int .i64 0)) := by
  have hcn := h.celln
  have hcl := h.cellL t (by omega)
  have hcs := h.cellS t (by omega)
  have hf := h.free
  have H := Lib.hid h; clear h
  have h8 : t < 8 := by omega
  cases hL : L t
  · rw [hL] at hcl
    have HL := Lib.hid hL; clear hL
    go_enter Try.func26, Try.ntmps26
    go_wp2
    go_ret
    refine ⟨rfl, Chg.refl _ _, ?_⟩
    simp only [finL, finS, finN, HL.out]
    exact H.out
  · rw [hL] at hcl
    have HL := Lib.hid hL; clear hL
    have c1 : Chg [b] w ((w.setCell ⟨b, t, none⟩ (.bool false)).setCell ⟨b, 8 + t, none⟩ (.bool false)) := ((Chg.refl _ _).setCell (.inl (by simp)) _).setCell (.inl (by simp)) _
    have k0 : RIs (w.setCell ⟨b, t, none⟩ (.bool false)) b (upd L t false) S n over := heap_put H.out (rcells_setL L S n over false t h8)
    have hcs1 := k0.cellS t h8
    have hf1 := k0.free
    have k1 : RIs ((w.setCell ⟨b, t, none⟩ (.bool false)).setCell ⟨b, 8 + t, none⟩ (.bool false)) b (upd L t false) (upd S t false) n over := heap_put k0 (rcells_setS _ S n over false t h8)
    have C1 := Lib.hid c1; clear c1
    have K1 := Lib.hid k1; clear k1
    clear k0
    go_enter Try.func26, Try.ntmps26
    go_wp2_with (go_at_call 37; refine (look_any _ b (upd L t false) (upd S t false) n over K1.out h3 h4).mono ?_; rintro e w' ⟨rfl, c2, k2⟩; have C2 := Lib.hid c2; clear c2; have K2 := Lib.hid k2; clear k2)
    go_ret
    refine ⟨rfl, C1.out.trans C2.out, ?_⟩
    simp only [finL, finS, finN, HL.out]
    exact K2.out

set_option maxHeartbeats 400000 in
theorem over_any (w : World) (b : Nat) (L S : Nat → Bool) (n over : Int) (h : RIs w b L S n over) :
    Calls Try.prog 24 #[.pointer (some ⟨b, 0, none⟩)] w fun e w' => e = .returned (.int .i64 over) ∧ w = w' := by
  have hcn := h.cello
  clear h
  go_enter Try.func24, Try.ntmps24
  go_wp2
  go_ret
  exact ⟨rfl, rfl⟩

def Clo (w : World) (L S : Nat → Bool) (n over : Int) (e : Ending) (w' : World) : Prop := ∃ b, e = .returned (.pointer (some ⟨b, 0, none⟩)) ∧ w.heap.size ≤ b ∧ Chg [] w w' ∧ RIs w' b L S n over

theorem under57 : Try.prog.underlying 57 = some (.struct (Try.prog.fieldsOf 57)) := by kernel_rfl
theorem size57 (cs : Array Value) (h : cs.size = 18) : (Try.prog.info? 57).map (·.size) = some cs.size := by rw [h]; kernel_rfl
theorem rcells_all (L S : Nat → Bool) (n over : Int) : (rcells L S n over).all (·.oneCell') = true := by simp [rcells, Value.oneCell']
set_option maxHeartbeats 400000 in
theorem clone_any (w : World) (b : Nat) (L S : Nat → Bool) (n over : Int) (h : RIs w b L S n over) :
    Calls Try.prog 32 #[.pointer (some ⟨b, 0, none⟩)] w (Clo w L S n over) := by
  have H := Lib.hid h; clear h
  go_enter Try.func32, Try.ntmps32
  go_wp2_with (first | refine wpList_load_row rfl 57 _ rfl b rfl 57 (rcells L S n over) (0, 0) _ H.out under57 rfl (size57 _ rfl) ?_ | refine wpList_store_row rfl 57 _ _ rfl w.heap.size (rcells L S n over) rfl rfl 57 _ (heap_alloc_new _ _) (size57 _ rfl) rfl (rcells_all _ _ _ _) ?_)
  go_outline
  go_ret
  exact ⟨w.heap.size, rfl, Nat.le_refl _, ((Chg.refl [] w).alloc _).setRow (by simp) _, setRow_heap _ _ _ _ _ _ (heap_alloc_new _ _)⟩

set_option maxHeartbeats 400000 in
theorem new_bad (n : Int) (w : World) (h : n < 1 ∨ 8 < n) :
    Calls Try.prog 11 #[.int .i64 n] w fun e w' => e = .returned (.tuple #[.pointer none, .int .i64 1]) ∧ w = w' := by
  by_cases h0 : n < 1
  · go_enter Try.func11, Try.ntmps11
    go_wp2
    go_ret2
    exact ⟨rfl, rfl⟩
  · have h1 : 8 < n := by omega
    clear h
    go_enter Try.func11, Try.ntmps11
    go_wp2
    go_ret2
    exact ⟨rfl, rfl⟩

end Go.Proofs.Ytldhlkkclmifmaa
