import Derived.Test.YtldhlkkclmifmaaA4
namespace Go.Proofs.Ytldhlkkclmifmaa
open Go.RowKit

theorem info3 : (Try.prog.info? 3).map (fun i => (i.zero, i.size, i.bytes)) = some (some (.int .i64 0), 1, 8) := by kernel_rfl
theorem under26 : Try.prog.underlying 26 = some (.slice 3) := by kernel_rfl

/-- v owns, from block B on, a row that holds the whole numbers l. -/
def OwnI (w : World) (B : Nat) (v : Value) (l : List Int) : Prop := w.ownsRow B 3 1 v l.length (l.map (Value.int .i64))

theorem OwnI.nil (w : World) (B : Nat) : OwnI w B (.slice none 0 0) [] := ⟨rfl, .inl ⟨rfl, rfl⟩⟩

/-- append of one whole number to a slice of the call's own. -/
theorem push_int {wr : World} {k : Int} {T : TypeId} {ops : Array Oper} {rest : List Oper} {o : Oper} {a : Act} {Q : Exit → Act → World → Prop} (hgd : o.guard = none) (s x : Operand)
    (ho : o.op = .call { callee := .builtin .append, args := #[s, x], argTypes := #[26, 26] })
    (B : Nat) (l : List Int) (v : Value) (hs : a.eval s = v) (hown : OwnI wr B v l) (hx : a.eval x = .slice (some ⟨wr.heap.size, 0, none⟩) 1 1)
    (h63 : l.length < 1000000000000) (hB : B ≤ wr.heap.size)
    (h : ∀ v' w', OwnI w' B v' (l ++ [k]) → (wr.alloc (.cells #[.int .i64 k] T)).grownBy w' v.ownBlock → wpList Try.prog ops Q rest (a.put o.dst v') w') :
    wpList Try.prog ops Q (o :: rest) a (wr.alloc (.cells #[.int .i64 k] T)) := by
  obtain ⟨i0, hi, hz0, hz1, hz2⟩ := info_parts info3
  refine wpList_append_own _ hgd s x 26 ho B 3 i0 (.int .i64 0) 1 8 under26 hi hz0 hz1 hz2 rfl (by decide) v l.length _ hs (hown.alloc _) ⟨wr.heap.size, 0, none⟩ 1 1 [.int .i64 k] hx rfl ?_ ?_ ?_ ?_ ?_ ?_
  · intro j u hj
    match j, hj with
    | 0, hj => simp at hj; subst hj; exact cell_of_row _ _ _ _ _ _ (heap_alloc_new _ _)
  · intro u hu; simp at hu; subst hu; rfl
  · unfold maxLen; omega
  · omega
  · simp; omega
  · intro v' w' h1 h2 _
    refine h v' w' ?_ h2
    simpa [OwnI] using h1
theorem OwnI.blk {w : World} {B : Nat} {v : Value} {l : List Int} (h : OwnI w B v l) : ∀ k, v.ownBlock = some k → B ≤ k ∧ k < w.heap.size := fun k hk => ⟨(World.ownsRow.lt h k hk).1, (World.ownsRow.lt h k hk).2⟩

def dueL (L S : Nat → Bool) (k : Nat) : List Int := ((List.range k).filter fun t => L t && !S t).map (fun t : Nat => (t : Int))
theorem dueL_le (L S : Nat → Bool) (k : Nat) : (dueL L S k).length ≤ k := by simpa [dueL] using List.length_filter_le (fun t => L t && !S t) (List.range k)
theorem dueL_hit {L S : Nat → Bool} {k : Nat} (h : L k = true) (h2 : S k = false) : dueL L S (k + 1) = dueL L S k ++ [(k : Int)] := by simp [dueL, List.range_succ, List.filter_append, h, h2]
theorem dueL_miss {L S : Nat → Bool} {k : Nat} (h : (L k && !S k) = false) : dueL L S (k + 1) = dueL L S k := by
  simp only [dueL, List.range_succ, List.filter_append, List.map_append]; simp [h]

def DuePost (w : World) (l : List Int) (e : Ending) (w' : World) : Prop := ∃ v, e = .returned v ∧ OwnI w' w.heap.size v l ∧ Chg [] w w'

set_option maxHeartbeats 400000 in
theorem due_any (w : World) (b : Nat) (L S : Nat → Bool) (n : Nat) (over : Int) (h : RIs w b L S n over) (hn : n ≤ 8) :
    Calls Try.prog 12 #[.pointer (some ⟨b, 0, none⟩)] w (DuePost w (dueL L S n)) := by
  have H := Lib.hid h
  have hcn := h.celln
  clear h
  go_enter Try.func12, Try.ntmps12
  go_wp2
  go_loopw [3, 9] (fun v i wr => ∃ k : Nat, k ≤ n ∧ i = .int .i64 k ∧ OwnI wr w.heap.size v (dueL L S k) ∧ Chg [] w wr) (fun _ i _ => n - (intOf i).toNat)
  case atStart => exact ⟨0, Nat.zero_le _, rfl, OwnI.nil _ _, Chg.refl _ _⟩
  case round =>
    obtain ⟨k, hk, rfl, hown, hchg⟩ := hrel
    have hr := H.out.keep hchg (by simp)
    have hlen := dueL_le L S k
    have OWN := Lib.hid hown; clear hown
    have CHG := Lib.hid hchg; clear hchg
    by_cases hkn : k < n
    · have hcl := hr.cellL k (by omega)
      have hcs := hr.cellS k (by omega)
      have hblk := OWN.out.blk
      have HR := Lib.hid hr; clear hr
      clear hcn
      cases hL : L k
      · rw [hL] at hcl
        have E := Lib.hid (dueL_miss (L := L) (S := S) (k := k) (by simp [hL]))
        clear hL
        go_wp2
        go_roundw
        case rel => exact ⟨k + 1, by omega, by go_num, by rw [E.out]; exact OWN.out, CHG.out⟩
        case measure => simp [intOf]; omega
      · cases hS : S k
        · rw [hL] at hcl
          rw [hS] at hcs
          have E := Lib.hid (dueL_hit hL hS)
          clear hL hS
          go_wp2_with (at_builtin; refine push_int rfl _ _ rfl w.heap.size (dueL L S k) _ rfl OWN.out rfl (by omega) CHG.out.size ?_; intro v' w1 hown1 hgrow; have OWN1 := Lib.hid hown1; clear hown1; have GR := Lib.hid hgrow; clear hgrow)
          go_roundw
          case rel => exact ⟨k + 1, by omega, by go_num, by rw [E.out]; exact OWN1.out, (CHG.out.alloc _).grown GR.out fun j hj => .inr (hblk j hj).1⟩
          case measure => simp [intOf]; omega
        · rw [hL] at hcl
          rw [hS] at hcs
          have E := Lib.hid (dueL_miss (L := L) (S := S) (k := k) (by simp [hS]))
          clear hL hS
          go_wp2
          go_roundw
          case rel => exact ⟨k + 1, by omega, by go_num, by rw [E.out]; exact OWN.out, CHG.out⟩
          case measure => simp [intOf]; omega
    · have : k = n := by omega
      subst this
      clear hcn
      go_wp2
      go_ret
      exact ⟨_, rfl, OWN.out, CHG.out⟩

def liveN (n : Int) : Nat → Bool := fun i => decide ((i : Int) < n)
def none8 : Nat → Bool := fun _ => false

set_option maxHeartbeats 400000 in
theorem new_any (n : Nat) (w : World) (h : 1 ≤ n) (h1 : n ≤ 8) :
    Calls Try.prog 11 #[.int .i64 n] w fun e w' => e = .returned (.tuple #[.pointer (some ⟨w.heap.size, 0, none⟩), .int .i64 0]) ∧ Chg [] w w' ∧ RIs w' w.heap.size (liveN n) none8 n 0 := by
  go_enter Try.func11, Try.ntmps11
  go_wp2
  go_loopw [16] (fun i wr => ∃ k : Nat, k ≤ n ∧ i = .int .i64 k ∧ RIs wr w.heap.size (liveN k) none8 n 0 ∧ Chg [] w wr) (fun i _ => n - (intOf i).toNat)
  case atStart => exact ⟨0, Nat.zero_le _, rfl, by exact heap_alloc_new _ _, (Chg.refl _ _).alloc _⟩
  case round =>
    obtain ⟨k, hk, rfl, hr, hchg⟩ := hrel
    by_cases hkn : k < n
    · have hcl := hr.cellL k (by omega)
      have hf := hr.free
      have R1 : Hid (RIs (wr.setCell ⟨w.heap.size, k, none⟩ (.bool true)) w.heap.size (liveN ((k + 1 : Nat) : Int)) none8 n 0) := by
        have := rcells_setL (liveN k) none8 n 0 true k (by omega)
        rw [show upd (liveN k) k true = liveN ((k + 1 : Nat) : Int) from funext fun i => by simp only [upd, liveN]; split <;> simp <;> omega] at this
        exact heap_put hr this
      have C1 : Hid (Chg [] w (wr.setCell ⟨w.heap.size, k, none⟩ (.bool true))) := hchg.setCell (by simp) _
      clear hr hchg
      go_wp2
      go_roundw
      case rel => exact ⟨k + 1, by omega, by go_num, R1.out, C1.out⟩
      case measure => simp [intOf]; omega
    · have : k = n := by omega
      subst this
      have HR := Lib.hid hr; clear hr
      have CHG := Lib.hid hchg; clear hchg
      go_wp2
      go_ret2
      exact ⟨rfl, CHG.out, HR.out⟩

/-! The contracts at whole numbers as they stand at a call. -/
theorem new_at (w : World) (m : Int) (h : 1 ≤ m) (h1 : m ≤ 8) :
    Calls Try.prog 11 #[.int .i64 m] w fun e w' => e = .returned (.tuple #[.pointer (some ⟨w.heap.size, 0, none⟩), .int .i64 0]) ∧ Chg [] w w' ∧ RIs w' w.heap.size (liveN m) none8 m 0 := by
  obtain ⟨n, rfl⟩ := Int.eq_ofNat_of_zero_le (show 0 ≤ m by omega)
  exact new_any n w (by omega) (by omega)
theorem due_at (w : World) (b : Nat) (L S : Nat → Bool) (m : Int) (over : Int) (h : RIs w b L S m over) (h0 : 0 ≤ m) (hn : m ≤ 8) :
    Calls Try.prog 12 #[.pointer (some ⟨b, 0, none⟩)] w (DuePost w (dueL L S m.toNat)) := by
  obtain ⟨n, rfl⟩ := Int.eq_ofNat_of_zero_le h0
  exact due_any w b L S n over h (by omega)
theorem step_at (w : World) (b : Nat) (L S : Nat → Bool) (n over t : Int) (h : RIs w b L S n over) (hn : n ≤ 8) (h0 : 0 ≤ t) (ht : t < n) (h3 : -9223372036854775808 ≤ over) (h4 : over < 9223372036854775807) :
    Calls Try.prog 25 #[.pointer (some ⟨b, 0, none⟩), .int .i64 t] w (Up w b L (stepS L S t.toNat) n (stepN L S over t.toNat) (.int .i64 0)) := by
  obtain ⟨k, rfl⟩ := Int.eq_ofNat_of_zero_le h0
  exact step_any w b L S n over k h hn ht h3 h4
theorem fin_at (w : World) (b : Nat) (L S : Nat → Bool) (n over t : Int) (h : RIs w b L S n over) (hn : n ≤ 8) (h0 : 0 ≤ t) (ht : t < n) (h3 : -9223372036854775808 ≤ over) (h4 : over < 9223372036854775807) :
    Calls Try.prog 26 #[.pointer (some ⟨b, 0, none⟩), .int .i64 t] w (Up w b (finL L t.toNat) (finS L S t.toNat) n (finN L S over t.toNat) (.int .i64 0)) := by
  obtain ⟨k, rfl⟩ := Int.eq_ofNat_of_zero_le h0
  exact fin_any w b L S n over k h hn ht h3 h4

end Go.Proofs.Ytldhlkkclmifmaa
