import Derived.Test.YtjlnhifleepnoaaGreatDoorP3
import Derived.Lib.AppendIntMem
set_option linter.unusedVariables false
set_option linter.unusedSimpArgs false
namespace Go.Proofs.YtjlnhifleepnoaaGreatDoor
open Go.RowKit Go.Sort

set_option maxRecDepth 100000 in
/-- internal/strconv.FormatUint at base 10. -/
theorem iformat10 (u : Nat) (w : World) (hu64 : u < 18446744073709551616) (L : Laid w) :
    Calls Tryz.prog 59 #[.int .u64 u, .int .i64 10] w fun e w' => e = .returned (.string (S (Lib.decDigits u))) ∧ Below w.heap.size w w' := by
  by_cases hs : u < 100
  · go_enter Tryz.func59, Tryz.ntmps59
    go_wp2_with (go_at_call 75; refine (Tryz.internal_strconv_small u hs _).mono ?_; rintro e w' ⟨rfl, rfl⟩)
    go_ret
    exact ⟨rfl, Below.refl _ _⟩
  · have hu1 : 1 ≤ u := by omega
    have hnd20 : Lib.nDigits u ≤ 20 := by have := Lib.numDigits_eq u hu1 hu64; split at this <;> omega
    have hb3 : Lib.nDigits u ≤ 24 := by omega
    have hal : Tryz.prog.arrayLen 110 = 24 := by kernel_rfl
    have hsl1 : ∀ W, (Instr.sliceAt 110 (.pointer (some ⟨w.heap.size, 0, none⟩)) none (some (.int .i64 (Lib.nDigits u : Int))) none).run Tryz.prog W = .ok (.slice (some ⟨w.heap.size, 0, none⟩) (Lib.nDigits u) 24) W := fun W => by
      rw [run_sliceAt_array_h W 110 ⟨w.heap.size, 0, none⟩ (by kernel_rfl) .i64 (Lib.nDigits u : Int) (by omega) (by rw [hal]; omega)]
      go_simp
    have hH0 := Lib.holds_zero0 w 110 (Lib.nDigits u) (by omega)
    have hfmt := Tryz.internal_strconv_formatBase10 w.heap.size 0 24 u (Array.replicate (Lib.nDigits u) 0) (w.alloc (.cells Lib.zeros24 110)) hH0 (by rw [Array.size_replicate]; exact Lib.lt_pow_nDigits u) hu64 (by rw [Array.size_replicate]; omega)
    rw [Array.size_replicate] at hfmt
    have HH0 := Lib.hid hH0
    have htab := L.tab
    clear hH0 hal L
    go_enter Tryz.func59, Tryz.ntmps59
    go_wp2_with (first | (go_at_call 76; refine (Tryz.internal_strconv_numDigits u hu1 hu64 _ (Lib.tabIs_alloc htab _)).mono ?_; rintro e w' ⟨rfl, rfl⟩))
    go_at_call 77
    refine hfmt.mono ?_
    rintro e w' ⟨rfl, k, v', dk, rfl, hF⟩
    have hcv : (convert 49 9 (.slice (some ⟨w.heap.size, 0, none⟩) (Lib.nDigits u) 24)).run Tryz.prog ((putRow (fun (b : UInt8) => Value.int .u8 (b.toNat : Int)) (w.alloc (.cells Lib.zeros24 110)) w.heap.size 0 dk).drewN k) = .ok (.string ⟨(Lib.decDigits u).toArray⟩) ((putRow (fun (b : UInt8) => Value.int .u8 (b.toNat : Int)) (w.alloc (.cells Lib.zeros24 110)) w.heap.size 0 dk).drewN k) := by
      have h := run_convert_bytes_back (P := Tryz.prog) ((putRow (fun (b : UInt8) => Value.int .u8 (b.toNat : Int)) (w.alloc (.cells Lib.zeros24 110)) w.heap.size 0 dk).drewN k) 49 9 5 ⟨w.heap.size, 0, none⟩ 24 (Lib.decDigits u) (by kernel_rfl) (by kernel_rfl) (by kernel_rfl) (fun j hj => by
        rw [Lib.row_is_numeral hF j hj, Lib.add_plain, World.cell?_drewN]
        exact cell?_putRow (fun (b : UInt8) => Value.int .u8 (b.toNat : Int)) _ w.heap.size 0 _ dk HH0.out (by rw [hF.size, Array.size_replicate]) j (by rw [hF.size]; rw [Lib.decDigits_length] at hj; exact hj))
      rw [Lib.decDigits_length] at h
      exact h
    go_wp2
    go_ret
    obtain ⟨os, eo⟩ := Lib.fin_at w (.cells Lib.zeros24 110) dk k 0
    refine ⟨rfl, ?_⟩
    have e := below_grow w k os
    rw [← eo] at e
    exact e
theorem format10 (u : Nat) (w : World) (hu64 : u < 18446744073709551616) (L : Laid w) :
    Calls Tryz.prog 46 #[.int .u64 u, .int .i64 10] w fun e w' => e = .returned (.string (S (Lib.decDigits u))) ∧ Below w.heap.size w w' := by
  go_enter Tryz.func46, Tryz.ntmps46
  go_wp2_with (go_at_call 59; refine (iformat10 u _ hu64 L).mono ?_; rintro e w' ⟨rfl, bel⟩)
  go_ret
  exact ⟨rfl, bel⟩

def pu31 (l : List UInt8) : Lib.NumEnd Nat := puAll 10 1844674407370955162 2147483647 l
def wholeN (l : List UInt8) : Int := match pu31 l with
  | .ok v => if Lib.decDigits v = l then v else 0
  | _ => 0
def wholeE (l : List UInt8) : Int := match pu31 l with
  | .ok v => if Lib.decDigits v = l then 0 else 20
  | _ => 20
def WholePost (n f : Int) (w : World) (e : Ending) (w' : World) : Prop := e = .returned (.tuple #[.int .i64 n, .int .i64 f]) ∧ Below w.heap.size w w'
theorem pu31_le {l : List UInt8} {v : Nat} (h : pu31 l = .ok v) : v ≤ 2147483647 := by
  have key : ∀ (l : List UInt8) acc v, pu 10 1844674407370955162 2147483647 acc l = .ok v → acc ≤ 2147483647 → v ≤ 2147483647 := by
    intro l
    induction l with
    | nil => intro acc v h ha; simp [pu] at h; omega
    | cons c r ih =>
      intro acc v h ha
      simp only [pu] at h
      split at h
      · cases h
      · split at h
        · cases h
        · split at h
          · cases h
          · exact ih _ _ h (by omega)
  unfold pu31 puAll at h
  split at h
  · cases h
  · exact key l 0 v h (by omega)

set_option maxRecDepth 100000 in
/-- text.Whole. -/
theorem whole_walk (s : ByteArray) (w : World) (L : Laid w) (hs : s.size ≤ 281474976710656) : Calls Tryz.prog 41 #[.string s] w (WholePost (wholeN s.toList) (wholeE s.toList) w) := by
  have PU : ∀ W, Laid W → Calls Tryz.prog 53 #[.string s, .int .i64 10, .int .i64 31] W (PuPost 2147483647 (pu31 s.toList) W) := fun W l => by
    rw [ByteArray.toList_eq]
    exact pu10 s hs W l
  unfold PuPost at PU
  unfold wholeN wholeE WholePost
  have LD := Lib.hid L
  clear L
  cases hr : pu31 s.toList with
  | ok v =>
    have hv := pu31_le hr
    have FW : ∀ W, Laid W → Calls Tryz.prog 46 #[.int .u64 v, .int .i64 10] W fun e w' => e = .returned (.string (S (Lib.decDigits v))) ∧ Below W.heap.size W w' := fun W l => format10 v W (by omega) l
    have PU' : ∀ W, Laid W → Calls Tryz.prog 53 #[.string s, .int .i64 10, .int .i64 31] W fun e w' => e = .returned (.tuple #[.int .u64 v, .nilIface]) ∧ Below W.heap.size W w' := fun W l => (PU W l).mono fun e w' ⟨er, h1, h2, h3⟩ => by
      rw [hr] at h1 h2
      rcases h2 with ⟨_, rfl⟩ | ⟨h2, _⟩
      · exact ⟨h1, h3⟩
      · exact absurd rfl (h2 v)
    clear PU hr
    simp only
    by_cases hq : Lib.decDigits v = s.toList
    · rw [if_pos hq, if_pos hq]
      have t1 : ((S (Lib.decDigits v)).toList == s.toList) = true := by simp [S, hq]
      clear hq
      go_enter Tryz.func41, Tryz.ntmps41
      go_wp2_with (first | (go_at_call 53; refine (PU' _ LD.out).mono ?_; rintro e w1 ⟨rfl, b1⟩; have B1 := Lib.hid b1; clear b1) | (go_at_call 46; refine (FW _ (LD.out.below B1.out)).mono ?_; rintro e w2 ⟨rfl, b2⟩; have B2 := Lib.hid b2; clear b2))
      go_ret2
      exact ⟨rfl, B1.out.trans (B2.out.mono B1.out.size)⟩
    · rw [if_neg hq, if_neg hq]
      have t1 : ((S (Lib.decDigits v)).toList == s.toList) = false := by simp [S, hq]
      clear hq
      go_enter Tryz.func41, Tryz.ntmps41
      go_wp2_with (first | (go_at_call 53; refine (PU' _ LD.out).mono ?_; rintro e w1 ⟨rfl, b1⟩; have B1 := Lib.hid b1; clear b1) | (go_at_call 46; refine (FW _ (LD.out.below B1.out)).mono ?_; rintro e w2 ⟨rfl, b2⟩; have B2 := Lib.hid b2; clear b2))
      go_ret2
      exact ⟨rfl, B1.out.trans (B2.out.mono B1.out.size)⟩
  | range =>
    have PU' : ∀ W, Laid W → Calls Tryz.prog 53 #[.string s, .int .i64 10, .int .i64 31] W fun e w' => (∃ N, e = .returned (.tuple #[.int .u64 2147483647, .iface 123 (.pointer (some ⟨N, 0, none⟩))])) ∧ Below W.heap.size W w' := fun W l => (PU W l).mono fun e w' ⟨er, h1, h2, h3⟩ => by
      rw [hr] at h1 h2
      rcases h2 with ⟨⟨_, h2⟩, _⟩ | ⟨h2, N, rfl⟩
      · cases h2
      · exact ⟨⟨N, h1⟩, h3⟩
    clear PU hr
    simp only
    go_enter Tryz.func41, Tryz.ntmps41
    go_wp2_with (first | (go_at_call 53; refine (PU' _ LD.out).mono ?_; rintro e w1 ⟨⟨N, rfl⟩, b1⟩; have B1 := Lib.hid b1; clear b1))
    go_ret2
    exact ⟨rfl, B1.out⟩
  | _ =>
    have PU' : ∀ W, Laid W → Calls Tryz.prog 53 #[.string s, .int .i64 10, .int .i64 31] W fun e w' => (∃ N, e = .returned (.tuple #[.int .u64 0, .iface 123 (.pointer (some ⟨N, 0, none⟩))])) ∧ Below W.heap.size W w' := fun W l => (PU W l).mono fun e w' ⟨er, h1, h2, h3⟩ => by
      rw [hr] at h1 h2
      rcases h2 with ⟨⟨_, h2⟩, _⟩ | ⟨h2, N, rfl⟩
      · cases h2
      · exact ⟨⟨N, h1⟩, h3⟩
    clear PU hr
    simp only
    go_enter Tryz.func41, Tryz.ntmps41
    go_wp2_with (first | (go_at_call 53; refine (PU' _ LD.out).mono ?_; rintro e w1 ⟨⟨N, rfl⟩, b1⟩; have B1 := Lib.hid b1; clear b1))
    go_ret2
    exact ⟨rfl, B1.out⟩
end Go.Proofs.YtjlnhifleepnoaaGreatDoor
