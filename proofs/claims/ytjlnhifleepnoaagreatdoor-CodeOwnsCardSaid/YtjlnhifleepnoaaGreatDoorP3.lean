import Derived.Test.YtjlnhifleepnoaaGreatDoorP2
import Derived.Test.YtjlnhifleepnoaaGreatDoorC5
import Derived.Shelf.Strconv.ToError
import Derived.Shelf.Strconv.ToErrorRange
set_option linter.unusedVariables false
set_option linter.unusedSimpArgs false
namespace Go.Proofs.YtjlnhifleepnoaaGreatDoor
open Go.RowKit

def puVal (M : Nat) : Lib.NumEnd Nat → Nat
  | .ok v => v
  | .syntax => 0
  | .range => M
/-- What strconv.ParseUint hands back: the number; no error just where all went well. -/
def PuPost (M : Nat) (r : Lib.NumEnd Nat) (w : World) (e : Ending) (w' : World) : Prop :=
  ∃ er, e = .returned (.tuple #[.int .u64 (puVal M r), er]) ∧ ((∃ v, r = .ok v) ∧ er = .nilIface ∨ (∀ v, r ≠ .ok v) ∧ ∃ N, er = .iface 123 (.pointer (some ⟨N, 0, none⟩))) ∧ Below w.heap.size w w'

theorem toErr_syn (fn s : ByteArray) (base bits : Int) (ev : Value) (w : World) (hlim : s.size ≤ 281474976710656) (hv : w.cell? ⟨3, 0, none⟩ = some ev) (hev : ev = .nilIface ∨ ∃ te pe, ev = .iface te pe) :
    Calls Tryz.prog 72 #[.string fn, .string s, .int .i64 base, .int .i64 bits, .iface 121 (.int .i64 2)] w fun e w' => ∃ N, e = .returned (.iface 123 (.pointer (some ⟨N, 0, none⟩))) ∧ w.heap.size ≤ N ∧ w'.heap[N]? = some (.cells #[.string fn, .string s, ev] 134 (0, 0)) ∧ Below w.heap.size w w' :=
  Any.strconv_toError_syntax Tryz.laysC245 fn s base bits ev w hlim hv hev

theorem tab_below {w w' : World} (h : Lib.TabIs Tryz.prog w "internal/strconv.uint64pow10" .u64 Lib.pow10Tab) (b : Below w.heap.size w w') (hl : 2 < w.heap.size) : Lib.TabIs Tryz.prog w' "internal/strconv.uint64pow10" .u64 Lib.pow10Tab := by
  have hg : Tryz.prog.globalNamed "internal/strconv.uint64pow10" = some 2 := by kernel_rfl
  unfold Lib.TabIs World.var? at h ⊢
  simp only [hg] at h ⊢
  simpa [b.block 2 hl] using h
theorem Laid.below {w w' : World} (L : Laid w) (b : Below w.heap.size w w') : Laid w' := by
  have keep : ∀ g o v, w.cell? ⟨g, o, none⟩ = some v → w'.cell? ⟨g, o, none⟩ = some v := fun g o v h => by
    rw [World.cell?_of_block (w := w) (b.block g (block_lt_of_cell h))]
    exact h
  refine ⟨keep _ _ _ L.tz, ?_, ?_, ?_⟩
  · exact tab_below L.tab b (by have : 6 < w.heap.size := block_lt_of_cell L.tz; omega)
  · obtain ⟨t, p, h⟩ := L.syn
    exact ⟨t, p, keep _ _ _ h⟩
  · obtain ⟨t, p, h⟩ := L.rng
    exact ⟨t, p, keep _ _ _ h⟩

theorem pu10 (t : ByteArray) (hmax : t.size ≤ 281474976710656) (w : World) (L : Laid w) :
    Calls Tryz.prog 53 #[.string t, .int .i64 10, .int .i64 31] w (PuPost 2147483647 (puAll 10 1844674407370955162 2147483647 t.data.toList) w) := by
  have IW := ipu_10_31 t (by omega) w
  cases hr : puAll 10 1844674407370955162 2147483647 t.data.toList with
  | ok v =>
    rw [hr] at IW
    simp only [puTuple] at IW
    go_enter Tryz.func53, Tryz.ntmps53
    go_wp2_with (go_at_call 71; refine IW.mono ?_; rintro e w1 ⟨rfl, b1⟩; have B1 := Lib.hid b1; clear b1)
    go_ret2
    exact ⟨_, rfl, .inl ⟨⟨v, rfl⟩, rfl⟩, B1.out⟩
  | range =>
    rw [hr] at IW
    simp only [puTuple] at IW
    go_enter Tryz.func53, Tryz.ntmps53
    go_wp2_with (first | (go_at_call 71; refine IW.mono ?_; rintro e w1 ⟨rfl, b1⟩; obtain ⟨tt, pp, ss⟩ := (L.below b1).rng; have B1 := Lib.hid b1; clear b1) | (go_at_call 72; refine (Tryz.strconv_toError_range _ _ _ _ _ _ hmax ss (.inr ⟨_, _, rfl⟩)).mono ?_; rintro e w2 ⟨N, rfl, _, _, b2⟩; have B2 := Lib.hid b2; clear b2))
    go_ret2
    exact ⟨_, rfl, .inr ⟨(by intro v h; cases h), _, rfl⟩, B1.out.trans (B2.out.mono B1.out.size)⟩
  | _ =>
    rw [hr] at IW
    simp only [puTuple] at IW
    go_enter Tryz.func53, Tryz.ntmps53
    go_wp2_with (first | (go_at_call 71; refine IW.mono ?_; rintro e w1 ⟨rfl, b1⟩; obtain ⟨tt, pp, ss⟩ := (L.below b1).syn; have B1 := Lib.hid b1; clear b1) | (go_at_call 72; refine (toErr_syn _ _ _ _ _ _ hmax ss (.inr ⟨_, _, rfl⟩)).mono ?_; rintro e w2 ⟨N, rfl, _, _, b2⟩; have B2 := Lib.hid b2; clear b2))
    go_ret2
    exact ⟨_, rfl, .inr ⟨(by intro v h; cases h), _, rfl⟩, B1.out.trans (B2.out.mono B1.out.size)⟩

theorem pu16 (t : ByteArray) (hmax : t.size ≤ 281474976710656) (w : World) (L : Laid w) :
    Calls Tryz.prog 53 #[.string t, .int .i64 16, .int .i64 64] w (PuPost 18446744073709551615 (puAll 16 1152921504606846976 18446744073709551615 t.data.toList) w) := by
  have IW := ipu_16_64 t (by omega) w
  cases hr : puAll 16 1152921504606846976 18446744073709551615 t.data.toList with
  | ok v =>
    rw [hr] at IW
    simp only [puTuple] at IW
    go_enter Tryz.func53, Tryz.ntmps53
    go_wp2_with (go_at_call 71; refine IW.mono ?_; rintro e w1 ⟨rfl, b1⟩; have B1 := Lib.hid b1; clear b1)
    go_ret2
    exact ⟨_, rfl, .inl ⟨⟨v, rfl⟩, rfl⟩, B1.out⟩
  | range =>
    rw [hr] at IW
    simp only [puTuple] at IW
    go_enter Tryz.func53, Tryz.ntmps53
    go_wp2_with (first | (go_at_call 71; refine IW.mono ?_; rintro e w1 ⟨rfl, b1⟩; obtain ⟨tt, pp, ss⟩ := (L.below b1).rng; have B1 := Lib.hid b1; clear b1) | (go_at_call 72; refine (Tryz.strconv_toError_range _ _ _ _ _ _ hmax ss (.inr ⟨_, _, rfl⟩)).mono ?_; rintro e w2 ⟨N, rfl, _, _, b2⟩; have B2 := Lib.hid b2; clear b2))
    go_ret2
    exact ⟨_, rfl, .inr ⟨(by intro v h; cases h), _, rfl⟩, B1.out.trans (B2.out.mono B1.out.size)⟩
  | _ =>
    rw [hr] at IW
    simp only [puTuple] at IW
    go_enter Tryz.func53, Tryz.ntmps53
    go_wp2_with (first | (go_at_call 71; refine IW.mono ?_; rintro e w1 ⟨rfl, b1⟩; obtain ⟨tt, pp, ss⟩ := (L.below b1).syn; have B1 := Lib.hid b1; clear b1) | (go_at_call 72; refine (toErr_syn _ _ _ _ _ _ hmax ss (.inr ⟨_, _, rfl⟩)).mono ?_; rintro e w2 ⟨N, rfl, _, _, b2⟩; have B2 := Lib.hid b2; clear b2))
    go_ret2
    exact ⟨_, rfl, .inr ⟨(by intro v h; cases h), _, rfl⟩, B1.out.trans (B2.out.mono B1.out.size)⟩
end Go.Proofs.YtjlnhifleepnoaaGreatDoor
