import Derived.Test.YtjlnhifleepnoaaGreatDoorP3
import Derived.Test.YtjlnhifleepnoaaGreatDoorShelf
set_option linter.unusedVariables false
set_option linter.unusedSimpArgs false
namespace Go.Proofs.YtjlnhifleepnoaaGreatDoor
open Go.RowKit

/-- The number that strconv.ParseInt hands back. -/
def piVal (l : List UInt8) : Int :=
  match Lib.parseIntB 64 l with
  | .ok v => v
  | .syntax => 0
  | .range => Lib.intSat 64 l
def PiPost (l : List UInt8) (w : World) (e : Ending) (w' : World) : Prop := ∃ er, e = .returned (.tuple #[.int .i64 (piVal l), er]) ∧ Below w.heap.size w w'

theorem pi_walk (t : ByteArray) (hmax : t.size ≤ 281474976710656) (w : World) (L : Laid w) : Calls Tryz.prog 70 #[.string t, .int .i64 10, .int .i64 64] w (PiPost t.data.toList w) := by
  obtain ⟨t1, p1, s1⟩ := L.syn
  obtain ⟨t2, p2, s2⟩ := L.rng
  unfold PiPost piVal
  cases h : Lib.parseIntB 64 t.data.toList with
  | ok v =>
    refine (Tryz.strconv_ParseInt_10_at64_ok t (by omega) v h w).mono ?_
    rintro e w' ⟨rfl, rfl | ⟨u, rfl⟩⟩
    · exact ⟨_, rfl, Below.refl _ _⟩
    · exact ⟨_, rfl, below_bw w u⟩
  | range =>
    refine (Tryz.strconv_ParseInt_10_at64_range t hmax h _ w s2 (.inr ⟨_, _, rfl⟩)).mono ?_
    rintro e w' ⟨N, rfl, _, _, b⟩
    exact ⟨_, rfl, b⟩
  | _ =>
    refine (Tryz.strconv_ParseInt_10_at64_syntax t hmax h _ w s1 (.inr ⟨_, _, rfl⟩)).mono ?_
    rintro e w' ⟨N, rfl, _, _, b⟩
    exact ⟨_, rfl, b⟩
end Go.Proofs.YtjlnhifleepnoaaGreatDoor
