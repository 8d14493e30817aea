import Derived.Test.YtjlnhifleepnoaaGreatDoorK3
import Derived.Test.YtjlnhifleepnoaaGreatDoorK6
set_option linter.unusedVariables false
set_option linter.unusedSimpArgs false
namespace Go.Proofs.YtjlnhifleepnoaaGreatDoor
open Go.RowKit

def onesB : List ByteArray := [⟨#[]⟩, ⟨#[110, 101, 103]⟩, ⟨#[97, 98, 115]⟩, ⟨#[102, 108, 111, 111, 114]⟩, ⟨#[114, 111, 111, 116]⟩, ⟨#[110, 111, 116]⟩, ⟨#[105, 115, 110, 97, 110]⟩, ⟨#[115, 105, 103, 110]⟩, ⟨#[104, 97, 115, 104]⟩]
def twosB : List ByteArray := [⟨#[]⟩, ⟨#[97, 100, 100]⟩, ⟨#[115, 117, 98]⟩, ⟨#[109, 117, 108]⟩, ⟨#[100, 105, 118]⟩, ⟨#[109, 111, 100]⟩, ⟨#[109, 105, 110]⟩, ⟨#[109, 97, 120]⟩, ⟨#[108, 101, 115, 115]⟩, ⟨#[97, 116, 109, 111, 115, 116]⟩, ⟨#[101, 113, 117, 97, 108]⟩, ⟨#[115, 97, 109, 101]⟩, ⟨#[97, 104, 101, 97, 100]⟩]
def strs (l : List ByteArray) : Array Value := (l.map Value.string).toArray

set_option maxRecDepth 100000 in
theorem ones_walk (w : World) : Calls Tryz.prog 35 #[] w fun e w' => e = .returned (.slice (some ⟨w.heap.size, 0, none⟩) 9 9) ∧ ∃ T, w' = w.alloc (.cells (strs onesB) T) := by
  go_enter Tryz.func35, Tryz.ntmps35
  go_wp2
  go_ret
  exact ⟨rfl, _, rfl⟩
set_option maxRecDepth 100000 in
theorem twos_walk (w : World) : Calls Tryz.prog 36 #[] w fun e w' => e = .returned (.slice (some ⟨w.heap.size, 0, none⟩) 13 13) ∧ ∃ T, w' = w.alloc (.cells (strs twosB) T) := by
  go_enter Tryz.func36, Tryz.ntmps36
  go_wp2
  go_ret
  exact ⟨rfl, _, rfl⟩
set_option maxRecDepth 100000 in
theorem tag_walk (t : Int) (w : World) : Calls Tryz.prog 18 #[.int .i64 t] w fun e w' => e = .returned (.string (S (if t = 1 then [114, 101, 97, 100, 115] else [117, 112, 100, 97, 116, 101, 115]))) ∧ w' = w := by
  by_cases h : t = 1
  · subst h
    rw [if_pos rfl]
    go_enter Tryz.func18, Tryz.ntmps18
    go_wp2
    go_ret
    exact ⟨rfl, rfl⟩
  · rw [if_neg h]
    go_enter Tryz.func18, Tryz.ntmps18
    go_wp2
    go_ret
    exact ⟨rfl, rfl⟩
end Go.Proofs.YtjlnhifleepnoaaGreatDoor
