import Derived.Test.YtjlnhifleepnoaaDoorK14
import Derived.Test.YtjlnhifleepnoaaDoorK9
import Derived.Test.YtjlnhifleepnoaaDoorR1
import Derived.Laws.IdiomStrings
set_option linter.unusedVariables false
set_option linter.unusedSimpArgs false
namespace Go.Proofs.YtjlnhifleepnoaaDoor
open Go.RowKit

theorem dig_conv (d : Nat) (hd : d < 10) (W : World) (b : Nat) (h : W.cell? ⟨b, 0, none⟩ = some (.int .u8 (48 + (d : Int)))) : (convert 51 9 (.slice (some ⟨b, 0, none⟩) 1 1)).run Tryd.prog W = .ok (.string (S [UInt8.ofNat (48 + d)])) W := by
  refine run_convert_bytes_back W 51 9 5 ⟨b, 0, none⟩ 1 [UInt8.ofNat (48 + d)] Tryd.underlying51 Tryd.underlying5 Tryd.underlying9 fun j hj => ?_
  have hj' : j < 1 := hj
  obtain rfl : j = 0 := by omega
  have e : (UInt8.ofNat (48 + d)).toNat = 48 + d := by simp; omega
  simp only [List.getElem_cons_zero, e]
  exact h
theorem S_cat (a b : List UInt8) : S a ++ S b = S (a ++ b) := by simp [S, ByteArray.mk_append_mk]
theorem dec_small {n : Nat} (h : n < 10) : Lib.decDigits n = [UInt8.ofNat (48 + n)] := by
  rw [Lib.decDigits, dif_pos h]
theorem dec_big {n : Nat} (h : ¬ n < 10) : Lib.decDigits n = Lib.decDigits (n / 10) ++ [UInt8.ofNat (48 + n % 10)] := by
  rw [Lib.decDigits, dif_neg h]

set_option maxRecDepth 100000 in
set_option maxHeartbeats 1000000 in
theorem digits_small (n : Nat) (hn : n < 10) (w : World) : Calls Tryd.prog 40 #[.int .i64 n] w fun e w' => e = .returned (.string (S (Lib.decDigits n))) ∧ Below w.heap.size w w' := by
  have h1 : (n : Int) < 10 := by omega
  rw [dec_small hn]
  have dc := dig_conv n hn
  obtain ⟨c, hc⟩ : ∃ c, c = UInt8.ofNat (48 + n) := ⟨_, rfl⟩
  rw [← hc] at dc ⊢
  clear hn hc
  go_enter Tryd.func40, Tryd.ntmps40
  go_wp2
  go_ret
  exact ⟨rfl, below_of_chg ((Chg.refl _ _).alloc _)⟩

set_option maxRecDepth 100000 in
set_option maxHeartbeats 4000000 in
theorem digits_walk (n : Nat) (hmax : n < 4096) (w : World) : Calls Tryd.prog 40 #[.int .i64 n] w fun e w' => e = .returned (.string (S (Lib.decDigits n))) ∧ Below w.heap.size w w' := by
  induction n using Nat.strongRecOn generalizing w with
  | _ n ih =>
    by_cases hn : n < 10
    · exact digits_small n hn w
    obtain ⟨q, hq⟩ : ∃ q, q = n / 10 := ⟨_, rfl⟩
    obtain ⟨r, hr⟩ : ∃ r, r = n % 10 := ⟨_, rfl⟩
    have IH : ∀ W, Calls Tryd.prog 40 #[.int .i64 q] W fun e w' => e = .returned (.string (S (Lib.decDigits q))) ∧ Below W.heap.size W w' := fun W => ih q (by omega) (by omega) W
    have e1 : (n : Int).tdiv 10 = q := by rw [Int.tdiv_eq_ediv_of_nonneg (by omega)]; omega
    have e2 : (n : Int).tmod 10 = r := by rw [Int.tmod_eq_emod_of_nonneg (by omega)]; omega
    have h1 : ¬ (n : Int) < 10 := by omega
    have h2 : r < 10 := by omega
    have h3 : (r : Int) < 10 := by omega
    have wq : IntKind.i64.wrap (q : Int) = q := by rw [IntKind.wrap_i64]; omega
    have wr : IntKind.i64.wrap (48 + (r : Int)) = 48 + (r : Int) := by rw [IntKind.wrap_i64]; omega
    have wu : IntKind.u8.wrap (48 + (r : Int)) = 48 + (r : Int) := by simp [IntKind.wrap, IntKind.bits, IntKind.signed]; omega
    rw [dec_big hn, ← hq, ← hr]
    have dc := dig_conv r h2
    obtain ⟨c, hc⟩ : ∃ c, c = UInt8.ofNat (48 + r) := ⟨_, rfl⟩
    rw [← hc] at dc ⊢
    have hz : (Lib.decDigits q).length ≤ 4 := dec_len 3 q (by omega)
    have hz1 : ¬ 9223372036854775807 < (S (Lib.decDigits q)).size + (S [c]).size := by rw [S_size, S_size]; simp; omega
    obtain ⟨d, hd⟩ : ∃ d, d = Lib.decDigits q := ⟨_, rfl⟩
    rw [← hd] at IH hz1 ⊢
    clear hq hr hn ih hc hz hd
    go_enter Tryd.func40, Tryd.ntmps40
    go_wp2
    refine wp_region_noPanic ?_
    go_region_with (first | (go_at_call 40; refine (IH _).mono ?_; rintro e w1 ⟨rfl, b1⟩; have B1 := Lib.hid b1; (try have z0 : w1.cell? ⟨w.heap.size, 0, none⟩ = some (.int .u8 (48 + (r : Int))) := (b1.cell (show w.heap.size < _ by simp)).trans (cell_of_row _ _ 0 _ _ _ (heap_alloc_new w.drew (.cells #[.int .u8 (48 + (r : Int))] 5)))); clear b1))
    all_goals
      refine NoPanic.normal ?_
      go_wp2
      go_ret
      refine ⟨congrArg (fun z => Ending.returned (Value.string z)) (S_cat d [c]), below_of_chg ?_⟩
      first
        | exact ((Chg.refl [] w).drew.trans (Chg.of_below B1.out)).alloc _
        | exact (((Chg.refl [] w).drew.alloc _).trans (Chg.of_below B1.out))
end Go.Proofs.YtjlnhifleepnoaaDoor
