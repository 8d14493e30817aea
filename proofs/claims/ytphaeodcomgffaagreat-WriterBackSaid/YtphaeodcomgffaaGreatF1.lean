import Derived.Test.YtphaeodcomgffaaGreatRows
import Derived.WalkKit
import Derived.WalkSpells
import Derived.WalkLawsBesides
import Derived.Deep.QuietTactic
import Derived.BigQuiet
import Derived.RegionTactic
import Derived.ChangeAlike
import Derived.Deep.Draws
import Derived.Lib.Hide
import Derived.Laws.FloatArith
import Derived.Laws.Externs
import Derived.Lib.OthersKept
import Derived.Lib.Strings
import Derived.Laws.AppendOwnNone
namespace Go.Proofs.YtphaeodcomgffaaGreat
open Go.RowKit

/-- The float of these bits is no number. -/
def bad (b : Nat) : Bool := FloatKind.f64.format.order b b != some Ordering.eq
/-- The bits of the one NaN. -/
def theNaN : Nat := 9221120237041090560
/-- Bits with the one NaN. -/
def fx (b : Nat) : Nat := if bad b then theNaN else b

theorem cast_beq (a b : Nat) : ((a : Int) == (b : Int)) = (a == b) := by
  rw [Bool.eq_iff_iff]; simp [Int.ofNat_inj]
theorem run_frombits (n : Int) (w : World) : (callFunc 71 #[.int .u64 n]).run Tryz.prog w = .ok (.value (.float .f64 n.toNat)) w := by
  rw [run_callFunc_extern Tryz.func71 (by kernel_rfl) (by kernel_rfl) (by kernel_rfl) (e := Extern.MathFloatBits.float64frombits) (by kernel_rfl)]
  rfl
theorem run_bits (b : Nat) (w : World) : (callFunc 28 #[.float .f64 b]).run Tryz.prog w = .ok (.value (.int .u64 b)) w := by
  rw [run_callFunc_extern Tryz.func28 (by kernel_rfl) (by kernel_rfl) (by kernel_rfl) (e := Extern.MathFloatBits.float64bits) (by kernel_rfl)]
  rfl

set_option maxRecDepth 100000 in
theorem fix_walk (b : Nat) (w : World) : Calls Tryz.prog 92 #[.float .f64 b] w fun e w' => e = .returned (.float .f64 (fx b)) ∧ w' = w := by
  have e38 := run_frombits
  cases h : bad b
  · have h2 : (FloatKind.f64.format.order b b != some Ordering.eq) = false := h
    have g : fx b = b := by simp [fx, h]
    rw [g]
    clear h g
    go_enter Tryz.func92, Tryz.ntmps92
    go_wp2
    go_ret
    exact ⟨rfl, rfl⟩
  · have h2 : (FloatKind.f64.format.order b b != some Ordering.eq) = true := h
    have g : fx b = theNaN := by simp [fx, h]
    rw [g]
    clear h g
    go_enter Tryz.func92, Tryz.ntmps92
    go_wp2
    go_ret
    exact ⟨rfl, rfl⟩

set_option maxRecDepth 100000 in
theorem bits_walk (b : Nat) (w : World) : Calls Tryz.prog 221 #[.float .f64 b] w fun e w' => e = .returned (.int .u64 (fx b)) ∧ w' = w := by
  have e20 := run_bits
  go_enter Tryz.func221, Tryz.ntmps221
  go_wp2_with (go_at_call 92; refine (fix_walk _ _).mono ?_; rintro e w' ⟨rfl, rfl⟩)
  go_ret
  exact ⟨rfl, rfl⟩

set_option maxRecDepth 100000 in
theorem of_walk (n : Nat) (w : World) : Calls Tryz.prog 90 #[.int .u64 n] w fun e w' => e = .returned (.float .f64 (fx n)) ∧ w' = w := by
  have e38 := run_frombits
  go_enter Tryz.func90, Tryz.ntmps90
  go_wp2_with (go_at_call 92; refine (fix_walk _ _).mono ?_; rintro e w' ⟨rfl, rfl⟩)
  go_ret
  exact ⟨rfl, rfl⟩

set_option maxRecDepth 100000 in
theorem same_walk (a b : Nat) (w : World) : Calls Tryz.prog 201 #[.float .f64 a, .float .f64 b] w fun e w' => e = .returned (.bool (fx a == fx b)) ∧ w' = w := by
  go_enter Tryz.func201, Tryz.ntmps201
  go_wp2_with (go_at_call 221; refine (bits_walk _ _).mono ?_; rintro e w' ⟨rfl, rfl⟩)
  go_ret
  exact ⟨by rw [cast_beq]; rfl, rfl⟩

set_option maxRecDepth 100000 in
/-- The document's Bits. -/
theorem rbits_walk (b : Nat) (w : World) : Calls Tryz.prog 135 #[.float .f64 b] w fun e w' => e = .returned (.int .u64 (fx b)) ∧ w' = w := by
  have e20 := run_bits
  cases h : bad b
  · have h2 : (FloatKind.f64.format.order b b != some Ordering.eq) = false := h
    have g : fx b = b := by simp [fx, h]
    rw [g]
    clear h g
    go_enter Tryz.func135, Tryz.ntmps135
    go_wp2
    go_ret
    exact ⟨rfl, rfl⟩
  · have h2 : (FloatKind.f64.format.order b b != some Ordering.eq) = true := h
    have g : fx b = theNaN := by simp [fx, h]
    rw [g]
    clear h g
    go_enter Tryz.func135, Tryz.ntmps135
    go_wp2
    go_ret
    exact ⟨rfl, rfl⟩
end Go.Proofs.YtphaeodcomgffaaGreat
set_option linter.unusedVariables false
set_option linter.unusedSimpArgs false
namespace Go.Proofs.YtphaeodcomgffaaGreat
open Go.RowKit

/-- Only the blocks in S (and new ones) may have turned. -/
structure Chg (S : List Nat) (w w' : World) : Prop where
  os : w'.os = w.os
  tape : w'.tape = w.tape
  output : w'.output = w.output
  size : w.heap.size ≤ w'.heap.size
  block : ∀ k, k < w.heap.size → k ∉ S → w'.heap[k]? = w.heap[k]?

theorem Chg.refl (S : List Nat) (w : World) : Chg S w w := ⟨rfl, rfl, rfl, Nat.le_refl _, fun _ _ _ => rfl⟩
theorem Chg.trans {S : List Nat} {a b c : World} (h : Chg S a b) (k : Chg S b c) : Chg S a c :=
  ⟨k.os.trans h.os, k.tape.trans h.tape, k.output.trans h.output, Nat.le_trans h.size k.size, fun i hi hs => (k.block i (Nat.lt_of_lt_of_le hi h.size) hs).trans (h.block i hi hs)⟩
theorem Chg.mono {S S' : List Nat} {a b : World} (h : Chg S a b) (hs : ∀ x ∈ S, x ∈ S' ∨ a.heap.size ≤ x) : Chg S' a b :=
  ⟨h.os, h.tape, h.output, h.size, fun i hi hn => h.block i hi fun hx => by rcases hs i hx with h1 | h1; exact hn h1; omega⟩
theorem Chg.drewN {S : List Nat} {a b : World} (h : Chg S a b) (n : Nat) : Chg S a (b.drewN n) := ⟨h.os, h.tape, h.output, h.size, h.block⟩
theorem Chg.drew {S : List Nat} {a b : World} (h : Chg S a b) : Chg S a b.drew := ⟨h.os, h.tape, h.output, h.size, h.block⟩
theorem Chg.alloc {S : List Nat} {a b : World} (h : Chg S a b) (o : Obj) : Chg S a (b.alloc o) :=
  h.trans ⟨rfl, rfl, rfl, by simp, fun k hk _ => Below.heap_alloc _ _ _ hk⟩
theorem Chg.setCell {S : List Nat} {a b : World} (h : Chg S a b) {p : Addr} (hp : p.block ∈ S ∨ a.heap.size ≤ p.block) (u : Value) : Chg S a (b.setCell p u) :=
  ⟨h.os, h.tape, h.output, by simpa [World.setCell] using h.size, fun k hk hn => by
    rw [Below.heap_setCell _ _ _ _ (by rintro rfl; rcases hp with hp | hp; exact hn hp; omega)]; exact h.block k hk hn⟩
theorem Chg.of_below {S : List Nat} {w w' : World} (h : Below w.heap.size w w') : Chg S w w' := ⟨h.os, h.tape, h.output, h.size, fun k hk _ => h.block k hk⟩
theorem Chg.below {S : List Nat} {w w' : World} {B : Nat} (h : Chg S w w') (hB : B ≤ w.heap.size) (hs : ∀ x ∈ S, B ≤ x) : Below B w w' :=
  ⟨h.os, h.tape, h.output, h.size, fun k hk => h.block k (by omega) fun hx => by have := hs k hx; omega⟩
theorem Chg.grown {S : List Nat} {a w w' : World} {row : Option Nat} (h : Chg S a w) (hg : w.grownBy w' row) (hr : ∀ k, row = some k → k ∈ S ∨ a.heap.size ≤ k) : Chg S a w' :=
  ⟨hg.os.trans h.os, hg.tape.trans h.tape, hg.output.trans h.output, Nat.le_trans h.size hg.size, fun k hk hn =>
    (hg.block k (Nat.lt_of_lt_of_le hk h.size) (fun e => by rcases hr k e.symm with h1 | h1; exact hn h1; omega)).trans (h.block k hk hn)⟩
theorem Chg.setRow {S : List Nat} {a b : World} (h : Chg S a b) {g : Nat} (hp : g ∈ S ∨ a.heap.size ≤ g) (cs : Array Value) : Chg S a (b.setRow g cs) :=
  ⟨h.os, h.tape, h.output, by simpa using h.size, fun k hk hn => by
    rw [setRow_other _ _ _ _ (by rintro rfl; rcases hp with hp | hp; exact hn hp; omega)]; exact h.block k hk hn⟩
theorem lt_of_heap {w : World} {b : Nat} {o : Obj} (h : w.heap[b]? = some o) : b < w.heap.size := by
  rcases Nat.lt_or_ge b w.heap.size with h' | h'
  · exact h'
  · simp [Array.getElem?_eq_none h'] at h
/-- A store into a block that is known whole. -/
theorem heap_put {w : World} {g i : Nat} {cs cs' : Array Value} {t : TypeId} {v : Value} (hg : w.heap[g]? = some (.cells cs t (0, 0))) (he : cs.setIfInBounds i v = cs') :
    (w.setCell ⟨g, i, none⟩ v).heap[g]? = some (.cells cs' t (0, 0)) := by subst he; exact heap_setCell_same w g i cs t v hg

theorem info9 : (Tryz.prog.info? 9).map (fun i => (i.zero, i.size, i.bytes)) = some (some (.string ⟨#[]⟩), 1, 16) := by kernel_rfl
/-- v owns, from block B on, a row that holds the texts l. -/
def OwnS (w : World) (B : Nat) (v : Value) (l : List ByteArray) : Prop := w.ownsRow B 9 1 v l.length (l.map (Value.string))

theorem OwnS.nil (w : World) (B : Nat) : OwnS w B (.slice none 0 0) [] := ⟨rfl, .inl ⟨rfl, rfl⟩⟩

theorem OwnS.blk {w : World} {B : Nat} {v : Value} {l : List ByteArray} (h : OwnS w B v l) : ∀ k, v.ownBlock = some k → B ≤ k ∧ k < w.heap.size := fun k hk => ⟨(World.ownsRow.lt h k hk).1, (World.ownsRow.lt h k hk).2⟩

/-- The slice v reads as the whole numbers l. -/
def RdS (w : World) (v : Value) (l : List ByteArray) : Prop :=
  (l = [] ∧ (v = .slice none 0 0 ∨ ∃ a c, v = .slice (some a) 0 c)) ∨
  ∃ b off c, v = .slice (some ⟨b, off, none⟩) l.length c ∧ 0 < l.length ∧ ∀ i, i < l.length → w.cell? ⟨b, off + i, none⟩ = some (.string (l.getD i ⟨#[]⟩))

theorem RdS.slice {w v l} (h : RdS w v l) : ∃ a c, v = .slice a l.length c := by
  rcases h with ⟨rfl, h | ⟨a, c, h⟩⟩ | ⟨b, off, c, h, _⟩
  · exact ⟨_, _, h⟩
  · exact ⟨_, _, h⟩
  · exact ⟨_, _, h⟩
theorem RdS.blk {w v l} (h : RdS w v l) (hl : 0 < l.length) : ∃ b off c, v = .slice (some ⟨b, off, none⟩) l.length c ∧ b < w.heap.size ∧ ∀ i, i < l.length → w.cell? ⟨b, off + i, none⟩ = some (.string (l.getD i ⟨#[]⟩)) := by
  rcases h with ⟨rfl, _⟩ | ⟨b, off, c, h, _, hc⟩
  · simp at hl
  · exact ⟨b, off, c, h, block_lt_of_cell (hc 0 hl), hc⟩
theorem RdS.keep {w w' : World} {v : Value} {l : List ByteArray} {S : List Nat} (h : RdS w v l) (c : Chg S w w') (hs : ∀ k, v.ownBlock = some k → k ∉ S) : RdS w' v l := by
  rcases h with h | ⟨b, off, k, rfl, hl, hc⟩
  · exact .inl h
  · refine .inr ⟨b, off, k, rfl, hl, fun i hi => ?_⟩
    rw [World.cell?_of_block (w := w) (c.block b (block_lt_of_cell (hc i hi)) (hs b rfl))]
    exact hc i hi
theorem RdS.keep0 {w w' : World} {v : Value} {l : List ByteArray} (h : RdS w v l) (c : Chg [] w w') : RdS w' v l := h.keep c (by simp)
theorem OwnS.rd {w : World} {B : Nat} {v : Value} {l : List ByteArray} (h : OwnS w B v l) : RdS w v l := by
  rcases h.2 with ⟨h1, h2⟩ | ⟨g, cap, cur, h1, hB, hg, hn, hm, hs, ht⟩
  · exact .inl ⟨List.eq_nil_of_length_eq_zero h2, .inl h1⟩
  · subst h1
    rcases Nat.eq_zero_or_pos l.length with h0 | h0
    · exact .inl ⟨List.eq_nil_of_length_eq_zero h0, .inr ⟨⟨g, 0, none⟩, cap, by rw [h0]⟩⟩
    · refine .inr ⟨g, 0, cap, rfl, h0, fun i hi => ?_⟩
      have hown : w.ownsRow B 9 1 (.slice (some ⟨g, 0, none⟩) l.length cap) l.length (l.map (Value.string)) := h
      rw [Nat.zero_add, hown.cellAt i (by omega)]
      simp [List.getD, List.getElem?_eq_getElem hi]
theorem OwnS.keep {w w' : World} {B : Nat} {v : Value} {l : List ByteArray} {S : List Nat} (h : OwnS w B v l) (c : Chg S w w') (hs : ∀ k, v.ownBlock = some k → k ∉ S) : OwnS w' B v l := by
  refine ⟨h.1, ?_⟩
  rcases h.2 with h1 | ⟨g, cap, cur, h1, hB, hg, hn⟩
  · exact .inl h1
  · exact .inr ⟨g, cap, cur, h1, hB, (c.block g (lt_of_heap hg) (hs g (by rw [h1]; rfl))).trans hg, hn⟩
theorem OwnS.keep0 {w w' : World} {B : Nat} {v : Value} {l : List ByteArray} (h : OwnS w B v l) (c : Chg [] w w') : OwnS w' B v l := h.keep c (by simp)
theorem OwnS.mono {w : World} {B B' : Nat} {v : Value} {l : List ByteArray} (h : OwnS w B v l) (hb : B' ≤ B) : OwnS w B' v l := by
  refine ⟨h.1, ?_⟩
  rcases h.2 with h1 | ⟨g, cap, cur, h1, hB, hg⟩
  · exact .inl h1
  · exact .inr ⟨g, cap, cur, h1, by omega, hg⟩


end Go.Proofs.YtphaeodcomgffaaGreat
set_option linter.unusedVariables false
set_option linter.unusedSimpArgs false
namespace Go.Proofs.YtphaeodcomgffaaGreat
open Ieee

def posL : Nat := 4845873199050653696
def negL : Nat := 14069245235905429504
def negH : Nat := 18438243695727462560
def two : Nat := 4611686018427387904
def pinf : Nat := 9218868437227405312
def ninf : Nat := 18442240474082181120
def nzero : Nat := 9223372036854775808

theorem read_posL : double.read posL = .number false 4503599627370496 1 := by decide +kernel
theorem read_negL : double.read negL = .number true 4503599627370496 1 := by decide +kernel
theorem read_two : double.read two = .number false 4503599627370496 (-51) := by decide +kernel
theorem read_zero : double.read 0 = .number false 0 (-1074) := by decide +kernel
theorem read_negH : double.read negH = .number true 5010420900022432 971 := by decide +kernel

/-- The finite numbers of the format. -/
theorem read_number {c : Nat} {s : Bool} {m : Nat} {e : Int} (h : double.read c = .number s m e) :
    -1074 ≤ e ∧ e ≤ 971 ∧ m < 9007199254740992 ∧ (e = -1074 ∨ 4503599627370496 ≤ m) ∧ c / 9223372036854775808 % 2 = s.toNat ∧
      c % 9223372036854775808 = (if m < 4503599627370496 then m else (e + 1074).toNat * 4503599627370496 + m) := by
  unfold Format.read at h
  have hb : double.binade = 4503599627370496 := by decide +kernel
  have hsw : double.signWeight = 9223372036854775808 := by decide +kernel
  have hi : double.infRung = 9218868437227405312 := by decide +kernel
  have hl : double.leastPlace = -1074 := by decide +kernel
  rw [hb, hsw, hi, hl] at h
  simp only at h
  split at h
  · rename_i h1
    simp only [Datum.number.injEq] at h
    obtain ⟨rfl, rfl, rfl⟩ := h
    refine ⟨by omega, by omega, by omega, .inl rfl, ?_, by rw [if_pos h1]⟩
    rcases (by omega : c / 9223372036854775808 % 2 = 0 ∨ c / 9223372036854775808 % 2 = 1) with h2 | h2 <;> simp [h2]
  · split at h
    · rename_i h1 h2
      simp only [Datum.number.injEq] at h
      obtain ⟨rfl, rfl, rfl⟩ := h
      refine ⟨by omega, by omega, by omega, .inr (by omega), ?_, ?_⟩
      · rcases (by omega : c / 9223372036854775808 % 2 = 0 ∨ c / 9223372036854775808 % 2 = 1) with h2 | h2 <;> simp [h2]
      · rw [if_neg (by omega)]
        omega
    · split at h <;> cases h

theorem order_self {c : Nat} (h : bad c = false) : (∃ s m e, double.read c = .number s m e) ∨ (∃ s, double.read c = .infinity s) := by
  unfold bad at h
  have h0 : FloatKind.f64.format.order c c = some .eq := by simpa using h
  have : double.order c c = some .eq := h0
  unfold Format.order at this
  cases hq : double.read c with
  | number s m e => exact .inl ⟨_, _, _, rfl⟩
  | infinity s => exact .inr ⟨_, rfl⟩
  | nan s t => rw [hq] at this; simp [Datum.order] at this

theorem signed_f (m k : Nat) : signed false m k = ((m * 2 ^ k : Nat) : Int) := by simp [signed, Nat.shiftLeft_eq]
theorem signed_t (m k : Nat) : signed true m k = -((m * 2 ^ k : Nat) : Int) := by simp [signed, Nat.shiftLeft_eq]

theorem cut_zero (s : Bool) (n d : Nat) : Toward.zero.cut s n d = n / 2 ^ d := by
  simp only [Toward.cut, Nat.shiftLeft_eq, Nat.one_mul, Bool.toNat_false, Nat.add_zero]
  rcases Nat.le_total d (n.log2 + 2) with h | h
  · rw [Nat.min_eq_left h]
  · rw [Nat.min_eq_right h]
    have h1 : n < 2 ^ (n.log2 + 1) := Nat.lt_log2_self
    have h2 : 2 ^ (n.log2 + 1) ≤ 2 ^ (n.log2 + 2) := Nat.pow_le_pow_right (by decide) (by omega)
    have h3 : 2 ^ (n.log2 + 2) ≤ 2 ^ d := Nat.pow_le_pow_right (by decide) h
    rw [Nat.div_eq_of_lt (by omega), Nat.div_eq_of_lt (by omega)]

theorem toInt_number (s : Bool) (m : Nat) (e : Int) : (Datum.number s m e).toInt .zero = some (signed s (m * 2 ^ e.toNat / 2 ^ (-e).toNat) 0) := by
  simp [Datum.toInt, Datum.integral, cut_zero, Nat.shiftLeft_eq]

/-- What the test against the limits says of a number. -/
theorem small_of_lt {s : Bool} {m : Nat} {e : Int} {k : Nat} (h1 : (Datum.number s m e).order (.number false 4503599627370496 1) = some .lt) (h2 : (Datum.number s m e).order (.number true 4503599627370496 1) = some .gt) :
    m * 2 ^ e.toNat / 2 ^ (-e).toNat < 9007199254740992 := by
  simp only [Datum.order, Option.some.injEq, Int.compare_eq_lt, Int.compare_eq_gt] at h1 h2
  have key : m * 2 ^ (e - min e 1).toNat < 4503599627370496 * 2 ^ (1 - min e 1).toNat := by
    cases s
    · rw [signed_f, signed_f] at h1
      omega
    · rw [signed_t, signed_t] at h2
      omega
  rcases (by omega : e < 1 ∨ 1 ≤ e) with h | h
  · have e1 : min e 1 = e := by omega
    rw [e1, show (e - e).toNat = 0 by omega, Nat.pow_zero, Nat.mul_one] at key
    rw [show e.toNat = 0 by omega, Nat.pow_zero, Nat.mul_one]
    refine Nat.div_lt_of_lt_mul ?_
    have e2 : (1 - e).toNat = (-e).toNat + 1 := by omega
    rw [e2, Nat.pow_succ] at key
    omega
  · have e1 : min e 1 = 1 := by omega
    rw [e1, show (1 - 1 : Int).toNat = 0 by omega, Nat.pow_zero, Nat.mul_one] at key
    rw [show (-e).toNat = 0 by omega, Nat.pow_zero, Nat.div_one]
    have e2 : e.toNat = (e - 1).toNat + 1 := by omega
    rw [e2, Nat.pow_succ, ← Nat.mul_assoc]
    omega

/-- Between the limits a number may be made whole. -/
theorem whole_of {c : Nat} (h1 : double.order c posL = some .lt) (h2 : double.order c negL = some .gt) :
    ∃ n : Int, floatToIntVal .f64 c .i64 = some n ∧ -9007199254740992 < n ∧ n < 9007199254740992 := by
  unfold Format.order at h1 h2
  rw [read_posL] at h1
  rw [read_negL] at h2
  cases hq : double.read c with
  | nan s t => rw [hq] at h1; simp [Datum.order] at h1
  | infinity s => rw [hq] at h1 h2; cases s <;> simp [Datum.order] at h1 h2
  | number s m e =>
    rw [hq] at h1 h2
    have hs := small_of_lt (k := 0) h1 h2
    have e1 : (FloatKind.f64.decode c).toInt .zero = some (signed s (m * 2 ^ e.toNat / 2 ^ (-e).toNat) 0) := by
      show (double.read c).toInt .zero = _
      rw [hq, toInt_number]
    have lo : IntKind.i64.min = -9223372036854775808 := rfl
    have hi : IntKind.i64.max = 9223372036854775807 := rfl
    obtain ⟨k, hk⟩ : ∃ k, k = m * 2 ^ e.toNat / 2 ^ (-e).toNat := ⟨_, rfl⟩
    rw [← hk] at e1 hs
    refine ⟨signed s k 0, ?_, ?_⟩
    · unfold floatToIntVal
      rw [e1]
      simp only
      rw [if_pos]
      cases s
      · rw [signed_f]; omega
      · rw [signed_t]; omega
    · cases s
      · rw [signed_f]; omega
      · rw [signed_t]; omega

theorem zero_of {c : Nat} (hc : c < 18446744073709551616) (h : double.order c 0 = some .eq) : c = 0 ∨ c = nzero := by
  unfold Format.order at h
  rw [read_zero] at h
  cases hq : double.read c with
  | nan s t => rw [hq] at h; simp [Datum.order] at h
  | infinity s => rw [hq] at h; cases s <;> simp [Datum.order] at h
  | number s m e =>
    rw [hq] at h
    obtain ⟨r1, r2, r3, r4, r5, r6⟩ := read_number hq
    simp only [Datum.order, Option.some.injEq, Int.compare_eq_eq] at h
    have hm : m = 0 := by
      have hp : 0 < 2 ^ (e - min e (-1074)).toNat := Nat.two_pow_pos _
      have : m * 2 ^ (e - min e (-1074)).toNat = 0 := by
        cases s
        · rw [signed_f, signed_f, Nat.zero_mul] at h; exact Int.ofNat_inj.1 h
        · rw [signed_t, signed_f, Nat.zero_mul] at h; exact Int.ofNat_inj.1 (by rw [← Int.neg_neg ((m * 2 ^ (e - min e (-1074)).toNat : Nat) : Int), h]; rfl)
      rcases Nat.mul_eq_zero.1 this with h1 | h1
      · exact h1
      · omega
    subst hm
    rw [if_pos (by omega)] at r6
    unfold nzero
    omega

theorem cut_even_ge (s : Bool) (n d : Nat) (h : d ≤ n.log2 + 2) : n / 2 ^ d ≤ Toward.even.cut s n d := by
  simp only [Toward.cut, Nat.shiftLeft_eq, Nat.one_mul, Nat.min_eq_left h]
  exact Nat.le_add_right _ _

/-- Twice a number below -1e308 is no number of the format. -/
theorem twice {c : Nat} (hc : c < 18446744073709551616) (h : double.order c negH = some .lt) : double.mul c two = some ninf := by
  unfold Format.order at h
  rw [read_negH] at h
  unfold Format.mul
  rw [read_two]
  cases hq : double.read c with
  | nan s t => rw [hq] at h; simp [Datum.order] at h
  | infinity s =>
    rw [hq] at h
    cases s
    · simp [Datum.order] at h
    · simp only [Datum.product]
      decide +kernel
  | number s m e =>
    rw [hq] at h
    obtain ⟨r1, r2, r3, r4, r5, r6⟩ := read_number hq
    simp only [Datum.order, Option.some.injEq, Int.compare_eq_lt] at h
    have e0 : min e 971 = e := by omega
    rw [e0, show (e - e).toNat = 0 by omega] at h
    cases s
    · rw [signed_f, signed_t] at h; omega
    · rw [signed_t, signed_t, Nat.pow_zero, Nat.mul_one] at h
      have h1 : 5010420900022432 * 2 ^ (971 - e).toNat < m := by omega
      have e1 : e = 971 := by
        rcases (by omega : e = 971 ∨ 1 ≤ (971 - e).toNat) with h2 | h2
        · exact h2
        · have : 2 ^ 1 ≤ 2 ^ (971 - e).toNat := Nat.pow_le_pow_right (by decide) h2
          omega
      subst e1
      simp only [Datum.product, Option.map_some, Option.some.injEq, Format.write, Format.nearest]
      have hm : ¬ m * 4503599627370496 = 0 := by omega
      rw [if_neg hm]
      have hlog : (m * 4503599627370496).log2 = 104 := by
        rw [Nat.log2_eq_iff hm]
        omega
      rw [hlog]
      have hl : double.leastPlace = -1074 := by decide +kernel
      have hf : double.fractionBits = 52 := rfl
      have hb : double.binade = 4503599627370496 := by decide +kernel
      have hi : double.infRung = 9218868437227405312 := by decide +kernel
      rw [hl, hf, hb, hi]
      have e2 : max (971 + -51 + (104 : Nat) - (52 : Nat) : Int) (-1074) = 972 := by omega
      rw [e2]
      have e3 : ((971 + -51 : Int) - 972).toNat = 0 := by omega
      have e4 : ((972 : Int) - (971 + -51)).toNat = 52 := by omega
      have e5 : ((972 : Int) - -1074).toNat = 2046 := by omega
      rw [e3, e4, e5, Nat.shiftLeft_zero]
      have hk := cut_even_ge (Bool.xor true false) (m * 4503599627370496) 52 (by rw [hlog]; omega)
      rw [show (2 : Nat) ^ 52 = 4503599627370496 by decide, Nat.mul_div_cancel _ (by decide)] at hk
      rw [Nat.min_eq_right (by omega)]
      decide +kernel
theorem ninf_ne {c : Nat} (hc : c < 18446744073709551616) (h : double.order ninf c = some .eq) : c = ninf := by
  unfold Format.order at h
  have hn : double.read ninf = .infinity true := by decide +kernel
  rw [hn] at h
  cases hq : double.read c with
  | nan s t => rw [hq] at h; simp [Datum.order] at h
  | number s m e => rw [hq] at h; simp [Datum.order] at h
  | infinity s =>
    rw [hq] at h
    cases s
    · simp [Datum.order] at h
    · unfold Format.read at hq
      have hb : double.binade = 4503599627370496 := by decide +kernel
      have hsw : double.signWeight = 9223372036854775808 := by decide +kernel
      have hi : double.infRung = 9218868437227405312 := by decide +kernel
      rw [hb, hsw, hi] at hq
      simp only at hq
      split at hq
      · cases hq
      · split at hq
        · cases hq
        · split at hq
          · rename_i h3
            simp only [Datum.infinity.injEq, beq_iff_eq] at hq
            unfold ninf
            omega
          · cases hq
end Go.Proofs.YtphaeodcomgffaaGreat
