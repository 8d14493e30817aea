import Derived.Test.YtldhlkkclmifmaaRows
import Derived.WalkKit
import Derived.WalkSpells
import Derived.WalkLawsBesides
import Derived.Deep.QuietTactic
import Derived.BigQuiet
import Derived.RegionTactic
import Derived.ChangeAlike
import Derived.Deep.Draws
import Derived.Lib.Hide
import Derived.Laws.StructEq
namespace Go.Proofs.Ytldhlkkclmifmaa
open Go.RowKit

/-- '==' on two arrays whose elements are bools. -/
theorem run_equalIn_bools {P : Program} (w : World) (d : Nat) (t e len : Nat) (xs ys : Array Value) (x y : Nat → Bool)
    (ht : P.underlying t = some (.array len e)) (he : P.underlying e = some .bool) (hs : (P.info? e).map (·.size) = some 1)
    (hx : ∀ i < len, xs[i]? = some (.bool (x i))) (hy : ∀ i < len, ys[i]? = some (.bool (y i))) :
    (Op.equalIn (d + 2) t (.agg xs) (.agg ys)).run P w = .ok ((List.range len).all fun i => x i == y i) w := by
  have hsz : (sizeOf e).run P w = .ok 1 w := by
    cases hq : P.info? e with
    | none => simp [hq] at hs
    | some i => simp [hq] at hs; simp [sizeOf, typeInfo, Sem.run_bind, hq, hs]
  have hagg : (isAgg e).run P w = .ok false w := by
    unfold isAgg
    rw [Sem.run_bind, run_underlying he w]
    simp
  obtain ⟨m, hm⟩ : ∃ m, m = d + 1 := ⟨_, rfl⟩
  have key : ∀ l : List Nat, (∀ i ∈ l, i < len) → 
      (forIn l ((none, ()) : Option Bool × Unit) fun i _ => do
        let a ← part e xs (i * 1)
        let b ← part e ys (i * 1)
        let r ← Op.equalIn m e a b
        if (!r) = true then pure (ForInStep.done (some false, ())) else pure (ForInStep.yield (none, ()))).run P w = .ok (if l.all (fun i => x i == y i) then (none, ()) else (some false, ())) w := by
    intro l
    induction l with
    | nil => intro _; simp
    | cons i l ih =>
      intro hl
      have h1 : (part e xs (i * 1)).run P w = .ok (.bool (x i)) w := by
        simp [part, Sem.run_bind, hagg, hx i (hl i (by simp))]
      have h2 : (part e ys (i * 1)).run P w = .ok (.bool (y i)) w := by
        simp [part, Sem.run_bind, hagg, hy i (hl i (by simp))]
      subst hm
      simp only [List.forIn_cons, Sem.run_bind, h1, h2, Result.andThen_ok, run_equalIn_bool w d e _ _ he]
      have ih' := ih (fun j hj => hl j (by simp [hj]))
      by_cases hb : (x i == y i) = true
      · simp only [hb, Bool.not_true, Bool.false_eq_true, if_false, Sem.run_pure, Result.andThen_ok]
        rw [ih']
        simp [hb]
      · simp only [Bool.not_eq_true] at hb
        simp [hb]
  have k := key (List.range' 0 len) (by intro i hi; simp at hi; omega)
  rw [show d + 2 = m + 1 by omega]
  simp only [Op.equalIn, Sem.run_bind, run_underlying ht, Result.andThen_ok, hsz]
  simp only [Std.Legacy.Range.forIn_eq_forIn_range', Std.Legacy.Range.size]
  simp only [Nat.sub_zero, Nat.add_sub_cancel, Nat.div_one]
  rw [k, ← List.range_eq_range']
  cases (List.range len).all fun i => x i == y i <;> simp
theorem run_eql_bools {P : Program} (w : World) (t e len : Nat) (xs ys : Array Value) (x y : Nat → Bool)
    (ht : P.underlying t = some (.array len e)) (he : P.underlying e = some .bool) (hs : (P.info? e).map (·.size) = some 1)
    (hx : ∀ i < len, xs[i]? = some (.bool (x i))) (hy : ∀ i < len, ys[i]? = some (.bool (y i))) :
    (binOp .eql t (.agg xs) (.agg ys)).run P w = .ok (.bool ((List.range len).all fun i => x i == y i)) w := by
  rw [run_eql_struct, run_equalIn_bools w 9998 t e len xs ys x y ht he hs hx hy]; rfl
theorem run_neq_bools {P : Program} (w : World) (t e len : Nat) (xs ys : Array Value) (x y : Nat → Bool)
    (ht : P.underlying t = some (.array len e)) (he : P.underlying e = some .bool) (hs : (P.info? e).map (·.size) = some 1)
    (hx : ∀ i < len, xs[i]? = some (.bool (x i))) (hy : ∀ i < len, ys[i]? = some (.bool (y i))) :
    (binOp .neq t (.agg xs) (.agg ys)).run P w = .ok (.bool (!(List.range len).all fun i => x i == y i)) w := by
  rw [run_neq_struct, run_equalIn_bools w 9998 t e len xs ys x y ht he hs hx hy]; rfl
end Go.Proofs.Ytldhlkkclmifmaa
