import Derived.Test.YtphaeodcomgffaaGreatWE
import Derived.Test.YtphaeodcomgffaaGreatVV
import Derived.Test.YtphaeodcomgffaaGreatLG
set_option linter.unusedVariables false
set_option linter.unusedSimpArgs false
namespace Go.Proofs.YtphaeodcomgffaaGreat
open Go.RowKit

/-! WriterBack: the census emptied; rows of bools; that it is over in time. -/
def zeroC (w : List Nat) : Nat → List Nat
  | 0 => w
  | n + 1 => (zeroC w n).set (3 + n) 0
theorem zeroC_len (w : List Nat) : ∀ n, (zeroC w n).length = w.length
  | 0 => rfl
  | n + 1 => by show ((zeroC w n).set _ _).length = _; rw [List.length_set, zeroC_len w n]
theorem zeroC_low (w : List Nat) {i : Nat} (hi : i < 3) : ∀ n, (zeroC w n).getD i 0 = w.getD i 0
  | 0 => rfl
  | n + 1 => by show ((zeroC w n).set _ _).getD i 0 = _; rw [getD_set_ne _ _ (by omega), zeroC_low w hi n]
theorem zeroC_at (w : List Nat) {t : Nat} : ∀ n, t < n → 3 + n ≤ w.length → (zeroC w n).getD (3 + t) 0 = 0
  | 0, h, _ => absurd h (by omega)
  | n + 1, h, hl => by
    show ((zeroC w n).set _ _).getD (3 + t) 0 = _
    by_cases e : t = n
    · rw [e]; exact getD_set_eq _ _ (by rw [zeroC_len]; omega)
    · rw [getD_set_ne _ _ (by omega)]; exact zeroC_at w n (by omega) (by omega)
theorem zeroC_fit {w : List Nat} (h : ∀ x ∈ w, x < 18446744073709551616) : ∀ n, ∀ x ∈ zeroC w n, x < 18446744073709551616
  | 0 => h
  | n + 1 => set_fit (zeroC_fit h n) _ (by decide)
theorem zeroC_sv {w : List Nat} (V : Sv w) (n : Nat) : Sv (zeroC w n) :=
  ⟨by rw [zeroC_low w (by decide)]; exact V.next, by rw [zeroC_low w (by decide)]; exact V.stamp, by rw [zeroC_low w (by decide), zeroC_low w (by decide)]; exact V.serving⟩
/-- Where the census is empty each step leaves less. -/
theorem gh_left {C : Cfg} {tag : Int} {code : List Ins} {w ws : List Nat} {s : Wr} (hC : C.ok) (h : Wwf C code s) (hp : s.part ≤ 8) (V : Sv w) (hz : ∀ t : Nat, (t : Int) < C.threads → w.getD (3 + t) 0 = 0) (G : Gh C w s ws) : (s.step C tag code ws).1.left C < s.left C := by
  have h2 : s.part = 2 → ws.getD 1 0 = s.ticket := fun e => by
    rw [G.p5 (by omega) (by omega), drawn_other w (by decide), V.serving, G.ticket (by omega)]
  refine (step_left (C := C) (tag := tag) (code := code) (words := ws) hC h hp h2).2 fun e5 => ?_
  obtain ⟨g, hg, g0, g1, _⟩ := h.scan5 e5
  rw [hg, Option.getD_some]
  intro hh
  refine hh.1 ?_
  rw [G.p5 (by omega) (by omega), drawn_other w (by omega), show (3 + g.1).toNat = 3 + g.1.toNat by omega]
  exact hz _ (by omega)
/-- A row of bools. -/
def cBo (b : Bool) : List Value := [.bool b]
theorem cBo_len (b : Bool) : (cBo b).length = 1 := rfl
theorem set_flatB (l : List Bool) (i : Nat) (x : Bool) : (l.set i x).flatMap cBo = (l.flatMap cBo).set i (.bool x) := by
  induction l generalizing i with
  | nil => simp
  | cons a l ih =>
    cases i with
    | zero => simp [cBo]
    | succ i =>
      have := ih i
      simp only [List.set_cons_succ, List.flatMap_cons, cBo, List.singleton_append] at this ⊢
      rw [← this]
theorem OwnL.setBo {ro : Nat → Nat} {r : Nat} {w : World} {E g n cap : Nat} {l : List Bool} (h : OwnL cBo ro r w E 1 (.slice (some ⟨g, 0, none⟩) n cap) l) (i : Nat) (x : Bool) (hi : i < l.length) : OwnL cBo ro r (w.setCell ⟨g, i, none⟩ (.bool x)) E 1 (.slice (some ⟨g, 0, none⟩) n cap) (l.set i x) := by
  have hl : n = l.length := by obtain ⟨a, c, e⟩ := h.form; cases e; rfl
  subst hl
  refine ⟨⟨?_, ?_⟩, fun k hk => h.role k hk⟩
  · rw [set_flatB, List.length_set, List.length_set]; exact h.own.1
  · rcases h.own.2 with ⟨h1, h2⟩ | ⟨g', cap', cur, h1, hB, hg, hc, hm, hs, ht⟩
    · cases h1
    · cases h1
      refine .inr ⟨g, cap, cur.setIfInBounds i (.bool x), by rw [List.length_set], hB, heap_put hg rfl, by rw [List.length_set]; exact hc, hm, by simpa using hs, ?_⟩
      rw [List.length_set, set_flatB, ← ht, Array.toList_setIfInBounds, List.take_set]
theorem zeros_flatB (n : Nat) : (List.replicate n false).flatMap cBo = List.replicate n (.bool false) := by
  induction n with
  | zero => rfl
  | succ n ih => rw [List.replicate_succ, List.replicate_succ, List.flatMap_cons, ih]; rfl
theorem OwnL.zerosB (ro : Nat → Nat) (r : Nat) (w : World) (n : Nat) (hn : n ≤ maxLen) : OwnL cBo (setRo ro w.heap.size r) r (w.alloc (.cells (madeCells #[.bool false] n) 4)) 4 1 (.slice (some ⟨w.heap.size, 0, none⟩) n n) (List.replicate n false) := by
  have h := World.ownsRow_lit (base := 0) (size := 1) (e := 4) w (madeCells #[.bool false] n) n (Nat.zero_le _) hn (by rw [size_madeCells, Nat.mul_one])
  rw [toList_madeCells_one] at h
  refine ⟨by rw [List.length_replicate, zeros_flatB]; exact h, fun k hk => ?_⟩
  simp only [Value.ownBlock, Option.some.injEq] at hk
  subst hk
  exact setRo_at _ _ _
theorem infoB : (Tryz.prog.info? 4).map (fun i => (i.zero, i.size, i.bytes)) = some (some (.bool false), 1, 1) := by kernel_rfl
theorem underB : Tryz.prog.underlying 98 = some (.slice 4) := by kernel_rfl
theorem bk_deed_end (u0 u1 u2 u3 u4 u5 u6 u7 u8 u9 u10 u11 u12 u13 u14 u15 u16 u17 u18 : Value) (W : World) : (Instr.field 63 (.agg #[u0, u1, u2, u3, u4, u5, u6, u7, u8, u9, u10, u11, u12, u13, u14, u15, u16, u17, u18]) 10).run Tryz.prog W = .ok (.agg #[u10, u11, u12]) W := by kernel_rfl
theorem bk_runP {f : Nat} {av : Array Value} {W : World} {ro : Nat → Nat} {r rm : Nat} {w : World} {X : Nat} {C : Cfg} {tag : Int} {code : List Ins} {args : List Nat} {s : Wr} {MB : Nat} {v : Value} {words : List Nat} {op : Bool} {cnt : Int} {val val' : Value}
    (h : Calls Tryz.prog f av W (WrP ro r rm w X C tag code args s MB v words op cnt val)) (e : val' = val) : Calls Tryz.prog f av W (WrP ro r rm w X C tag code args s MB v words op cnt val') := by subst e; exact h
set_option maxRecDepth 100000 in
theorem bits5_walk (b : Nat) (w : World) : Calls Tryz.prog 44 #[.int .u64 b] w fun e w' => e = .returned (.int .u64 (fx b)) ∧ w' = w := by
  have e38 := run_frombits
  cases h : bad b
  · have h2 : (FloatKind.f64.format.order b b != some Ordering.eq) = false := h
    have g : fx b = b := by simp [fx, h]
    rw [g]
    clear h g
    go_enter Tryz.func44, Tryz.ntmps44
    go_wp2
    go_ret
    exact ⟨rfl, rfl⟩
  · have h2 : (FloatKind.f64.format.order b b != some Ordering.eq) = true := h
    have g : fx b = theNaN := by simp [fx, h]
    rw [g]
    clear h g
    go_enter Tryz.func44, Tryz.ntmps44
    go_wp2
    go_ret
    exact ⟨rfl, rfl⟩
/-- Which cells the first writes have. -/
def marks (n : Nat) (l : List (Int × Nat)) : List Bool := (List.range n).map fun (c : Nat) => decide ((c : Int) ∈ l.map (·.1))
theorem marks_len (n : Nat) (l : List (Int × Nat)) : (marks n l).length = n := by unfold marks; simp
theorem marks_nil (n : Nat) : marks n [] = List.replicate n false := by
  unfold marks
  refine List.ext_getElem (by simp) fun i h1 h2 => ?_
  simp
theorem marks_at {n : Nat} {l : List (Int × Nat)} {i : Nat} (h : i < (marks n l).length) : (marks n l)[i] = decide ((i : Int) ∈ l.map (·.1)) := by
  have h2 : (marks n l)[i]? = some (decide ((i : Int) ∈ l.map (·.1))) := by
    have hi : i < n := by rw [marks_len] at h; exact h
    unfold marks
    rw [List.getElem?_map, List.getElem?_range hi]
    rfl
  rw [List.getElem?_eq_getElem h] at h2
  exact Option.some.inj h2
theorem marks_set {n : Nat} {l : List (Int × Nat)} {c : Nat} {x : Nat} (hc : c < n) : (marks n l).set c true = marks n (l ++ [((c : Int), x)]) := by
  refine List.ext_getElem (by simp [marks_len]) fun i h1 h2 => ?_
  rw [List.getElem_set, marks_at, marks_at]
  by_cases e : c = i
  · rw [if_pos e, ← e]; simp
  · rw [if_neg e]
    simp [show ¬ (i : Int) = c by omega]
theorem nodup_take {l : List (Int × Nat)} (hn : (l.map (·.1)).Nodup) {k : Nat} (hk : k < l.length) : l[k].1 ∉ (l.take k).map (·.1) := by
  induction l generalizing k with
  | nil => simp at hk
  | cons a l ih =>
    rw [List.map_cons, List.nodup_cons] at hn
    cases k with
    | zero => simp
    | succ k =>
      have hk' : k < l.length := by simpa using hk
      rw [List.take_succ_cons, List.map_cons, List.getElem_cons_succ]
      intro h
      rcases List.mem_cons.1 h with h | h
      · exact hn.1 (by rw [← h]; exact List.mem_map.2 ⟨_, List.getElem_mem hk', rfl⟩)
      · exact ih hn.2 hk' h
end Go.Proofs.YtphaeodcomgffaaGreat
