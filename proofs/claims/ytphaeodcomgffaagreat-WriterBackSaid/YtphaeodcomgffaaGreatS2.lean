import Derived.Test.YtphaeodcomgffaaGreatB2
import Derived.Test.YtphaeodcomgffaaGreatM1
import Derived.Deep.RegionLaw
set_option linter.unusedVariables false
set_option linter.unusedSimpArgs false
namespace Go.Proofs.YtphaeodcomgffaaGreat
open Go.RowKit

theorem under74 : Tryz.prog.underlying 27 = some (.slice 74) := by kernel_rfl
theorem infoF : (Tryz.prog.info? 74).map (fun i => (i.zero, i.size, i.bytes)) = some (some (.float .f64 0), 1, 8) := by kernel_rfl
theorem underI : Tryz.prog.underlying 141 = some (.slice 3) := by kernel_rfl
theorem infoI : (Tryz.prog.info? 3).map (fun i => (i.zero, i.size, i.bytes)) = some (some (.int .i64 0), 1, 8) := by kernel_rfl
theorem info_three {T : TypeId} {z : Value} {s b : Nat} (h : (Tryz.prog.info? T).map (fun i => (i.zero, i.size, i.bytes)) = some (some z, s, b)) : ∃ i, Tryz.prog.info? T = some i ∧ i.zero = some z ∧ i.size = s ∧ i.bytes = b := by
  cases h2 : Tryz.prog.info? T with
  | none => rw [h2] at h; cases h
  | some i => rw [h2] at h; simp at h; exact ⟨i, rfl, h.1, h.2.1, h.2.2⟩

/-- A stack of numbers: its block N (role a), its row (role b). -/
structure StF (ro : Nat → Nat) (a b : Nat) (w : World) (N : Nat) (v : Value) (l : List Nat) (room : Int) : Prop where
  blk : Blk ro a w N #[v, .int .i64 room] 232
  own : OwnL cF ro b w 74 1 v l
/-- A stack of whole numbers. -/
structure StI (ro : Nat → Nat) (a b : Nat) (w : World) (N : Nat) (v : Value) (l : List Int) (room : Int) : Prop where
  blk : Blk ro a w N #[v, .int .i64 room] 235
  own : OwnL cI ro b w 3 1 v l
theorem StF.keep {ro ro' : Nat → Nat} {a b : Nat} {w w' : World} {N v l room R} (h : StF ro a b w N v l room) (m : Mv ro R w ro' w') (ha : a ∉ R) (hb : b ∉ R) : StF ro' a b w' N v l room := ⟨h.blk.keep m ha, h.own.keep m hb⟩
theorem StI.keep {ro ro' : Nat → Nat} {a b : Nat} {w w' : World} {N v l room R} (h : StI ro a b w N v l room) (m : Mv ro R w ro' w') (ha : a ∉ R) (hb : b ∉ R) : StI ro' a b w' N v l room := ⟨h.blk.keep m ha, h.own.keep m hb⟩

set_option maxRecDepth 100000 in
theorem slen_walk (ro : Nat → Nat) (a b : Nat) (w : World) (N : Nat) (v : Value) (l : List Nat) (room : Int) (h : StF ro a b w N v l room) : Calls Tryz.prog 162 #[.pointer (some ⟨N, 0, none⟩)] w fun e w' => e = .returned (.int .i64 l.length) ∧ w' = w := by
  have hc := h.blk.cell
  obtain ⟨p, c, rfl⟩ := h.own.form
  clear h
  go_enter Tryz.func162, Tryz.ntmps162
  go_wp2
  go_ret
  exact ⟨rfl, rfl⟩
set_option maxRecDepth 100000 in
theorem ilen_walk (ro : Nat → Nat) (a b : Nat) (w : World) (N : Nat) (v : Value) (l : List Int) (room : Int) (h : StI ro a b w N v l room) : Calls Tryz.prog 163 #[.pointer (some ⟨N, 0, none⟩)] w fun e w' => e = .returned (.int .i64 l.length) ∧ w' = w := by
  have hc := h.blk.cell
  obtain ⟨p, c, rfl⟩ := h.own.form
  clear h
  go_enter Tryz.func163, Tryz.ntmps163
  go_wp2
  go_ret
  exact ⟨rfl, rfl⟩

theorem toList1 (v : Value) : (#[v] : Array Value).toList = [v] := rfl
/-- Behind an append to a row of a role: the row, and how the worlds stand. -/
theorem grown_own {α : Type} {f : α → List Value} {ro : Nat → Nat} {r : Nat} {w W w6 : World} {E size cap g m H : Nat} {v : Value} {l news : List α} {R : List Nat} (h : OwnL f ro r w E size v l) (mv : Mv ro R w ro W) (hn : r ∉ R)
    (h2 : w6.ownsRow 0 E size (.slice (some ⟨g, 0, none⟩) m cap) m ((l ++ news).flatMap f)) (hm : m = (l ++ news).length) (h3 : W.grownBy w6 v.ownBlock) (h4 : v.ownBlock = some g ∨ g = H) (hH : W.heap.size = H) :
    OwnL f (setRo ro H r) r w6 E size (.slice (some ⟨g, 0, none⟩) m cap) (l ++ news) ∧ Mv ro (r :: R) w (setRo ro H r) w6 := by
  subst hm
  subst hH
  have hW := h.keep mv hn
  exact ⟨Own.grown hW h2 h4, (mv.mono (by simp +contextual)).trans (Own.mv (R := r :: R) hW h3 (by simp))⟩

def Pushed {α : Type} (St : (Nat → Nat) → World → Value → List α → Prop) (ro : Nat → Nat) (R : List Nat) (w : World) (l : List α) (e : Ending) (w' : World) : Prop :=
  e = .returned (.int .i64 0) ∧ ∃ ro' v', St ro' w' v' l ∧ Mv ro R w ro' w'

set_option maxRecDepth 100000 in
set_option maxHeartbeats 1000000 in
theorem fpush_walk (ro : Nat → Nat) (a b : Nat) (w : World) (N : Nat) (v : Value) (l : List Nat) (room : Int) (x : Nat) (h : StF ro a b w N v l room) (hr : (l.length : Int) < room) (hm : room ≤ 65536) (hab : a ≠ b) :
    Calls Tryz.prog 171 #[.pointer (some ⟨N, 0, none⟩), .float .f64 x] w (Pushed (fun ro' w' v' l' => StF ro' a b w' N v' l' room) ro [a, b] w (l ++ [x])) := by
  have hc := h.blk.cell
  have hf := h.blk.free
  have hlt := h.blk.lt
  obtain ⟨p, c, rfl⟩ := h.own.form
  obtain ⟨i0, hi0, hz0, hs0, hby0⟩ := info_three infoF
  have I0 := Lib.hid hi0
  clear hi0
  have hne : ((l.length : Int) == room) = false := by simp; omega
  have hn6 : l.length < 65536 := by omega
  go_enter Tryz.func171, Tryz.ntmps171
  go_wp2
  go_quiet (fail)
  go_wp2_with (at_builtin; refine wpList_append_lies _ rfl (.tmp 19) (.tmp 21) 27 rfl 0 74 i0 _ 1 8 under74 I0.out hz0 hs0 hby0 rfl (by decide) (.slice p l.length c) l.length (l.flatMap cF) rfl (h.own.keep (((Mv.refl ro [] w).drewN nq).alloc _) (by simp)).own _ 1 1 [.float .f64 x] rfl rfl (World.news_of_block (heap_alloc_new _ _)) (by simp [Value.oneCell']) (by decide) (by unfold maxLen; omega) (by omega) (Nat.zero_le _) _ rfl ?_; intro g cap w6 h2 h3 h4 h5; obtain ⟨o6, m6⟩ := grown_own (news := [x]) h.own (((Mv.refl ro [] w).drewN nq).alloc _) (by simp) (by simpa [cF] using h2) (by simp) h3 h4 rfl; have b6 := h.blk.keep m6 (by simpa using hab); have hc6 := b6.cell; have hf6 := b6.free; clear hc hf h2 h3 h4 h5)
  go_ret
  exact ⟨rfl, _, _, ⟨b6.put rfl, by have := o6.away (u := .slice (some ⟨g, 0, none⟩) (l.length + 1) cap) (p := ⟨N, 0, none⟩) (by rw [b6.role]; exact hab); simpa using this⟩, (m6.mono (by simp)).setCell (List.mem_cons.2 (.inl b6.role)) _⟩

set_option maxRecDepth 100000 in
set_option maxHeartbeats 1000000 in
/-- The k-th from the top. -/
theorem fpick_walk (ro : Nat → Nat) (a b : Nat) (w : World) (N : Nat) (v : Value) (l : List Nat) (room : Int) (k : Nat) (h : StF ro a b w N v l room) (hk : k < l.length) (hm : l.length ≤ 65536) :
    Calls Tryz.prog 205 #[.pointer (some ⟨N, 0, none⟩), .int .i64 k] w fun e w' => e = .returned (.tuple #[.float .f64 (l.getD (l.length - 1 - k) 0), .int .i64 0]) ∧ ∃ q, w' = w.drewN q := by
  have hc := h.blk.cell
  obtain ⟨g, c, rfl, -, h1, h2⟩ := h.own.pos (by omega)
  have hx := h.own.at1 cF_len (i := l.length - 1 - k) (by omega)
  obtain ⟨j, hj⟩ : ∃ j, l.length = k + 1 + j := ⟨l.length - 1 - k, by omega⟩
  have e1 : l.length - 1 - k = j := by omega
  rw [show l.getD (l.length - 1 - k) 0 = l[l.length - 1 - k]'(by omega) by rw [List.getD_eq_getElem?_getD, List.getElem?_eq_getElem (by omega)]; rfl]
  obtain ⟨x, hx'⟩ : ∃ x, x = l[l.length - 1 - k]'(by omega) := ⟨_, rfl⟩
  rw [← hx'] at hx ⊢
  rw [e1] at hx
  simp only [cF, List.getElem?_cons_zero] at hx
  clear hx'
  rw [hj] at hc
  have h3 : ¬ ((k + 1 + j : Nat) : Int) ≤ k := by omega
  have h4 : ((k + 1 + j : Nat) : Int) - 1 - k = (j : Int) := by omega
  have h5 : (j : Int) < ((k + 1 + j : Nat) : Int) := by omega
  have h6 : k + 1 + j ≤ 65536 := by omega
  clear h hk hm e1 hj
  go_enter Tryz.func205, Tryz.ntmps205
  go_wp2
  go_quiet (fail)
  go_wp2
  go_ret2
  exact ⟨rfl, _, rfl⟩

def Popped {α : Type} (St : (Nat → Nat) → World → Value → List α → Prop) (ro : Nat → Nat) (R : List Nat) (w : World) (r : Value) (l : List α) (e : Ending) (w' : World) : Prop :=
  e = .returned (.tuple #[r, .int .i64 0]) ∧ ∃ v', St ro w' v' l ∧ Mv ro R w ro w'

set_option maxRecDepth 100000 in
set_option maxHeartbeats 1000000 in
theorem fpop_walk (ro : Nat → Nat) (a b : Nat) (w : World) (N : Nat) (v : Value) (l : List Nat) (room : Int) (h : StF ro a b w N v l room) (hk : 0 < l.length) (hm : l.length ≤ 65536) (hab : a ≠ b) :
    Calls Tryz.prog 207 #[.pointer (some ⟨N, 0, none⟩)] w (Popped (fun ro' w' v' l' => StF ro' a b w' N v' l' room) ro [a, b] w (.float .f64 (l.getD (l.length - 1) 0)) (l.take (l.length - 1))) := by
  have PK := fun W (m : Mv ro [] w ro W) => fpick_walk ro a b W N v l room 0 (h.keep m (by simp) (by simp)) hk hm
  have hc := h.blk.cell
  have hf := h.blk.free
  obtain ⟨g, c, rfl, hg, h1, h2⟩ := h.own.pos hk
  have HO := Lib.hid (h.own.front cF_len (k := l.length - 1) (by omega))
  have hB := h.blk
  obtain ⟨n, hn⟩ : ∃ n, l.length = n + 1 := ⟨l.length - 1, by omega⟩
  have e1 : l.length - 1 = n := by omega
  rw [e1] at HO ⊢
  obtain ⟨x, hx⟩ : ∃ x, x = l.getD n 0 := ⟨_, rfl⟩
  have PK' : ∀ W, Mv ro [] w ro W → Calls Tryz.prog 205 #[.pointer (some ⟨N, 0, none⟩), .int .i64 0] W fun e w' => e = .returned (.tuple #[.float .f64 x, .int .i64 0]) ∧ ∃ q, w' = W.drewN q := fun W m => by
    have := PK W m
    rwa [show l.length - 1 - 0 = n by omega, ← hx] at this
  rw [hn] at hc h1
  rw [← hx]
  have HB := Lib.hid hB
  have hn6 : n < 65536 := by omega
  clear PK h hB e1 hk hn hx hm
  go_enter Tryz.func207, Tryz.ntmps207
  go_wp2_with (go_at_call 205; refine (PK' _ (Mv.refl _ _ _)).mono ?_; rintro e w1 ⟨rfl, q, rfl⟩)
  go_region
  all_goals go_wp2
  all_goals go_ret2
  all_goals refine ⟨rfl, .slice (some ⟨g, 0, none⟩) n c, ⟨⟨(HB.out.put (v := .slice (some ⟨g, 0, none⟩) n c) (i := 0) rfl).heap, HB.out.role⟩, ?_⟩, ?_⟩
  · exact (HO.out.away (u := .slice (some ⟨g, 0, none⟩) n c) (p := ⟨N, 0, none⟩) (by rw [HB.out.role]; exact hab)).keep ((Mv.refl ro [] _).drewN (q + 1)) (by simp)
  · exact ((Mv.refl ro [a, b] w).setCell (p := ⟨N, 0, none⟩) (List.mem_cons.2 (.inl HB.out.role)) _).drewN (q + 1)
end Go.Proofs.YtphaeodcomgffaaGreat
set_option linter.unusedVariables false
set_option linter.unusedSimpArgs false
namespace Go.Proofs.YtphaeodcomgffaaGreat
open Go.RowKit

set_option maxRecDepth 100000 in
set_option maxHeartbeats 1000000 in
theorem ipush_walk (ro : Nat → Nat) (a b : Nat) (w : World) (N : Nat) (v : Value) (l : List Int) (room : Int) (x : Int) (h : StI ro a b w N v l room) (hr : (l.length : Int) < room) (hm : room ≤ 65536) (hab : a ≠ b) :
    Calls Tryz.prog 168 #[.pointer (some ⟨N, 0, none⟩), .int .i64 x] w (Pushed (fun ro' w' v' l' => StI ro' a b w' N v' l' room) ro [a, b] w (l ++ [x])) := by
  have hc := h.blk.cell
  have hf := h.blk.free
  have hlt := h.blk.lt
  obtain ⟨p, c, rfl⟩ := h.own.form
  obtain ⟨i0, hi0, hz0, hs0, hby0⟩ := info_three infoI
  have I0 := Lib.hid hi0
  clear hi0
  have hne : ((l.length : Int) == room) = false := by simp; omega
  have hn6 : l.length < 65536 := by omega
  go_enter Tryz.func168, Tryz.ntmps168
  go_wp2
  go_quiet (fail)
  go_wp2_with (at_builtin; refine wpList_append_lies _ rfl (.tmp 19) (.tmp 21) 141 rfl 0 3 i0 _ 1 8 underI I0.out hz0 hs0 hby0 rfl (by decide) (.slice p l.length c) l.length (l.flatMap cI) rfl (h.own.keep (((Mv.refl ro [] w).drewN nq).alloc _) (by simp)).own _ 1 1 [.int .i64 x] rfl rfl (World.news_of_block (heap_alloc_new _ _)) (by simp [Value.oneCell']) (by decide) (by unfold maxLen; omega) (by omega) (Nat.zero_le _) _ rfl ?_; intro g cap w6 h2 h3 h4 h5; obtain ⟨o6, m6⟩ := grown_own (news := [x]) h.own (((Mv.refl ro [] w).drewN nq).alloc _) (by simp) (by simpa [cI] using h2) (by simp) h3 h4 rfl; have b6 := h.blk.keep m6 (by simpa using hab); have hc6 := b6.cell; have hf6 := b6.free; clear hc hf h2 h3 h4 h5)
  go_ret
  exact ⟨rfl, _, _, ⟨b6.put rfl, by have := o6.away (u := .slice (some ⟨g, 0, none⟩) (l.length + 1) cap) (p := ⟨N, 0, none⟩) (by rw [b6.role]; exact hab); simpa using this⟩, (m6.mono (by simp)).setCell (List.mem_cons.2 (.inl b6.role)) _⟩

set_option maxRecDepth 100000 in
set_option maxHeartbeats 1000000 in
/-- The k-th from the top. -/
theorem ipick_walk (ro : Nat → Nat) (a b : Nat) (w : World) (N : Nat) (v : Value) (l : List Int) (room : Int) (k : Nat) (h : StI ro a b w N v l room) (hk : k < l.length) (hm : l.length ≤ 65536) :
    Calls Tryz.prog 208 #[.pointer (some ⟨N, 0, none⟩), .int .i64 k] w fun e w' => e = .returned (.tuple #[.int .i64 (l.getD (l.length - 1 - k) 0), .int .i64 0]) ∧ ∃ q, w' = w.drewN q := by
  have hc := h.blk.cell
  obtain ⟨g, c, rfl, -, h1, h2⟩ := h.own.pos (by omega)
  have hx := h.own.at1 cI_len (i := l.length - 1 - k) (by omega)
  obtain ⟨j, hj⟩ : ∃ j, l.length = k + 1 + j := ⟨l.length - 1 - k, by omega⟩
  have e1 : l.length - 1 - k = j := by omega
  rw [show l.getD (l.length - 1 - k) 0 = l[l.length - 1 - k]'(by omega) by rw [List.getD_eq_getElem?_getD, List.getElem?_eq_getElem (by omega)]; rfl]
  obtain ⟨x, hx'⟩ : ∃ x, x = l[l.length - 1 - k]'(by omega) := ⟨_, rfl⟩
  rw [← hx'] at hx ⊢
  rw [e1] at hx
  simp only [cI, List.getElem?_cons_zero] at hx
  clear hx'
  rw [hj] at hc
  have h3 : ¬ ((k + 1 + j : Nat) : Int) ≤ k := by omega
  have h4 : ((k + 1 + j : Nat) : Int) - 1 - k = (j : Int) := by omega
  have h5 : (j : Int) < ((k + 1 + j : Nat) : Int) := by omega
  have h6 : k + 1 + j ≤ 65536 := by omega
  clear h hk hm e1 hj
  go_enter Tryz.func208, Tryz.ntmps208
  go_wp2
  go_quiet (fail)
  go_wp2
  go_ret2
  exact ⟨rfl, _, rfl⟩

set_option maxRecDepth 100000 in
set_option maxHeartbeats 1000000 in
theorem ipop_walk (ro : Nat → Nat) (a b : Nat) (w : World) (N : Nat) (v : Value) (l : List Int) (room : Int) (h : StI ro a b w N v l room) (hk : 0 < l.length) (hm : l.length ≤ 65536) (hab : a ≠ b) :
    Calls Tryz.prog 169 #[.pointer (some ⟨N, 0, none⟩)] w (Popped (fun ro' w' v' l' => StI ro' a b w' N v' l' room) ro [a, b] w (.int .i64 (l.getD (l.length - 1) 0)) (l.take (l.length - 1))) := by
  have PK := fun W (m : Mv ro [] w ro W) => ipick_walk ro a b W N v l room 0 (h.keep m (by simp) (by simp)) hk hm
  have hc := h.blk.cell
  have hf := h.blk.free
  obtain ⟨g, c, rfl, hg, h1, h2⟩ := h.own.pos hk
  have HO := Lib.hid (h.own.front cI_len (k := l.length - 1) (by omega))
  have hB := h.blk
  obtain ⟨n, hn⟩ : ∃ n, l.length = n + 1 := ⟨l.length - 1, by omega⟩
  have e1 : l.length - 1 = n := by omega
  rw [e1] at HO ⊢
  obtain ⟨x, hx⟩ : ∃ x, x = l.getD n 0 := ⟨_, rfl⟩
  have PK' : ∀ W, Mv ro [] w ro W → Calls Tryz.prog 208 #[.pointer (some ⟨N, 0, none⟩), .int .i64 0] W fun e w' => e = .returned (.tuple #[.int .i64 x, .int .i64 0]) ∧ ∃ q, w' = W.drewN q := fun W m => by
    have := PK W m
    rwa [show l.length - 1 - 0 = n by omega, ← hx] at this
  rw [hn] at hc h1
  rw [← hx]
  have HB := Lib.hid hB
  have hn6 : n < 65536 := by omega
  clear PK h hB e1 hk hn hx hm
  go_enter Tryz.func169, Tryz.ntmps169
  go_wp2_with (go_at_call 208; refine (PK' _ (Mv.refl _ _ _)).mono ?_; rintro e w1 ⟨rfl, q, rfl⟩)
  go_region
  all_goals go_wp2
  all_goals go_ret2
  all_goals refine ⟨rfl, .slice (some ⟨g, 0, none⟩) n c, ⟨⟨(HB.out.put (v := .slice (some ⟨g, 0, none⟩) n c) (i := 0) rfl).heap, HB.out.role⟩, ?_⟩, ?_⟩
  · exact (HO.out.away (u := .slice (some ⟨g, 0, none⟩) n c) (p := ⟨N, 0, none⟩) (by rw [HB.out.role]; exact hab)).keep ((Mv.refl ro [] _).drewN (q + 1)) (by simp)
  · exact ((Mv.refl ro [a, b] w).setCell (p := ⟨N, 0, none⟩) (List.mem_cons.2 (.inl HB.out.role)) _).drewN (q + 1)

set_option maxRecDepth 100000 in
set_option maxHeartbeats 1000000 in
theorem ipick_none (ro : Nat → Nat) (a b : Nat) (w : World) (N : Nat) (v : Value) (room : Int) (h : StI ro a b w N v [] room) :
    Calls Tryz.prog 208 #[.pointer (some ⟨N, 0, none⟩), .int .i64 0] w fun e w' => e = .returned (.tuple #[.int .i64 0, .int .i64 41]) ∧ w' = w := by
  have hc := h.blk.cell
  obtain ⟨p, c, rfl⟩ := h.own.form
  clear h
  go_enter Tryz.func208, Tryz.ntmps208
  go_wp2
  go_ret2
  exact ⟨rfl, rfl⟩
set_option maxRecDepth 100000 in
set_option maxHeartbeats 1000000 in
theorem ipop_none (ro : Nat → Nat) (a b : Nat) (w : World) (N : Nat) (v : Value) (room : Int) (h : StI ro a b w N v [] room) :
    Calls Tryz.prog 169 #[.pointer (some ⟨N, 0, none⟩)] w fun e w' => e = .returned (.tuple #[.int .i64 0, .int .i64 41]) ∧ w' = w := by
  go_enter Tryz.func169, Tryz.ntmps169
  go_wp2_with (go_at_call 208; refine (ipick_none ro a b w N v room h).mono ?_; rintro e w1 ⟨rfl, rfl⟩)
  go_ret2
  exact ⟨rfl, rfl⟩

def Made {α : Type} (St : (Nat → Nat) → World → α → Prop) (mk : α → Value) (ro : Nat → Nat) (w : World) (e : Ending) (w' : World) : Prop :=
  ∃ x ro', e = .returned (mk x) ∧ St ro' w' x ∧ Mv ro [] w ro' w'
def ptr (N : Nat) : Value := .pointer (some ⟨N, 0, none⟩)

set_option maxRecDepth 100000 in
set_option maxHeartbeats 1000000 in
theorem fnew_walk (ro : Nat → Nat) (a b : Nat) (w : World) (room : Int) (h0 : 0 ≤ room) (h1 : room ≤ 65536) (hab : a ≠ b) :
    Calls Tryz.prog 125 #[.int .i64 room] w (Made (fun ro' w' N => StF ro' a b w' N (.slice none 0 0) [] room) ptr ro w) := by
  have e1 : max room 0 = room := by omega
  have e2 : min room 65536 = room := by omega
  go_enter Tryz.func125, Tryz.ntmps125
  go_wp2

  go_ret
  exact ⟨w.heap.size, setRo ro w.heap.size a, rfl, ⟨⟨heap_alloc_new _ _, setRo_at _ _ _⟩, OwnL.nil _ _ _ _ _ _⟩, ((Mv.refl ro [] w).alloc _).give (Nat.le_refl _)⟩
set_option maxRecDepth 100000 in
set_option maxHeartbeats 1000000 in
theorem inew_walk (ro : Nat → Nat) (a b : Nat) (w : World) (room : Int) (h0 : 0 ≤ room) (h1 : room ≤ 65536) (hab : a ≠ b) :
    Calls Tryz.prog 126 #[.int .i64 room] w (Made (fun ro' w' N => StI ro' a b w' N (.slice none 0 0) [] room) ptr ro w) := by
  have e1 : max room 0 = room := by omega
  have e2 : min room 65536 = room := by omega
  go_enter Tryz.func126, Tryz.ntmps126
  go_wp2

  go_ret
  exact ⟨w.heap.size, setRo ro w.heap.size a, rfl, ⟨⟨heap_alloc_new _ _, setRo_at _ _ _⟩, OwnL.nil _ _ _ _ _ _⟩, ((Mv.refl ro [] w).alloc _).give (Nat.le_refl _)⟩
end Go.Proofs.YtphaeodcomgffaaGreat
