import Derived.Test.YtldhlkkclmifmaaE2
import Derived.Maps.AppendAt
set_option linter.unusedVariables false
set_option linter.unusedSimpArgs false
namespace Go.Proofs.Ytldhlkkclmifmaa
open Go.RowKit

theorem RefUp.then {w w1 w2 : World} {rb : Nat} {n : Int} {s : ST} {D D1 : List Nat} {r r' : Value} {e : Ending} (h : RefUp w1 rb n s D1 r e w2) (c : Chg D w w1) (hD : ∀ x ∈ D1, x ∈ D ∨ w.heap.size ≤ x) : RefUp w rb n s D r' (.returned r') w2 := by
  obtain ⟨_, D', h1, h2, h3⟩ := h
  refine ⟨rfl, D', h1, ⟨h2.os.trans c.os, h2.tape.trans c.tape, h2.output.trans c.output, Nat.le_trans c.size h2.size, fun k hk hn => ?_⟩, fun x hx => ?_⟩
  · refine (h2.block k (Nat.lt_of_lt_of_le hk c.size) fun hx => ?_).trans (c.block k hk hn)
    rcases hD k hx with h | h
    · exact hn h
    · omega
  · rcases h3 x hx with h | h
    · exact hD x h
    · exact .inr (Nat.le_trans c.size h)

/-- append of one whole number: and where the new row lies. -/
theorem push_at {wr : World} {k : Int} {T : TypeId} {ops : Array Oper} {rest : List Oper} {o : Oper} {a : Act} {Q : Exit → Act → World → Prop} (hgd : o.guard = none) (s x : Operand)
    (ho : o.op = .call { callee := .builtin .append, args := #[s, x], argTypes := #[26, 26] })
    (B : Nat) (l : List Int) (v : Value) (hs : a.eval s = v) (hown : OwnI wr B v l) (hx : a.eval x = .slice (some ⟨wr.heap.size, 0, none⟩) 1 1)
    (h63 : l.length < 1000000000000) (hB : B ≤ wr.heap.size)
    (h : ∀ v' w', OwnI w' B v' (l ++ [k]) → (wr.alloc (.cells #[.int .i64 k] T)).grownBy w' v.ownBlock → (∀ j, v'.ownBlock = some j → v.ownBlock = some j ∨ wr.heap.size ≤ j) → wpList Try.prog ops Q rest (a.put o.dst v') w') :
    wpList Try.prog ops Q (o :: rest) a (wr.alloc (.cells #[.int .i64 k] T)) := by
  obtain ⟨i0, hi, hz0, hz1, hz2⟩ := info_parts info3
  refine wpList_append_own_at _ hgd s x 26 ho B 3 i0 (.int .i64 0) 1 8 under26 hi hz0 hz1 hz2 rfl (by decide) v l.length _ hs (hown.alloc _) ⟨wr.heap.size, 0, none⟩ 1 1 [.int .i64 k] hx rfl ?_ ?_ ?_ ?_ ?_ ?_
  · intro j u hj
    match j, hj with
    | 0, hj => simp at hj; subst hj; exact cell_of_row _ _ _ _ _ _ (heap_alloc_new _ _)
  · intro u hu; simp at hu; subst hu; rfl
  · unfold maxLen; omega
  · omega
  · simp; omega
  · intro v' w' h1 h2 _ h4
    refine h v' w' ?_ h2 fun j hj => ?_
    · simpa [OwnI] using h1
    · rcases h4 with h4 | h4
      · exact .inl (h4 ▸ hj)
      · rw [h4] at hj; right; simp at hj; omega
theorem OwnI.some_ {w : World} {B : Nat} {v : Value} {l : List Int} (h : OwnI w B v l) (hl : 0 < l.length) : ∃ g c, v = .slice (some ⟨g, 0, none⟩) l.length c := by
  rcases h.2 with ⟨_, h2⟩ | ⟨g, cap, cur, h1, _⟩
  · omega
  · exact ⟨g, cap, h1⟩
theorem grown_old {w w1 : World} {o x : Obj} {row : Option Nat} {b : Nat} (hg : (w.alloc o).grownBy w1 row) (h : w.heap[b]? = some x) (hne : row ≠ some b) : w1.heap[b]? = some x := by
  have hlt := lt_of_heap h
  refine (hg.block b ?_ (fun e => hne e.symm)).trans ((Below.heap_alloc w o b hlt).trans h)
  simp only [World.size_alloc]
  omega
set_option maxHeartbeats 1000000 in
theorem rstep_any (w : World) (rb : Nat) (n : Int) (s : ST) (D : List Nat) (h : Ref w rb n s D) (hi : s.Inv n) (h0 : 0 ≤ n) (hn : n ≤ 8) (o1 : 0 ≤ s.o) (o2 : s.o < 9223372036854775807) (t : Int) :
    Calls Try.prog 28 #[.pointer (some ⟨rb, 0, none⟩), .int .i64 t] w (RefUp w rb n (s.step n t) D (.int .i64 (tCode n t))) := by
  obtain ⟨g, vS, fl, st, h1, rfl⟩ := h
  have hlen := h1.len
  have H := Lib.hid h1
  have c0 := cell_of_row w rb 0 _ _ _ h1.head
  have c1 := cell_of_row w rb 1 _ _ _ h1.head
  have f0 : ∀ o, w.frozen? ⟨rb, o, none⟩ = false := fun o => frozen_of_row w rb o _ _ h1.head
  have INV := Lib.hid hi
  clear h1 hi
  by_cases ht : 0 ≤ t ∧ t < n
  · have CODE := Lib.hid (show tCode n t = 0 from by simp [tCode, ht])
    have ST1 := Lib.hid (show s.step n t = ⟨s.L, stepS s.L s.S t.toNat, stepN s.L s.S s.o t.toNat⟩ from by unfold ST.step; rw [if_pos ht])
    obtain ⟨t0, t1⟩ := ht
    obtain ⟨k, rfl⟩ := Int.eq_ofNat_of_zero_le t0
    have hkf : (k : Int) < (fl.length : Int) := by omega
    have g1 := H.out.ownF.facts.2.2.2.1 k (by omega)
    rw [H.out.fin k t1] at g1
    have hS := H.out.stp k t1
    cases hL : s.L k
    · rw [hL] at g1
      have SE := Lib.hid (show s.step n k = s from by rw [ST1.out]; simp [stepS, stepN, hL])
      clear hL hS c1
      go_enter Try.func28, Try.ntmps28
      go_wp2_with fail
      refine (was_any _ rb n s g vS fl st H.out hn _).mono ?_; rintro e w5 ⟨rfl, rfl⟩
      go_wp2
      go_ret
      rw [SE.out, CODE.out]
      exact ⟨rfl, dom rb g vS, ⟨g, vS, fl, st, H.out, rfl⟩, Chg.refl _ _, fun x hx => .inl hx⟩
    · rw [hL] at g1 hS
      cases hm : decide ((k : Int) ∈ st)
      · rw [hm] at hS
        have hst := H.out.st8 hn
        have hblk := H.out.ownS.blk
        have ST2 := Lib.hid (show s.step n k = ST.look ⟨s.L, upd s.S k true, s.o⟩ from by rw [ST1.out]; simp [ST.look, stepS, stepN, hL])
        have hnm := Lib.hid (show ¬ (k : Int) ∈ st from by simpa using hm)
        have HLK := Lib.hid hL
        clear hL hS
        go_enter Try.func28, Try.ntmps28
        go_wp2_with fail
        refine (was_any _ rb n s g vS fl st H.out hn _).mono ?_; rintro e w5 ⟨rfl, rfl⟩
        rw [hm]
        clear hm
        have hlt := lt_of_heap H.out.head
        have hne := H.out.rb_ne
        have HNE := Lib.hid hne
        clear hne
        go_wp2_with (at_builtin; refine push_at rfl _ _ rfl 0 st vS rfl H.out.ownS rfl (by omega) (Nat.zero_le _) ?_; intro v' w1 hown1 hgrow hwh; obtain ⟨g', cap', rfl⟩ := hown1.some_ (by simp); have hd := grown_old hgrow H.out.head (fun e => (HNE.out.2 rb e).1 rfl); have hc1 := cell_of_row w1 rb 1 _ _ _ hd; have hf1 := frozen_of_row w1 rb 1 _ _ hd; have HD := Lib.hid hd; clear hd; have OWN1 := Lib.hid hown1; clear hown1; have GR := Lib.hid hgrow; clear hgrow; have WH := Lib.hid hwh; clear hwh)
        have k0 := heap_setCell_same w1 rb 1 _ _ (.slice (some ⟨g', 0, none⟩) (st ++ [(k : Int)]).length cap') HD.out
        have c1w : Chg (dom rb g vS) w w1 := ((Chg.refl (dom rb g vS) w).alloc _).grown GR.out (fun j hj => by
          left; simp [dom, hj])
        have c2w : Chg [rb] w1 (w1.setCell ⟨rb, 1, none⟩ (.slice (some ⟨g', 0, none⟩) (st ++ [(k : Int)]).length cap')) := (Chg.refl _ _).setCell (by simp) _
        have hgne : ∀ j, (Value.slice (some ⟨g', 0, none⟩) (st ++ [(k : Int)]).length cap').ownBlock = some j → j ≠ rb ∧ j ≠ g ∧ (some j = vS.ownBlock ∨ w.heap.size ≤ j) := by
          intro j hj
          have hF := H.out.ownF.facts.2.2.1
          rcases WH.out j hj with h | h
          · exact ⟨(HNE.out.2 j h).1, (HNE.out.2 j h).2, .inl h.symm⟩
          · exact ⟨by omega, by omega, .inr h⟩
        have REF : RefIs (w1.setCell ⟨rb, 1, none⟩ (.slice (some ⟨g', 0, none⟩) (st ++ [(k : Int)]).length cap')) rb n ⟨s.L, upd s.S k true, s.o⟩ g (.slice (some ⟨g', 0, none⟩) (st ++ [(k : Int)]).length cap') fl (st ++ [(k : Int)]) := by
          refine ⟨by simpa using k0, ?_, ?_, H.out.len, H.out.fin, fun i hi => ?_, fun x hx => ?_, ?_⟩
          · exact (H.out.ownF.keep (((Chg.refl vS.ownBlock.toList w).alloc _).grown GR.out (fun j hj => by left; simp [hj])) (fun j hj => by simp [Value.ownBlock] at hj; subst hj; simp; exact fun e => (HNE.out.2 g e).2 rfl)).keep c2w (fun j hj => by simp [Value.ownBlock] at hj; subst hj; simp; exact fun e => HNE.out.1 e.symm)
          · exact OWN1.out.keep c2w (fun j hj => by simpa using (hgne j hj).1)
          · by_cases e : i = k
            · subst e; simp [upd_same, HLK.out]
            · have := H.out.stp i hi
              simp only [upd_other _ _ e]
              rw [this]
              have : ¬ (i : Int) = k := by omega
              simp [this]
          · rcases List.mem_append.1 hx with h | h
            · exact H.out.stin x h
            · simp at h; omega
          · rw [List.nodup_append]
            exact ⟨H.out.nd, by simp, fun a ha b hb => by simp at hb; subst hb; exact fun e => hnm.out (e ▸ ha)⟩
        have CC := Lib.hid (c1w.trans (c2w.mono (by simp [dom])))
        have DD := Lib.hid (show ∀ x ∈ dom rb g (.slice (some ⟨g', 0, none⟩) (st ++ [(k : Int)]).length cap'), x ∈ dom rb g vS ∨ w.heap.size ≤ x from fun x hx => by
          simp only [dom, List.mem_cons, Option.mem_toList, Option.mem_def] at hx ⊢
          rcases hx with h | h | h
          · exact .inl (.inl h)
          · exact .inl (.inr (.inl h))
          · rcases WH.out x h with h' | h'
            · exact .inl (.inr (.inr h'))
            · exact .inr h')
        have RR := Lib.hid REF
        rw [List.length_append, List.length_singleton] at RR CC DD
        clear k0 c1w c2w hgne REF hc1 hf1 g1 c0 c1 f0
        refine (rlook_any _ rb n ⟨s.L, upd s.S k true, s.o⟩ g _ fl _ RR.out h0 hn INV.out.in_ (fun i hx => by
          by_cases e : i = k
          · rw [e]; exact HLK.out
          · simp only [upd_other _ _ e] at hx; exact INV.out.sub i hx) o1 o2).mono ?_
        intro e w3 hup
        have UP := Lib.hid hup
        obtain rfl := hup.1
        clear hup
        go_wp2
        go_ret
        rw [ST2.out, CODE.out]
        exact UP.out.then CC.out DD.out
      · have hst := H.out.st8 hn
        rw [hm] at hS
        have SE := Lib.hid (show s.step n k = s from by
          rw [ST1.out]
          obtain ⟨j, j1, j2⟩ := INV.out.due k hL
          have hu : upd s.S k true = s.S := funext fun i => by
            by_cases e : i = k
            · subst e; rw [upd_same, hS]; rfl
            · rw [upd_other _ _ e]
          have := look_not (o := s.o) (show j < 8 by have := INV.out.in_ j j1; omega) j1 j2
          simp [stepS, stepN, hL, hu, this])
        clear hL hS
        go_enter Try.func28, Try.ntmps28
        go_wp2_with fail
        refine (was_any _ rb n s g vS fl st H.out hn _).mono ?_; rintro e w5 ⟨rfl, rfl⟩
        rw [hm]
        clear hm
        go_wp2
        go_ret
        rw [SE.out, CODE.out]
        exact ⟨rfl, dom rb g vS, ⟨g, vS, fl, st, H.out, rfl⟩, Chg.refl _ _, fun x hx => .inl hx⟩
  · have CODE := Lib.hid (show tCode n t = 100 from by simp [tCode, ht])
    have SE := Lib.hid (show s.step n t = s from by unfold ST.step; rw [if_neg ht])
    have FIN := Lib.hid (show RefUp w rb n (s.step n t) (dom rb g vS) (.int .i64 (tCode n t)) (.returned (.int .i64 100)) w from by
      rw [SE.out, CODE.out]; exact ⟨rfl, dom rb g vS, ⟨g, vS, fl, st, H.out, rfl⟩, Chg.refl _ _, fun x hx => .inl hx⟩)
    by_cases hneg : t < 0
    · go_enter Try.func28, Try.ntmps28
      go_wp2
      go_ret
      exact FIN.out
    · have hge : (fl.length : Int) ≤ t := by omega
      clear ht
      go_enter Try.func28, Try.ntmps28
      go_wp2
      go_ret
      exact FIN.out

set_option maxHeartbeats 1000000 in
theorem rfin_any (w : World) (rb : Nat) (n : Int) (s : ST) (D : List Nat) (h : Ref w rb n s D) (hi : s.Inv n) (h0 : 0 ≤ n) (hn : n ≤ 8) (o1 : 0 ≤ s.o) (o2 : s.o < 9223372036854775807) (t : Int) :
    Calls Try.prog 29 #[.pointer (some ⟨rb, 0, none⟩), .int .i64 t] w (RefUp w rb n (s.fin n t) D (.int .i64 (tCode n t))) := by
  obtain ⟨g, vS, fl, st, h1, rfl⟩ := h
  have hlen := h1.len
  have H := Lib.hid h1
  have c0 := cell_of_row w rb 0 _ _ _ h1.head
  have INV := Lib.hid hi
  clear h1 hi
  by_cases ht : 0 ≤ t ∧ t < n
  · have CODE := Lib.hid (show tCode n t = 0 from by simp [tCode, ht])
    have ST1 := Lib.hid (show s.fin n t = ⟨finL s.L t.toNat, finS s.L s.S t.toNat, finN s.L s.S s.o t.toNat⟩ from by unfold ST.fin; rw [if_pos ht])
    obtain ⟨t0, t1⟩ := ht
    obtain ⟨k, rfl⟩ := Int.eq_ofNat_of_zero_le t0
    have hkf : (k : Int) < (fl.length : Int) := by omega
    have g1 := H.out.ownF.facts.2.2.2.1 k (by omega)
    have g2 := H.out.ownF.facts.2.2.2.2 k
    rw [H.out.fin k t1] at g1
    cases hL : s.L k
    · rw [hL] at g1
      have SE := Lib.hid (show s.fin n k = s from by rw [ST1.out]; simp [finL, finS, finN, hL])
      clear hL
      go_enter Try.func29, Try.ntmps29
      go_wp2
      go_ret
      rw [SE.out, CODE.out]
      exact ⟨rfl, dom rb g vS, ⟨g, vS, fl, st, H.out, rfl⟩, Chg.refl _ _, fun x hx => .inl hx⟩
    · rw [hL] at g1
      have ST2 := Lib.hid (show s.fin n k = ST.look ⟨upd s.L k false, upd s.S k false, s.o⟩ from by rw [ST1.out]; simp [ST.look, finL, finS, finN, hL])
      have HNE := Lib.hid H.out.rb_ne
      have cs : Chg [g] w (w.setCell ⟨g, k, none⟩ (.bool true)) := (Chg.refl _ _).setCell (by simp) _
      have k0 := (cs.block rb (lt_of_heap H.out.head) (by simp; exact HNE.out.1)).trans H.out.head
      have lk : (k : Nat) < fl.length := by omega
      have REF := Lib.hid (show RefIs (w.setCell ⟨g, k, none⟩ (.bool true)) rb n ⟨upd s.L k false, upd s.S k false, s.o⟩ g vS (fl.set k true) st from by
        refine ⟨by simpa using k0, by simpa using H.out.ownF.set k true, H.out.ownS.keep cs (fun j hj => by simp; exact (HNE.out.2 j hj).2), by simpa using H.out.len, fun i hin => ?_, fun i hin => ?_, H.out.stin, H.out.nd⟩
        · by_cases e : i = k
          · subst e; simp [upd_same, lk]
          · have := H.out.fin i hin
            simp only [upd_other _ _ e, List.getD, List.getElem?_set_ne (show k ≠ i from fun h => e h.symm)] at this ⊢
            exact this
        · by_cases e : i = k
          · subst e; simp [upd_same]
          · simp only [upd_other _ _ e]; exact H.out.stp i hin)
      have CS := Lib.hid cs
      clear hL cs k0
      go_enter Try.func29, Try.ntmps29
      go_wp2_with fail
      refine (rlook_any _ rb n _ g _ _ _ REF.out h0 hn (fun i hx => by
          by_cases e : i = k
          · subst e; simp [upd_same] at hx
          · simp only [upd_other _ _ e] at hx; exact INV.out.in_ i hx) (fun i hx => by
          by_cases e : i = k
          · subst e; simp [upd_same] at hx
          · simp only [upd_other _ _ e] at hx ⊢; exact INV.out.sub i hx) o1 o2).mono ?_
      intro e w3 hup
      have UP := Lib.hid hup
      obtain rfl := hup.1
      clear hup
      go_wp2
      go_ret
      rw [ST2.out, CODE.out]
      exact UP.out.then (CS.out.mono (by simp [dom])) (fun x hx => .inl hx)
  · have CODE := Lib.hid (show tCode n t = 100 from by simp [tCode, ht])
    have SE := Lib.hid (show s.fin n t = s from by unfold ST.fin; rw [if_neg ht])
    have FIN := Lib.hid (show RefUp w rb n (s.fin n t) (dom rb g vS) (.int .i64 (tCode n t)) (.returned (.int .i64 100)) w from by
      rw [SE.out, CODE.out]; exact ⟨rfl, dom rb g vS, ⟨g, vS, fl, st, H.out, rfl⟩, Chg.refl _ _, fun x hx => .inl hx⟩)
    by_cases hneg : t < 0
    · go_enter Try.func29, Try.ntmps29
      go_wp2
      go_ret
      exact FIN.out
    · have hge : (fl.length : Int) ≤ t := by omega
      clear ht
      go_enter Try.func29, Try.ntmps29
      go_wp2
      go_ret
      exact FIN.out

end Go.Proofs.Ytldhlkkclmifmaa
