import Derived.Test.YtphaeodcomgffaaGreatEE
import Derived.Deep.QuietTactic
import Derived.Test.YtphaeodcomgffaaGreatEG
import Derived.Test.YtphaeodcomgffaaGreatE9
import Derived.Test.YtphaeodcomgffaaGreatLD
set_option linter.unusedVariables false
set_option linter.unusedSimpArgs false
namespace Go.Proofs.YtphaeodcomgffaaGreat
open Go.RowKit

set_option maxRecDepth 100000 in
set_option maxHeartbeats 4000000 in
theorem samenums_walk (w : World) (va vb : Value) (l : List Nat) (ha : Rd w 1 va (l.map cF)) (hb : Rd w 1 vb (l.map cF)) (hl : l.length ≤ 1000000) :
    Calls Tryz.prog 100 #[va, vb] w fun e w' => e = .returned (.bool true) ∧ ∃ q, w' = w.drewN q := by
  obtain ⟨a1, c1, rfl⟩ := ha.slice
  obtain ⟨a2, c2, rfl⟩ := hb.slice
  rw [List.length_map] at ha hb ⊢
  have HA := Lib.hid ha
  have HB := Lib.hid hb
  clear ha hb
  have BW := rbits_walk
  go_enter Tryz.func100, Tryz.ntmps100
  go_wp2_with (fail)
  go_loopw [13] (fun i wr => ∃ k q : Nat, i = .int .i64 k ∧ k ≤ l.length ∧ wr = w.drewN q) (fun i _ => l.length - (intOf i).toNat)
  case atStart => exact ⟨0, 0, rfl, Nat.zero_le _, rfl⟩
  case round =>
    obtain ⟨k, q, rfl, hk, hq⟩ := hrel
    have HQ := Lib.hid hq
    clear hq
    by_cases hlt : k < l.length
    · have hlt' : (k : Int) < l.length := by omega
      obtain ⟨b1, f1, g1, e1, -, hc1⟩ := HA.out.blk (by simp; omega)
      obtain ⟨b2, f2, g2, e2, -, hc2⟩ := HB.out.blk (by simp; omega)
      simp only [Value.slice.injEq, List.length_map] at e1 e2
      obtain ⟨rfl, -, rfl⟩ := e1
      obtain ⟨rfl, -, rfl⟩ := e2
      have z1 := hc1 k 0 (by simpa using hlt) (by decide)
      have z2 := hc2 k 0 (by simpa using hlt) (by decide)
      simp only [List.getD, List.getElem?_map, List.getElem?_eq_getElem hlt, Option.map_some, Option.getD_some, cF, List.getElem?_cons_zero, Nat.mul_one, Nat.add_zero] at z1 z2
      have y1 : wr.cell? ⟨b1, f1 + k, none⟩ = some (.float .f64 l[k]) := by rw [HQ.out]; exact z1
      have y2 : wr.cell? ⟨b2, f2 + k, none⟩ = some (.float .f64 l[k]) := by rw [HQ.out]; exact z2
      clear z1 z2
      generalize l[k] = y at *
      clear hc1 hc2
      go_wp2_with (fail)
      go_quiet ((go_at_call 135; exact Calls.quiet_of_same ((BW _ _).mono fun e w' h => ⟨h.1, h.2⟩)))
      go_wp2_with (fail)
      go_roundw
      case rel => exact ⟨k + 1, q + nq, by go_num, by omega, by rw [HQ.out, World.drewN_drewN]⟩
      case measure => simp [intOf]; omega
    · obtain rfl : k = l.length := by omega
      go_wp2_with (fail)
      go_ret
      exact ⟨rfl, q, HQ.out⟩
set_option maxRecDepth 100000 in
set_option maxHeartbeats 4000000 in
theorem sametouch_walk (w : World) (va vb : Value) (l : List (Int × Nat)) (ha : Rd w 2 va (l.map cT)) (hb : Rd w 2 vb (l.map cT)) (hl : l.length ≤ 1000000) :
    Calls Tryz.prog 101 #[va, vb] w fun e w' => e = .returned (.bool true) ∧ ∃ q, w' = w.drewN q := by
  obtain ⟨a1, c1, rfl⟩ := ha.slice
  obtain ⟨a2, c2, rfl⟩ := hb.slice
  rw [List.length_map] at ha hb ⊢
  have HA := Lib.hid ha
  have HB := Lib.hid hb
  clear ha hb
  have BW := rbits_walk
  go_enter Tryz.func101, Tryz.ntmps101
  go_wp2_with (fail)
  go_loopw [13] (fun i wr => ∃ k q : Nat, i = .int .i64 k ∧ k ≤ l.length ∧ wr = w.drewN q) (fun i _ => l.length - (intOf i).toNat)
  case atStart => exact ⟨0, 0, rfl, Nat.zero_le _, rfl⟩
  case round =>
    obtain ⟨k, q, rfl, hk, hq⟩ := hrel
    have HQ := Lib.hid hq
    clear hq
    by_cases hlt : k < l.length
    · have hlt' : (k : Int) < l.length := by omega
      obtain ⟨b1, f1, g1, e1, -, hc1⟩ := HA.out.blk (by simp; omega)
      obtain ⟨b2, f2, g2, e2, -, hc2⟩ := HB.out.blk (by simp; omega)
      simp only [Value.slice.injEq, List.length_map] at e1 e2
      obtain ⟨rfl, -, rfl⟩ := e1
      obtain ⟨rfl, -, rfl⟩ := e2
      have z1 := hc1 k 0 (by simpa using hlt) (by decide)
      have z2 := hc2 k 0 (by simpa using hlt) (by decide)
      have z3 := hc1 k 1 (by simpa using hlt) (by decide)
      have z4 := hc2 k 1 (by simpa using hlt) (by decide)
      simp only [List.getD, List.getElem?_map, List.getElem?_eq_getElem hlt, Option.map_some, Option.getD_some, cT, List.getElem?_cons_zero, List.getElem?_cons_succ, Nat.add_zero] at z1 z2 z3 z4
      have y1 : wr.cell? ⟨b1, f1 + k * 2, none⟩ = some (.int .i64 l[k].1) := by rw [HQ.out]; exact z1
      have y2 : wr.cell? ⟨b2, f2 + k * 2, none⟩ = some (.int .i64 l[k].1) := by rw [HQ.out]; exact z2
      have y3 : wr.cell? ⟨b1, f1 + k * 2 + 1, none⟩ = some (.float .f64 l[k].2) := by rw [HQ.out]; exact z3
      have y4 : wr.cell? ⟨b2, f2 + k * 2 + 1, none⟩ = some (.float .f64 l[k].2) := by rw [HQ.out]; exact z4
      clear z1 z2 z3 z4
      generalize l[k].1 = yc at *
      generalize l[k].2 = yx at *
      clear hc1 hc2
      go_wp2_with (fail)
      go_quiet ((go_at_call 135; exact Calls.quiet_of_same ((BW _ _).mono fun e w' h => ⟨h.1, h.2⟩)))
      go_wp2_with (fail)
      go_roundw
      case rel => exact ⟨k + 1, q + nq, by go_num, by omega, by rw [HQ.out, World.drewN_drewN]⟩
      case measure => simp [intOf]; omega
    · obtain rfl : k = l.length := by omega
      go_wp2_with (fail)
      go_ret
      exact ⟨rfl, q, HQ.out⟩
end Go.Proofs.YtphaeodcomgffaaGreat
set_option linter.unusedVariables false
set_option linter.unusedSimpArgs false
namespace Go.Proofs.YtphaeodcomgffaaGreat
open Go.RowKit

/-- Two rows that the comparing function finds the same. -/
structure SN (F : Nat) (w : World) (a b : Value) : Prop where
  call : ∀ W, Chg [] w W → Calls Tryz.prog F #[a, b] W fun e w' => e = .returned (.bool true) ∧ ∃ q, w' = W.drewN q
theorem sn_at {F : Nat} {w : World} {a b : Value} (h : SN F w a b) (W : World) (c : Chg [] w W) : Calls Tryz.prog F #[a, b] W fun e w' => e = .returned (.bool true) ∧ ∃ q, w' = W.drewN q := h.call W c
set_option maxRecDepth 100000 in
set_option maxHeartbeats 4000000 in
/-- SameDeed of two deeds that are the same. -/
theorem samedeed_walk (w : World) (tag mark steps h c e : Int) (va vr vw vo ua ur uw uo : Value) (args out : List Nat) (reads writes : List (Int × Nat))
    (ha : Rd w 1 va (args.map cF)) (hr : Rd w 2 vr (reads.map cT)) (hw : Rd w 2 vw (writes.map cT)) (ho : Rd w 1 vo (out.map cF))
    (ka : Rd w 1 ua (args.map cF)) (kr : Rd w 2 ur (reads.map cT)) (kw : Rd w 2 uw (writes.map cT)) (ko : Rd w 1 uo (out.map cF))
    (l1 : args.length ≤ 1000000) (l2 : reads.length ≤ 1000000) (l3 : writes.length ≤ 1000000) (l4 : out.length ≤ 1000000) :
    Calls Tryz.prog 56 #[.agg (deedC tag mark steps h c e va vr vw vo), .agg (deedC tag mark steps h c e ua ur uw uo)] w fun e' w' => e' = .returned (.bool true) ∧ Below w.heap.size w w' := by
  have NA : SN 100 w va ua := ⟨fun W (q : Chg [] w W) => samenums_walk W va ua args (ha.keep0 q) (ka.keep0 q) l1⟩
  have NO : SN 100 w vo uo := ⟨fun W (q : Chg [] w W) => samenums_walk W vo uo out (ho.keep0 q) (ko.keep0 q) l4⟩
  have TR : SN 101 w vr ur := ⟨fun W (q : Chg [] w W) => sametouch_walk W vr ur reads (hr.keep0 q) (kr.keep0 q) l2⟩
  have TW : SN 101 w vw uw := ⟨fun W (q : Chg [] w W) => sametouch_walk W vw uw writes (hw.keep0 q) (kw.keep0 q) l3⟩
  obtain ⟨a1, c1, rfl⟩ := ha.slice
  obtain ⟨a2, c2, rfl⟩ := hr.slice
  obtain ⟨a3, c3, rfl⟩ := hw.slice
  obtain ⟨a4, c4, rfl⟩ := ho.slice
  obtain ⟨a5, c5, rfl⟩ := ka.slice
  obtain ⟨a6, c6, rfl⟩ := kr.slice
  obtain ⟨a7, c7, rfl⟩ := kw.slice
  obtain ⟨a8, c8, rfl⟩ := ko.slice
  simp only [List.length_map] at NA NO TR TW ⊢
  unfold deedC
  clear ha hr hw ho ka kr kw ko
  obtain ⟨w2, hw2⟩ : ∃ w2, (w.alloc (.cells #[.int .i64 0, .int .i64 0, .int .i64 0, .int .i64 tag, .slice a1 args.length c1, .int .i64 mark, .int .i64 0, .slice a2 reads.length c2, .slice a3 writes.length c3, .slice a4 out.length c4, .int .i64 h, .int .i64 c, .int .i64 e, .int .i64 0, .int .i64 0, .int .i64 steps, .int .i64 0, .int .i64 0, .int .i64 0] 63)).alloc (.cells #[.int .i64 0, .int .i64 0, .int .i64 0, .int .i64 tag, .slice a5 args.length c5, .int .i64 mark, .int .i64 0, .slice a6 reads.length c6, .slice a7 writes.length c7, .slice a8 out.length c8, .int .i64 h, .int .i64 c, .int .i64 e, .int .i64 0, .int .i64 0, .int .i64 steps, .int .i64 0, .int .i64 0, .int .i64 0] 63) = w2 := ⟨_, rfl⟩
  obtain ⟨x1, x2⟩ := two_kept (w1 := w2) (by rw [hw2]; exact Chg.refl _ _)
  have hc1 := fun o => cell_of_row w2 _ o _ _ _ x1
  have hc2 := fun o => cell_of_row w2 _ o _ _ _ x2
  have hs1 := lt_of_heap x1
  have hs2 := lt_of_heap x2
  have HQ2 := Lib.hid (show Mv (fun _ => 0) [] w (fun _ => 0) w2 by rw [← hw2]; exact ((Mv.refl _ [] w).alloc _).alloc _)
  clear x1 x2
  go_enter Tryz.func56, Tryz.ntmps56
  go_wp2_with (first
    | (rw [hw2]; clear hw2)
    | (go_at_call 100; refine (sn_at (by assumption) _ (by first | exact HQ2.out.chg | exact (HQ2.out.drewN _).chg | exact ((HQ2.out.drewN _).drewN _).chg | exact (((HQ2.out.drewN _).drewN _).drewN _).chg)).mono ?_; rintro e' w3 ⟨rfl, q2, rfl⟩)
    | (go_at_call 101; refine (sn_at (by assumption) _ (by first | exact HQ2.out.chg | exact (HQ2.out.drewN _).chg | exact ((HQ2.out.drewN _).drewN _).chg | exact (((HQ2.out.drewN _).drewN _).drewN _).chg)).mono ?_; rintro e' w3 ⟨rfl, q2, rfl⟩))
  go_ret
  refine ⟨rfl, below_of_chg ?_⟩
  repeat with_reducible refine Chg.drewN ?_ _
  exact HQ2.out.chg
end Go.Proofs.YtphaeodcomgffaaGreat
set_option linter.unusedVariables false
set_option linter.unusedSimpArgs false
namespace Go.Proofs.YtphaeodcomgffaaGreat
open Go.RowKit

/-! taken: two deeds that are the same; the first's rows are written over, up to their room. -/
theorem Shp.set {w : World} {g n : Nat} {t : TypeId} (h : Shp w g n t) (b i : Nat) (v : Value) : Shp (w.setCell ⟨b, i, none⟩ v) g n t := by
  by_cases e : b = g
  · subst e; exact h.put i v
  · exact h.keep (ro := fun k => if k = b then 1 else 0) (R := [1]) ((Mv.refl _ _ _).setCell (p := ⟨b, i, none⟩) (by simp) v) (by simp [Ne.symm e])
/-- A row that may be written over, up to its room. -/
def Rw (ro : Nat → Nat) (R : List Nat) (w : World) (size E : Nat) (v : Value) : Prop := v = .slice none 0 0 ∨ ∃ g n c, v = .slice (some ⟨g, 0, none⟩) n c ∧ n ≤ c ∧ c ≤ 9223372036854775807 ∧ ro g ∈ R ∧ Shp w g (c * size) E
theorem OwnL.rw {α : Type} {f : α → List Value} {ro : Nat → Nat} {r : Nat} {w : World} {E size : Nat} {v : Value} {l : List α} (h : OwnL f ro r w E size v l) {R : List Nat} (hr : r ∈ R) : Rw ro R w size E v := by
  rcases h.own.2 with ⟨h3, h4⟩ | ⟨g, cap, cur, h3, hB, hg, hc, hm, hs, ht⟩
  · exact .inl (by rw [h3])
  · refine .inr ⟨g, _, cap, h3, hc, hm, ?_, cur, hg, by rw [hs]; exact Nat.le_refl _⟩
    rw [h.role g (by rw [h3]; rfl)]
    exact hr
theorem Rw.set {ro : Nat → Nat} {R : List Nat} {w : World} {size E : Nat} {v : Value} (h : Rw ro R w size E v) (b i : Nat) (u : Value) : Rw ro R (w.setCell ⟨b, i, none⟩ u) size E v := by
  rcases h with h | ⟨g, n, c, h1, h2, h3, h4, h5⟩
  · exact .inl h
  · exact .inr ⟨g, n, c, h1, h2, h3, h4, h5.set _ _ _⟩
theorem Rw.keep0 {ro ro' : Nat → Nat} {R : List Nat} {w w' : World} {size E : Nat} {v : Value} (h : Rw ro R w size E v) (m : Mv ro [] w ro' w') : Rw ro' R w' size E v := by
  rcases h with h | ⟨g, n, c, h1, h2, h3, h4, h5⟩
  · exact .inl h
  · exact .inr ⟨g, n, c, h1, h2, h3, by rw [m.ext g h5.lt]; exact h4, h5.keep m (by simp)⟩
/-- Where taken stands: the deed's block, its rows. -/
structure TkI (ro0 ro : Nat → Nat) (R : List Nat) (s : Nat) (w0 : World) (DB : Nat) (dc : Array Value) (v1 v2 v3 v4 : Value) (w : World) : Prop where
  db : Blk ro s w DB dc 63
  r1 : Rw ro R w 1 74 v1
  r2 : Rw ro R w 2 76 v2
  r3 : Rw ro R w 2 76 v3
  r4 : Rw ro R w 1 74 v4
  mv : Mv ro0 R w0 ro w
theorem TkI.set {ro0 ro : Nat → Nat} {R : List Nat} {s : Nat} {w0 : World} {DB : Nat} {dc v1 v2 v3 v4} {w : World} (h : TkI ro0 ro R s w0 DB dc v1 v2 v3 v4 w) {g : Nat} (hg : ro g ∈ R) (hs : s ∉ R) (i : Nat) (u : Value) : TkI ro0 ro R s w0 DB dc v1 v2 v3 v4 (w.setCell ⟨g, i, none⟩ u) :=
  ⟨h.db.keep ((Mv.refl ro R w).setCell (p := ⟨g, i, none⟩) hg u) hs, h.r1.set _ _ _, h.r2.set _ _ _, h.r3.set _ _ _, h.r4.set _ _ _, h.mv.setCell (p := ⟨g, i, none⟩) hg u⟩
theorem TkI.keep0 {ro0 ro ro' : Nat → Nat} {R : List Nat} {s : Nat} {w0 : World} {DB : Nat} {dc v1 v2 v3 v4} {w w' : World} (h : TkI ro0 ro R s w0 DB dc v1 v2 v3 v4 w) (m : Mv ro [] w ro' w') : TkI ro0 ro' R s w0 DB dc v1 v2 v3 v4 w' :=
  ⟨h.db.keep m (by simp), h.r1.keep0 m, h.r2.keep0 m, h.r3.keep0 m, h.r4.keep0 m, h.mv.trans (m.mono (by simp))⟩
set_option maxRecDepth 100000 in
set_option maxHeartbeats 8000000 in
theorem taken_walk {ro : Nat → Nat} (r0 : Nat) (w : World) (tag mark steps h c e : Int) (va vr vw vo ua ur uw uo : Value) (args out : List Nat) (reads writes : List (Int × Nat))
    (o1 : OwnL cF ro r0 w 74 1 va args) (o2 : OwnL cT ro (r0 + 1) w 76 2 vr reads) (o3 : OwnL cT ro (r0 + 2) w 76 2 vw writes) (o4 : OwnL cF ro (r0 + 3) w 74 1 vo out)
    (k1 : Rd w 1 ua (args.map cF)) (k2 : Rd w 2 ur (reads.map cT)) (k3 : Rd w 2 uw (writes.map cT)) (k4 : Rd w 1 uo (out.map cF))
    (l1 : args.length ≤ 1000000) (l2 : reads.length ≤ 1000000) (l3 : writes.length ≤ 1000000) (l4 : out.length ≤ 1000000) :
    Calls Tryz.prog 32 #[.agg (deedC tag mark steps h c e va vr vw vo), .agg (deedC tag mark steps h c e ua ur uw uo)] w fun e' w' => e' = .returned (.bool true) ∧ ∃ ro', Mv ro [r0, r0 + 1, r0 + 2, r0 + 3] w ro' w' := by
  have SW := fun W (q : Chg [] w W) => samedeed_walk W tag mark steps h c e va vr vw vo ua ur uw uo args out reads writes ((o1.rd cF_len).keep0 q) ((o2.rd cT_len).keep0 q) ((o3.rd cT_len).keep0 q) ((o4.rd cF_len).keep0 q) (k1.keep0 q) (k2.keep0 q) (k3.keep0 q) (k4.keep0 q) l1 l2 l3 l4
  obtain ⟨R, hR⟩ : ∃ R, R = [r0, r0 + 1, r0 + 2, r0 + 3] := ⟨_, rfl⟩
  have w1 : Rw ro R w 1 74 va := o1.rw (by rw [hR]; simp)
  have w2 : Rw ro R w 2 76 vr := o2.rw (by rw [hR]; simp)
  have w3 : Rw ro R w 2 76 vw := o3.rw (by rw [hR]; simp)
  have w4 : Rw ro R w 1 74 vo := o4.rw (by rw [hR]; simp)
  have hs8 : r0 + 8 ∉ R := by rw [hR]; simp
  have hs9 : r0 + 9 ∉ R := by rw [hR]; simp
  obtain ⟨a1, ac1, e1⟩ := o1.form
  obtain ⟨a2, ac2, e2⟩ := o2.form
  obtain ⟨a3, ac3, e3⟩ := o3.form
  obtain ⟨a4, ac4, e4⟩ := o4.form
  obtain ⟨u1, uc1, e5⟩ := k1.slice
  obtain ⟨u2, uc2, e6⟩ := k2.slice
  obtain ⟨u3, uc3, e7⟩ := k3.slice
  obtain ⟨u4, uc4, e8⟩ := k4.slice
  clear o1 o2 o3 o4 k1 k2 k3 k4
  subst e1; subst e2; subst e3; subst e4; subst e5; subst e6; subst e7; subst e8
  rw [← hR]
  clear hR
  generalize args.length = an1 at *
  generalize reads.length = an2 at *
  generalize writes.length = an3 at *
  generalize out.length = an4 at *
  generalize (args.map cF).length = un1 at *
  generalize (reads.map cT).length = un2 at *
  generalize (writes.map cT).length = un3 at *
  generalize (out.map cF).length = un4 at *
  clear l1 l2 l3 l4
  unfold deedC at *
  have HSW := Lib.hid SW
  obtain ⟨wb, hwb⟩ : ∃ wb, (w.alloc (.cells #[.int .i64 0, .int .i64 0, .int .i64 0, .int .i64 tag, .slice a1 an1 ac1, .int .i64 mark, .int .i64 0, .slice a2 an2 ac2, .slice a3 an3 ac3, .slice a4 an4 ac4, .int .i64 h, .int .i64 c, .int .i64 e, .int .i64 0, .int .i64 0, .int .i64 steps, .int .i64 0, .int .i64 0, .int .i64 0] 63)).alloc (.cells #[.int .i64 0, .int .i64 0, .int .i64 0, .int .i64 tag, .slice u1 un1 uc1, .int .i64 mark, .int .i64 0, .slice u2 un2 uc2, .slice u3 un3 uc3, .slice u4 un4 uc4, .int .i64 h, .int .i64 c, .int .i64 e, .int .i64 0, .int .i64 0, .int .i64 steps, .int .i64 0, .int .i64 0, .int .i64 0] 63) = wb := ⟨_, rfl⟩
  obtain ⟨x1, x2⟩ := two_kept (w1 := wb) (by rw [hwb]; exact Chg.refl _ _)
  have M1 : Mv ro [] w (setRo (setRo ro w.heap.size (r0 + 8)) (w.heap.size + 1) (r0 + 8)) wb := by
    rw [← hwb]
    exact ((((Mv.refl ro [] w).alloc _).give (Nat.le_refl _)).alloc _).give (Nat.le_succ _)
  have B1 : Blk (setRo (setRo ro w.heap.size (r0 + 8)) (w.heap.size + 1) (r0 + 8)) (r0 + 8) wb w.heap.size #[.int .i64 0, .int .i64 0, .int .i64 0, .int .i64 tag, .slice a1 an1 ac1, .int .i64 mark, .int .i64 0, .slice a2 an2 ac2, .slice a3 an3 ac3, .slice a4 an4 ac4, .int .i64 h, .int .i64 c, .int .i64 e, .int .i64 0, .int .i64 0, .int .i64 steps, .int .i64 0, .int .i64 0, .int .i64 0] 63 := ⟨x1, by rw [setRo_ne (by omega), setRo_at]⟩
  have B2 : Blk (setRo (setRo ro w.heap.size (r0 + 8)) (w.heap.size + 1) (r0 + 8)) (r0 + 8) wb (w.heap.size + 1) #[.int .i64 0, .int .i64 0, .int .i64 0, .int .i64 tag, .slice u1 un1 uc1, .int .i64 mark, .int .i64 0, .slice u2 un2 uc2, .slice u3 un3 uc3, .slice u4 un4 uc4, .int .i64 h, .int .i64 c, .int .i64 e, .int .i64 0, .int .i64 0, .int .i64 steps, .int .i64 0, .int .i64 0, .int .i64 0] 63 := ⟨x2, setRo_at _ _ _⟩
  have T1 : TkI ro _ R (r0 + 8) w w.heap.size #[.int .i64 0, .int .i64 0, .int .i64 0, .int .i64 tag, .slice a1 an1 ac1, .int .i64 mark, .int .i64 0, .slice a2 an2 ac2, .slice a3 an3 ac3, .slice a4 an4 ac4, .int .i64 h, .int .i64 c, .int .i64 e, .int .i64 0, .int .i64 0, .int .i64 steps, .int .i64 0, .int .i64 0, .int .i64 0] (.slice a1 an1 ac1) (.slice a2 an2 ac2) (.slice a3 an3 ac3) (.slice a4 an4 ac4) wb := ⟨B1, w1.keep0 M1, w2.keep0 M1, w3.keep0 M1, w4.keep0 M1, M1.mono (by simp)⟩
  have QM := Lib.hid M1.chg
  have HT1 := Lib.hid T1
  have HB1 := Lib.hid B1
  have HB2 := Lib.hid B2
  clear SW x1 x2 M1 B1 B2 T1 w1 w2 w3 w4
  generalize setRo (setRo ro w.heap.size (r0 + 8)) (w.heap.size + 1) (r0 + 8) = ro1 at *
  go_enter Tryz.func32, Tryz.ntmps32
  go_wp2_with (first
    | (rw [hwb]; clear hwb)
    | (refine wpList_load_mid rfl 63 (.tmp 2) rfl w.heap.size 0 rfl [.int .i64 0, .int .i64 0, .int .i64 0, .int .i64 tag, .slice a1 an1 ac1, .int .i64 mark, .int .i64 0, .slice a2 an2 ac2, .slice a3 an3 ac3, .slice a4 an4 ac4, .int .i64 h, .int .i64 c, .int .i64 e, .int .i64 0, .int .i64 0, .int .i64 steps, .int .i64 0, .int .i64 0, .int .i64 0] _ HB1.out.range Tryz.underlying63 rfl (by kernel_rfl) ?_)
    | (refine wpList_load_mid rfl 63 (.tmp 3) rfl (w.heap.size + 1) 0 rfl [.int .i64 0, .int .i64 0, .int .i64 0, .int .i64 tag, .slice u1 un1 uc1, .int .i64 mark, .int .i64 0, .slice u2 un2 uc2, .slice u3 un3 uc3, .slice u4 un4 uc4, .int .i64 h, .int .i64 c, .int .i64 e, .int .i64 0, .int .i64 0, .int .i64 steps, .int .i64 0, .int .i64 0, .int .i64 0] _ HB2.out.range Tryz.underlying63 rfl (by kernel_rfl) ?_)
    | (go_at_call 56; refine (HSW.out _ QM.out).mono ?_; rintro e' wc ⟨rfl, bc⟩; have t2 := HT1.out.keep0 (Mv.of_below bc); have hc2 := t2.db.cell; have HT2 := Lib.hid t2; clear bc t2 HT1 HB1 HB2))
  have nT : Mv ro1 [] wc (setRo ro1 wc.heap.size (r0 + 9)) (wc.alloc (.cells #[.slice a1 an1 ac1, .slice a4 an4 ac4] 27)) := ((Mv.refl _ _ _).alloc _).give (Nat.le_refl _)
  have tT := HT2.out.keep0 nT
  have bT : Blk (setRo ro1 wc.heap.size (r0 + 9)) (r0 + 9) (wc.alloc (.cells #[.slice a1 an1 ac1, .slice a4 an4 ac4] 27)) wc.heap.size #[.slice a1 an1 ac1, .slice a4 an4 ac4] 27 := Blk.new _ _ _ _ _
  have HTT := Lib.hid tT
  have HBT := Lib.hid bT
  clear nT tT bT HT2 hc2
  generalize wc.alloc (.cells #[.slice a1 an1 ac1, .slice a4 an4 ac4] 27) = wt23 at *
  generalize setRo ro1 wc.heap.size (r0 + 9) = rt23 at *
  generalize wc.heap.size = TB23 at *
  go_loopw [23] (fun i wr => ∃ k : Nat, i = .int .i64 k ∧ k ≤ 2 ∧ TkI ro rt23 R (r0 + 8) w w.heap.size #[.int .i64 0, .int .i64 0, .int .i64 0, .int .i64 tag, .slice a1 an1 ac1, .int .i64 mark, .int .i64 0, .slice a2 an2 ac2, .slice a3 an3 ac3, .slice a4 an4 ac4, .int .i64 h, .int .i64 c, .int .i64 e, .int .i64 0, .int .i64 0, .int .i64 steps, .int .i64 0, .int .i64 0, .int .i64 0] (.slice a1 an1 ac1) (.slice a2 an2 ac2) (.slice a3 an3 ac3) (.slice a4 an4 ac4) wr ∧ Blk rt23 (r0 + 9) wr TB23 #[.slice a1 an1 ac1, .slice a4 an4 ac4] 27) (fun i _ => 2 - (intOf i).toNat)
  case atStart => exact ⟨0, rfl, Nat.zero_le _, HTT.out, HBT.out⟩
  case round =>
    clear HTT HBT
    obtain ⟨k, rfl, hk, ti, bt⟩ := hrel
    by_cases hlt : k < 2
    · have hlt' : (k : Int) < 2 := by omega
      obtain ⟨p, n, q, hcell, hrow⟩ : ∃ p n q, wr.cell? ⟨TB23, k, none⟩ = some (.slice p n q) ∧ Rw rt23 R wr 1 74 (.slice p n q) := by
        rcases (by omega : k = 0 ∨ k = 1) with e | e
        · exact ⟨_, _, _, by rw [e]; exact bt.cell 0, ti.r1⟩
        · exact ⟨_, _, _, by rw [e]; exact bt.cell 1, ti.r4⟩
      have HTI := Lib.hid ti
      have HBT := Lib.hid bt
      clear ti bt
      rcases hrow with hrow | ⟨g, n', q', hv, hnq, hqm, hg, hsh⟩
      · simp only [Value.slice.injEq] at hrow
        obtain ⟨rfl, rfl, rfl⟩ := hrow
        go_wp2
        go_loopw [33] (fun i w2 => i = .int .i64 0 ∧ w2 = wr) (fun i _ => 0)
        case atStart => exact ⟨rfl, rfl⟩
        case round =>
          obtain ⟨rfl, rfl⟩ := hrel
          go_wp2
          go_roundw
          case rel => exact ⟨k + 1, by go_num, by omega, HTI.out, HBT.out⟩
          case measure => simp [intOf]; omega
      · simp only [Value.slice.injEq] at hv
        obtain ⟨rfl, rfl, rfl⟩ := hv
        have hqq : ((q : Nat) : Int) ≤ q := Int.le_refl _
        have HSH := Lib.hid hsh
        clear hsh
        go_wp2
        go_loopw [33] (fun i w2 => ∃ j : Nat, i = .int .i64 j ∧ j ≤ q ∧ TkI ro rt23 R (r0 + 8) w w.heap.size #[.int .i64 0, .int .i64 0, .int .i64 0, .int .i64 tag, .slice a1 an1 ac1, .int .i64 mark, .int .i64 0, .slice a2 an2 ac2, .slice a3 an3 ac3, .slice a4 an4 ac4, .int .i64 h, .int .i64 c, .int .i64 e, .int .i64 0, .int .i64 0, .int .i64 steps, .int .i64 0, .int .i64 0, .int .i64 0] (.slice a1 an1 ac1) (.slice a2 an2 ac2) (.slice a3 an3 ac3) (.slice a4 an4 ac4) w2 ∧ Blk rt23 (r0 + 9) w2 TB23 #[.slice a1 an1 ac1, .slice a4 an4 ac4] 27 ∧ Shp w2 g (q * 1) 74) (fun i _ => q - (intOf i).toNat)
        case atStart => exact ⟨0, rfl, Nat.zero_le _, HTI.out, HBT.out, HSH.out⟩
        case round =>
          clear HTI HBT HSH hcell
          obtain ⟨j, rfl, hj, ti, bt, sh⟩ := hrel
          have HTI := Lib.hid ti
          have HBT := Lib.hid bt
          have HSH := Lib.hid sh
          by_cases hl2 : j < q
          · have hl2' : (j : Int) < q := by omega
            obtain ⟨y, hy⟩ := sh.cell (i := j) (by omega)
            have hyf := sh.free j
            have sf := run_store_float
            clear ti bt sh
            go_wp2
            go_roundw
            case rel => exact ⟨j + 1, by go_num, by omega, HTI.out.set hg hs8 _ _, HBT.out.keep ((Mv.refl _ R _).setCell (p := ⟨g, j, none⟩) hg _) hs9, HSH.out.set _ _ _⟩
            case measure => simp [intOf]; omega
          · obtain rfl : j = q := by omega
            clear ti bt sh
            go_wp2
            go_roundw
            case rel => exact ⟨k + 1, by go_num, by omega, HTI.out, HBT.out⟩
            case measure => simp [intOf]; omega
    · obtain rfl : k = 2 := by omega
      have hc2 := ti.db.cell
      have HT23 := Lib.hid ti
      clear ti bt
      go_wp2
      have nT : Mv rt23 [] wr (setRo rt23 wr.heap.size (r0 + 9)) (wr.alloc (.cells #[.slice a2 an2 ac2, .slice a3 an3 ac3] 59)) := ((Mv.refl _ _ _).alloc _).give (Nat.le_refl _)
      have tT := HT23.out.keep0 nT
      have bT : Blk (setRo rt23 wr.heap.size (r0 + 9)) (r0 + 9) (wr.alloc (.cells #[.slice a2 an2 ac2, .slice a3 an3 ac3] 59)) wr.heap.size #[.slice a2 an2 ac2, .slice a3 an3 ac3] 59 := Blk.new _ _ _ _ _
      have HTT := Lib.hid tT
      have HBT := Lib.hid bT
      clear nT tT bT HT23 hc2
      generalize wr.alloc (.cells #[.slice a2 an2 ac2, .slice a3 an3 ac3] 59) = wt47 at *
      generalize setRo rt23 wr.heap.size (r0 + 9) = rt47 at *
      generalize wr.heap.size = TB47 at *
      go_loopw [47] (fun i wr => ∃ k : Nat, i = .int .i64 k ∧ k ≤ 2 ∧ TkI ro rt47 R (r0 + 8) w w.heap.size #[.int .i64 0, .int .i64 0, .int .i64 0, .int .i64 tag, .slice a1 an1 ac1, .int .i64 mark, .int .i64 0, .slice a2 an2 ac2, .slice a3 an3 ac3, .slice a4 an4 ac4, .int .i64 h, .int .i64 c, .int .i64 e, .int .i64 0, .int .i64 0, .int .i64 steps, .int .i64 0, .int .i64 0, .int .i64 0] (.slice a1 an1 ac1) (.slice a2 an2 ac2) (.slice a3 an3 ac3) (.slice a4 an4 ac4) wr ∧ Blk rt47 (r0 + 9) wr TB47 #[.slice a2 an2 ac2, .slice a3 an3 ac3] 59) (fun i _ => 2 - (intOf i).toNat)
      case atStart => exact ⟨0, rfl, Nat.zero_le _, HTT.out, HBT.out⟩
      case round =>
        clear HTT HBT
        obtain ⟨k, rfl, hk, ti, bt⟩ := hrel
        by_cases hlt : k < 2
        · have hlt' : (k : Int) < 2 := by omega
          obtain ⟨p, n, q, hcell, hrow⟩ : ∃ p n q, wr.cell? ⟨TB47, k, none⟩ = some (.slice p n q) ∧ Rw rt47 R wr 2 76 (.slice p n q) := by
            rcases (by omega : k = 0 ∨ k = 1) with e | e
            · exact ⟨_, _, _, by rw [e]; exact bt.cell 0, ti.r2⟩
            · exact ⟨_, _, _, by rw [e]; exact bt.cell 1, ti.r3⟩
          have HTI := Lib.hid ti
          have HBT := Lib.hid bt
          clear ti bt
          rcases hrow with hrow | ⟨g, n', q', hv, hnq, hqm, hg, hsh⟩
          · simp only [Value.slice.injEq] at hrow
            obtain ⟨rfl, rfl, rfl⟩ := hrow
            go_wp2
            go_loopw [57] (fun i w2 => i = .int .i64 0 ∧ w2 = wr) (fun i _ => 0)
            case atStart => exact ⟨rfl, rfl⟩
            case round =>
              obtain ⟨rfl, rfl⟩ := hrel
              go_wp2
              go_roundw
              case rel => exact ⟨k + 1, by go_num, by omega, HTI.out, HBT.out⟩
              case measure => simp [intOf]; omega
          · simp only [Value.slice.injEq] at hv
            obtain ⟨rfl, rfl, rfl⟩ := hv
            have hqq : ((q : Nat) : Int) ≤ q := Int.le_refl _
            have HSH := Lib.hid hsh
            clear hsh
            go_wp2
            go_loopw [57] (fun i w2 => ∃ j : Nat, i = .int .i64 j ∧ j ≤ q ∧ TkI ro rt47 R (r0 + 8) w w.heap.size #[.int .i64 0, .int .i64 0, .int .i64 0, .int .i64 tag, .slice a1 an1 ac1, .int .i64 mark, .int .i64 0, .slice a2 an2 ac2, .slice a3 an3 ac3, .slice a4 an4 ac4, .int .i64 h, .int .i64 c, .int .i64 e, .int .i64 0, .int .i64 0, .int .i64 steps, .int .i64 0, .int .i64 0, .int .i64 0] (.slice a1 an1 ac1) (.slice a2 an2 ac2) (.slice a3 an3 ac3) (.slice a4 an4 ac4) w2 ∧ Blk rt47 (r0 + 9) w2 TB47 #[.slice a2 an2 ac2, .slice a3 an3 ac3] 59 ∧ Shp w2 g (q * 2) 76) (fun i _ => q - (intOf i).toNat)
            case atStart => exact ⟨0, rfl, Nat.zero_le _, HTI.out, HBT.out, HSH.out⟩
            case round =>
              clear HTI HBT HSH hcell
              obtain ⟨j, rfl, hj, ti, bt, sh⟩ := hrel
              have HTI := Lib.hid ti
              have HBT := Lib.hid bt
              have HSH := Lib.hid sh
              by_cases hl2 : j < q
              · have hl2' : (j : Int) < q := by omega
                obtain ⟨y0, hy0⟩ := sh.cell (i := j * 2) (by omega)
                obtain ⟨y1, hy1⟩ := sh.cell (i := j * 2 + 1) (by omega)
                have hyf := sh.free
                have sf := run_store_float
                clear ti bt sh
                go_wp2
                go_roundw
                case rel => exact ⟨j + 1, by go_num, by omega, (HTI.out.set hg hs8 _ _).set hg hs8 _ _, HBT.out.keep (((Mv.refl _ R _).setCell (p := ⟨g, j * 2, none⟩) hg _).setCell (p := ⟨g, j * 2 + 1, none⟩) hg _) hs9, (HSH.out.set _ _ _).set _ _ _⟩
                case measure => simp [intOf]; omega
              · obtain rfl : j = q := by omega
                clear ti bt sh
                go_wp2
                go_roundw
                case rel => exact ⟨k + 1, by go_num, by omega, HTI.out, HBT.out⟩
                case measure => simp [intOf]; omega
        · obtain rfl : k = 2 := by omega
          have hc2 := ti.db.cell
          have HT47 := Lib.hid ti
          clear ti bt
          go_wp2
          go_ret
          exact ⟨rfl, _, HT47.out.mv⟩
end Go.Proofs.YtphaeodcomgffaaGreat
