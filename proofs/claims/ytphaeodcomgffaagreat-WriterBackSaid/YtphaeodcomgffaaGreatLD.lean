import Derived.Test.YtphaeodcomgffaaGreatRR
import Derived.Deep.RegionHeldLaw
set_option linter.unusedVariables false
set_option linter.unusedSimpArgs false
namespace Go.Proofs.YtphaeodcomgffaaGreat
open Go.RowKit

def rideC (x : Ride) (vc va vw vp : Value) : Array Value := #[.int .i64 x.C.cells, .int .i64 x.C.threads, .int .i64 x.C.fuel, .int .i64 x.C.writes, .int .i64 x.th, .int .i64 x.tag, vc, va, vw, vp]
theorem keptA {ro ro' : Nat → Nat} {W Wd w' : World} {cs : Array Value} {t : TypeId} (m : Mv ro [] Wd ro' w') (h : Wd.heap = (W.alloc (.cells cs t)).heap) : w'.heap[W.heap.size]? = some (.cells cs t (0, 0)) :=
  (m.block _ (by rw [h]; simp) (by simp)).trans (by rw [h]; exact heap_alloc_new _ _)
/-- A row of cells that may be stored into. -/
def Shp (w : World) (g n : Nat) (t : TypeId) : Prop := ∃ cs, w.heap[g]? = some (.cells cs t (0, 0)) ∧ n ≤ cs.size
theorem Shp.cell {w g n t} (h : Shp w g n t) {i : Nat} (hi : i < n) : ∃ v, w.cell? ⟨g, i, none⟩ = some v := by
  obtain ⟨cs, hg, hn⟩ := h
  exact ⟨cs[i], by rw [cell_of_row w g i _ _ _ hg]; exact Array.getElem?_eq_getElem _⟩
theorem Shp.free {w g n t} (h : Shp w g n t) (i : Nat) : w.frozen? ⟨g, i, none⟩ = false := by obtain ⟨cs, hg, hn⟩ := h; exact frozen_of_row _ _ _ _ _ hg
theorem Shp.put {w g n t} (h : Shp w g n t) (i : Nat) (v : Value) : Shp (w.setCell ⟨g, i, none⟩ v) g n t := by
  obtain ⟨cs, hg, hn⟩ := h
  exact ⟨_, heap_put hg rfl, by simpa using hn⟩
theorem Shp.keep {ro ro' : Nat → Nat} {R : List Nat} {w w' : World} {g n t} (h : Shp w g n t) (m : Mv ro R w ro' w') (hr : ro g ∉ R) : Shp w' g n t := by
  obtain ⟨cs, hg, hn⟩ := h
  exact ⟨cs, (m.block g (lt_of_heap hg) hr).trans hg, hn⟩
theorem Shp.lt {w g n t} (h : Shp w g n t) : g < w.heap.size := by obtain ⟨cs, hg, hn⟩ := h; exact lt_of_heap hg
theorem OwnL.shp {α : Type} {f : α → List Value} {ro : Nat → Nat} {r : Nat} {w : World} {E size : Nat} {a c} {n : Nat} {l : List α} (h : OwnL f ro r w E size (.slice a n c) l) (hl : 0 < l.length) : ∃ g, a = some ⟨g, 0, none⟩ ∧ ro g = r ∧ Shp w g (l.length * size) E := by
  obtain ⟨g, cap, e, hr, h1, h2⟩ := h.pos hl
  cases e
  rcases h.own.2 with ⟨h3, h4⟩ | ⟨g', cap', cur, h3, hB, hg, hc, hm, hs, ht⟩
  · omega
  · cases h3
    exact ⟨g, rfl, hr, cur, hg, by rw [hs]; exact Nat.mul_le_mul_right _ hc⟩
set_option maxRecDepth 100000 in
set_option maxHeartbeats 8000000 in
theorem begun_gen (rx : Nat) (hrx : 1 ≤ rx) (w : World) (x : Ride) (vc va vw vp : Value) (hin : RideIn w x vc va vw vp) (PA PB : (Nat → Nat) → World → Value → Prop)
    (HA : ∀ ro1 W vc' va', Mv (fun _ => 0) [] w ro1 W → RdC W vc' x.code → Rd W 1 va' (x.args.map cF) → Calls Tryz.prog 59 #[cfgV x.C, .int .i64 x.th, .agg #[.int .i64 x.tag, vc'], va'] W fun e w' => ∃ u ro2, e = .returned u ∧ PA ro2 w' u ∧ Mv ro1 [] W ro2 w')
    (KA : ∀ ro1 W ro2 W2 u R, PA ro1 W u → (∀ y ∈ R, y = rx ∨ y = rx + 1) → Mv ro1 R W ro2 W2 → PA ro2 W2 u)
    (HB : ∀ ro1 W, Mv (fun _ => 0) [] w ro1 W → Calls Tryz.prog 60 #[cfgV x.C, .int .i64 x.th, .agg #[.int .i64 x.tag, vc], va] W fun e w' => ∃ u ro2, e = .returned u ∧ PB ro2 w' u ∧ Mv ro1 [] W ro2 w') :
    Calls Tryz.prog 16 #[x.v vc va vw vp] w fun e w' => ∃ u1 u2 ro', e = .returned (.tuple #[u1, u2]) ∧ PA ro' w' u1 ∧ PB ro' w' u2 ∧ Mv (fun _ => 0) [] w ro' w' := by
  obtain ⟨a1, n1, c1, rfl⟩ : ∃ a n c, va = .slice a n c := by obtain ⟨a, c, e⟩ := hin.args.slice; exact ⟨_, _, _, e⟩
  obtain ⟨a2, n2, c2, rfl⟩ : ∃ a n c, vc = .slice a n c := by obtain ⟨a, c, e⟩ := hin.code.slice; exact ⟨_, _, _, e⟩
  have M1 : Mv (fun _ => 0) [] w (setRo (fun _ => 0) w.heap.size (rx + 2)) (w.alloc (.cells (rideC x (.slice a2 n2 c2) (.slice a1 n1 c1) vw vp) 31)) := ((Mv.refl _ [] w).alloc _).give (Nat.le_refl _)
  have X1 : Blk (setRo (fun _ => 0) w.heap.size (rx + 2)) (rx + 2) (w.alloc (.cells (rideC x (.slice a2 n2 c2) (.slice a1 n1 c1) vw vp) 31)) w.heap.size (rideC x (.slice a2 n2 c2) (.slice a1 n1 c1) vw vp) 31 := Blk.new _ _ _ _ _
  have RA := Lib.hid (hin.args.keep0 M1.chg)
  have hl8 : x.args.length * 8 ≤ 140737488355328 := by have := hin.argsL; omega
  have hl24 : x.code.length * 24 ≤ 140737488355328 := by have := hin.codeL; omega
  have HIN := Lib.hid hin
  have HHA := Lib.hid HA
  have HHB := Lib.hid HB
  have HKA := Lib.hid KA
  have HM1 := Lib.hid M1
  have HX1 := Lib.hid X1
  unfold Ride.v
  unfold rideC at M1 X1
  clear HA HB KA hin
  clear X1 M1
  go_enter Tryz.func16, Tryz.ntmps16
  go_wp2_with (at_builtin; go_loud (refine wpList_copy elF cF_len cF_one (setRo (fun _ => 0) w.heap.size (rx + 2)) rx rfl (.const (.slice none 0 0)) (.tmp 10) rfl x.args _ rfl rfl RA.out hl8 ?_); intro v3 w3 o3 m3; have O3 := Lib.hid o3; have M3 := Lib.hid m3; have X3 := Lib.hid (HX1.out.keep m3 (by simp)); clear o3 m3)
  have m3 := HM1.out.trans M3.out
  have x3 := X3.out
  have o3 := O3.out
  clear O3 M3 X3
  generalize newRo (setRo (fun _ => 0) w.heap.size (rx + 2)) _ rx = ro3 at *
  have S3 : ∀ roC W, Mv ro3 [] w3 roC W → (W.cell? ⟨w.heap.size, 5, none⟩ = some (.int .i64 x.tag) ∧ W.cell? ⟨w.heap.size, 6, none⟩ = some (.slice a2 n2 c2)) := fun roC W mv => by
    have := (x3.keep mv (by simp)).cell
    exact ⟨this 5, this 6⟩
  have HS3 := Lib.hid S3
  have RC := Lib.hid fun roC W (mv : Mv ro3 [] w3 roC W) => HIN.out.code.keep0 (m3.trans mv).chg
  have HO3 := Lib.hid o3
  have HX3 := Lib.hid x3
  have HM3 := Lib.hid m3
  clear S3 o3 x3 m3
  refine wp_region_noPanic ?_
  go_region_held_law (fun W => (W.cell? ⟨w.heap.size, 5, none⟩ = some (.int .i64 x.tag) ∧ W.cell? ⟨w.heap.size, 6, none⟩ = some (.slice a2 n2 c2)))
    (first
      | assumption
      | exact HS3.out ro3 _ (Mv.refl _ _ _).drew
      | exact HS3.out ro3 _ ((Mv.refl _ _ _).alloc _).drew
      | exact HS3.out _ _ n5
      | exact HS3.out _ _ (n5.alloc _)
      | exact HS3.out _ _ ((n5.setNew (p := ⟨w3.heap.size, 0, none⟩) (Nat.le_refl _) _).setNew (p := ⟨w3.heap.size, 1, none⟩) (Nat.le_refl _) _)
      | go_keep)
    (first
      | (refine step_copy elC row_len row_one ro3 (rx + 1) rfl (.const (.slice none 0 0)) (.tmp 17) rfl x.code (.slice a2 n2 c2) rfl rfl (RC.out ro3 _ (Mv.refl _ _ _).drew) hl24 ?_
         intro v5 w5 p5 k5
         obtain ⟨a5, c5, rfl⟩ := p5.form
         have n5 : Mv ro3 [] w3 _ w5 := Mv.trans (Mv.refl ro3 [] w3).drew k5)
      | (refine step_copy elC row_len row_one (setRo ro3 w3.heap.size (rx + 3)) (rx + 1) rfl (.const (.slice none 0 0)) (.tmp 17) rfl x.code (.slice a2 n2 c2) rfl rfl (RC.out _ _ (((Mv.refl ro3 [] w3).alloc _).give (r := rx + 3) (Nat.le_refl _)).drew) hl24 ?_
         intro v5 w5 p5 k5
         obtain ⟨a5, c5, rfl⟩ := p5.form
         have n5 : Mv ro3 [] w3 _ w5 := Mv.trans (((Mv.refl ro3 [] w3).alloc _).give (r := rx + 3) (Nat.le_refl _)).drew k5
         have B5 := (((Blk.new ro3 (rx + 3) w3 #[.int .i64 0, .slice none 0 0] 26)).keep (Mv.refl _ [] _).drew (by simp)).keep k5 (by simp)
         have hkc := B5.cell
         have hkf := B5.free))
  all_goals
    refine NoPanic.normal ?_
    first
      | (have b0 : ∀ j, (j = 0 ∨ j = 1) → setRo ro3 w3.heap.size (rx + 3) = setRo ro3 w3.heap.size (rx + 3) := fun _ _ => rfl
         have B6 : Blk _ (rx + 3) _ w3.heap.size #[.int .i64 x.tag, .slice a5 x.code.length c5] 26 := (B5.put (i := 0) (v := .int .i64 x.tag) rfl).put (i := 1) (v := .slice a5 x.code.length c5) rfl
         have n6 := (n5.setNew (p := ⟨w3.heap.size, 0, none⟩) (Nat.le_refl _) (.int .i64 x.tag)).setNew (p := ⟨w3.heap.size, 1, none⟩) (Nat.le_refl _) (.slice a5 x.code.length c5)
         have hpP : newRo (setRo ro3 w3.heap.size (rx + 3)) (w3.alloc (.cells #[.int .i64 0, .slice none 0 0] 26)).drew.heap.size (rx + 1) w3.heap.size ∈ [rx + 3] := by rw [B5.role]; simp
         have p6 := p5.keep (((Mv.refl _ [rx + 3] w5).setCell (p := ⟨w3.heap.size, 0, none⟩) hpP (.int .i64 x.tag)).setCell (p := ⟨w3.heap.size, 1, none⟩) hpP (.slice a5 x.code.length c5)) (by simp)
         clear B5 hkc hkf k5 p5 n5 hpP b0
         generalize (w5.setCell ⟨w3.heap.size, 0, none⟩ (.int .i64 x.tag)).setCell ⟨w3.heap.size, 1, none⟩ (.slice a5 x.code.length c5) = W6 at *
         generalize hPB : w3.heap.size = PK at *
         generalize newRo _ _ (rx + 1) = ro6 at *)
      | (have B6 := Blk.new (newRo ro3 w3.drew.heap.size (rx + 1)) (rx + 3) w5 #[.int .i64 x.tag, .slice a5 x.code.length c5] 26
         have n6 := (n5.alloc (.cells #[.int .i64 x.tag, .slice a5 x.code.length c5] 26)).give (r := rx + 3) n5.size
         have p6 := p5.keep (((Mv.refl _ [] w5).alloc (.cells #[.int .i64 x.tag, .slice a5 x.code.length c5] 26)).give (r := rx + 3) (Nat.le_refl _)) (by simp)
         clear k5 p5 n5
         generalize w5.alloc (.cells #[.int .i64 x.tag, .slice a5 x.code.length c5] 26) = W6 at *
         generalize hPB : w5.heap.size = PK at *
         generalize setRo _ PK (rx + 3) = ro6 at *)
    have x6 := HX3.out.keep n6 (by simp)
    have o6 := HO3.out.keep n6 (by simp)
    have m6 := HM3.out.trans n6
    clear hPB
    try clear ‹_ ∧ _›
    obtain ⟨a3, c3, rfl⟩ := o6.form
    have hx := x6.cell
    unfold rideC at hx
    have hb := B6.cell
    have RD := HHA.out ro6 W6 (.slice a5 x.code.length c5) (.slice a3 x.args.length c3) m6 (p6.rd row_len) (o6.rd cF_len)
    have O6 := Lib.hid o6
    have P6 := Lib.hid p6
    have X6 := Lib.hid x6
    have BB6 := Lib.hid B6
    have M6 := Lib.hid m6
    clear o6 p6 x6 B6 m6 n6 HS3 RC HO3 HX3 HM3 HHA HM1 HX1 RA
    go_wp2_with (go_at_call 59; unfold cfgV at RD; refine RD.mono ?_; rintro e w7 ⟨u, ro7, rfl, pa7, m7⟩; have PA7 := Lib.hid pa7; have M67 := Lib.hid m7; have X7 := Lib.hid (X6.out.keep m7 (by simp)); have B7 := Lib.hid (BB6.out.keep m7 (by simp)); have O7 := Lib.hid (O6.out.keep m7 (by simp)); have P7 := Lib.hid (P6.out.keep m7 (by simp)); have M7 := Lib.hid (M6.out.trans m7); clear pa7 m7 RD hx hb)
    have sh7 : 0 < x.args.length → ∃ g, a3 = some ⟨g, 0, none⟩ ∧ ro7 g = rx ∧ Shp w7 g x.args.length 74 := fun h => by
      obtain ⟨g, e1, e2, e3⟩ := O7.out.shp h
      exact ⟨g, e1, e2, by simpa using e3⟩
    have ch7 : 0 < x.code.length → ∃ g, a5 = some ⟨g, 0, none⟩ ∧ ro7 g = rx + 1 ∧ Shp w7 g (x.code.length * 3) 117 := fun h => P7.out.shp h
    have hfz : ∀ y ∈ [rx], ∀ k, k < w.heap.size → (fun _ : Nat => 0) k ≠ y := by intro y hy k hk; simp at hy; show (0 : Nat) ≠ y; omega
    have hfz1 : ∀ y ∈ [rx + 1], ∀ k, k < w.heap.size → (fun _ : Nat => 0) k ≠ y := by intro y hy k hk; simp at hy; show (0 : Nat) ≠ y; omega
    clear O7 P7 M67 O6 P6 X6 BB6 M6
    go_loopw [29] (fun i wr => ∃ k : Nat, i = .int .i64 k ∧ k ≤ x.args.length ∧ PA ro7 wr u ∧ Blk ro7 (rx + 2) wr w.heap.size (rideC x (.slice a2 n2 c2) (.slice a1 n1 c1) vw vp) 31 ∧ Blk ro7 (rx + 3) wr PK #[.int .i64 x.tag, .slice a5 x.code.length c5] 26 ∧ (0 < x.args.length → ∃ g, a3 = some ⟨g, 0, none⟩ ∧ ro7 g = rx ∧ Shp wr g x.args.length 74) ∧ (0 < x.code.length → ∃ g, a5 = some ⟨g, 0, none⟩ ∧ ro7 g = rx + 1 ∧ Shp wr g (x.code.length * 3) 117) ∧ Mv (fun _ => 0) [] w ro7 wr) (fun i _ => x.args.length - (intOf i).toNat)
    case atStart => exact ⟨0, rfl, Nat.zero_le _, PA7.out, X7.out, B7.out, sh7, ch7, M7.out⟩
    case round =>
      obtain ⟨k, rfl, hk, pa, xb, pb, shA, shC, hmv⟩ := hrel
      by_cases hlt : k < x.args.length
      · have hlt' : (k : Int) < x.args.length := by omega
        obtain ⟨g, rfl, hg, sh⟩ := shA (by omega)
        obtain ⟨y, hy⟩ := sh.cell hlt
        have hyf := sh.free k
        have SH := Lib.hid sh
        have PAk := Lib.hid pa
        have XB := Lib.hid xb
        have PBk := Lib.hid pb
        have SC := Lib.hid shC
        have HMV := Lib.hid hmv
        have sf := run_store_float
        clear sh pa xb pb shC hmv shA PA7 X7 B7 sh7 ch7
        go_wp2
        go_roundw
        case rel =>
          have mv : Mv ro7 [rx] wr ro7 (wr.setCell ⟨g, k, none⟩ (.float .f64 13858561215837503488)) := (Mv.refl _ _ _).setCell (by simp; exact hg) _
          refine ⟨k + 1, by go_num, by omega, HKA.out _ _ _ _ _ [rx] PAk.out (by simp) mv, XB.out.keep mv (by simp), PBk.out.keep mv (by simp), fun _ => ⟨g, rfl, hg, SH.out.put _ _⟩, fun h => ?_, ((HMV.out.mono (by simp)).trans mv).fresh hfz⟩
          obtain ⟨g2, e1, e2, e3⟩ := SC.out h
          exact ⟨g2, e1, e2, e3.keep mv (by rw [e2]; simp)⟩
        case measure => simp [intOf]; omega
      · obtain rfl : k = x.args.length := by omega
        have hb := pb.cell
        have PAk := Lib.hid pa
        have XB := Lib.hid xb
        have PBk := Lib.hid pb
        have SC := Lib.hid shC
        have HMV := Lib.hid hmv
        clear pa xb pb shC hmv shA PA7 X7 B7 sh7 ch7
        go_wp2
        clear hb
        go_loopw [39] (fun i wr => ∃ k : Nat, i = .int .i64 k ∧ k ≤ x.code.length ∧ PA ro7 wr u ∧ Blk ro7 (rx + 2) wr w.heap.size (rideC x (.slice a2 n2 c2) (.slice a1 n1 c1) vw vp) 31 ∧ Blk ro7 (rx + 3) wr PK #[.int .i64 x.tag, .slice a5 x.code.length c5] 26 ∧ (0 < x.code.length → ∃ g, a5 = some ⟨g, 0, none⟩ ∧ ro7 g = rx + 1 ∧ Shp wr g (x.code.length * 3) 117) ∧ Mv (fun _ => 0) [] w ro7 wr) (fun i _ => x.code.length - (intOf i).toNat)
        case atStart => exact ⟨0, rfl, Nat.zero_le _, PAk.out, XB.out, PBk.out, SC.out, HMV.out⟩
        case round =>
          clear PAk XB PBk SC HMV
          obtain ⟨k, rfl, hk, pa, xb, pb, shC, hmv⟩ := hrel
          have hb := pb.cell
          have PAk := Lib.hid pa
          have XB := Lib.hid xb
          have PBk := Lib.hid pb
          have HMV := Lib.hid hmv
          by_cases hlt : k < x.code.length
          · have hlt' : (k : Int) < x.code.length := by omega
            obtain ⟨g, rfl, hg, sh⟩ := shC (by omega)
            obtain ⟨y0, hy0⟩ := sh.cell (i := k * 3) (by omega)
            obtain ⟨y1, hy1⟩ := sh.cell (i := k * 3 + 1) (by omega)
            obtain ⟨y2, hy2⟩ := sh.cell (i := k * 3 + 2) (by omega)
            have hyf := sh.free
            have SH := Lib.hid sh
            have sf := run_store_float
            clear sh pa xb pb shC hmv
            go_wp2
            go_roundw
            case rel =>
              have hG : ro7 g ∈ [rx + 1] := by simp; exact hg
              have mv := (((Mv.refl ro7 [rx + 1] wr).setCell (p := ⟨g, k * 3, none⟩) hG (.int .i64 19)).setCell (p := ⟨g, k * 3 + 1, none⟩) hG (.int .i64 50)).setCell (p := ⟨g, k * 3 + 2, none⟩) hG (.float .f64 0)
              exact ⟨k + 1, by go_num, by omega, HKA.out _ _ _ _ _ [rx + 1] PAk.out (by simp) mv, XB.out.keep mv (by simp), PBk.out.keep mv (by simp), fun _ => ⟨g, rfl, hg, ((SH.out.put _ _).put _ _).put _ _⟩, ((HMV.out.mono (by simp)).trans mv).fresh hfz1⟩
            case measure => simp [intOf]; omega
          · obtain rfl : k = x.code.length := by omega
            have hx := xb.cell
            unfold rideC at hx
            clear pa xb pb shC hmv
            have RB := HHB.out ro7 _ HMV.out
            unfold cfgV at RB
            go_wp2_with (go_at_call 60; refine RB.mono ?_; rintro e w9 ⟨u9, ro9, rfl, pb9, m9⟩; have PB9 := Lib.hid pb9; have M9 := Lib.hid m9; clear pb9 m9 RB)
            go_ret2
            exact ⟨u, u9, ro9, rfl, HKA.out _ _ _ _ _ [] PAk.out (by simp) M9.out, PB9.out, HMV.out.trans M9.out⟩
end Go.Proofs.YtphaeodcomgffaaGreat
set_option linter.unusedVariables false
set_option linter.unusedSimpArgs false
namespace Go.Proofs.YtphaeodcomgffaaGreat
open Go.RowKit

/-- What a law's begun leaves where a reader may be made. -/
def BegunP (w : World) (x : Ride) (vc : Value) (e : Ending) (w' : World) : Prop :=
  ∃ X B ro' q M va p, e = .returned (.tuple #[ptr X, ptr B]) ∧ RIs ro' 10 w' X x.C x.th x.tag x.code x.args (newRs (badS x.tag x.code) x.args) q ∧ DRIs ro' 50 w' B x.C x.th x.tag vc x.args drNew (Ms.new (badS x.tag x.code) x.args).dm M va p ∧ Mv (fun _ => 0) [] w ro' w'
theorem begun_ok (w : World) (x : Ride) (vc va vw vp : Value) (hin : RideIn w x vc va vw vp) (hok : rOk x.C x.args.length x.th) :
    Calls Tryz.prog 16 #[x.v vc va vw vp] w (BegunP w x vc) := by
  obtain ⟨hC, h8, h0, h1⟩ := hok
  have hl : x.code.length * 24 ≤ 140737488355328 := by have := hin.codeL; omega
  refine (begun_gen 1 (by decide) w x vc va vw vp hin
    (fun ro W u => ∃ X q, u = ptr X ∧ RIs ro 10 W X x.C x.th x.tag x.code x.args (newRs (badS x.tag x.code) x.args) q)
    (fun ro W u => ∃ B M va p, u = ptr B ∧ DRIs ro 50 W B x.C x.th x.tag vc x.args drNew (Ms.new (badS x.tag x.code) x.args).dm M va p)
    (fun ro1 W vc' va' mv hc ha => ?_) (fun ro1 W ro2 W2 u R pa hR mv => ?_) (fun ro1 W mv => ?_)).mono ?_
  · refine (rnew_any ro1 10 (by decide) x.C x.th x.tag vc' va' x.code x.args W hC h8 h0 h1 hc ha hl).mono ?_
    rintro e w' ⟨X, ro', q, rfl, h, m⟩
    exact ⟨_, ro', rfl, ⟨X, q, rfl, h⟩, m⟩
  · obtain ⟨X, q, rfl, h⟩ := pa
    exact ⟨X, q, rfl, h.keep mv fun y hy => by have := hR y hy; omega⟩
  · refine (dnew_any ro1 50 (by decide) x.C x.th x.tag vc va x.code x.args W hC h8 h0 h1 (hin.code.keep0 mv.chg) (hin.args.keep0 mv.chg)).mono ?_
    rintro e w' ⟨B, ro', M, va', p, rfl, h, m⟩
    exact ⟨_, ro', rfl, ⟨B, M, va', p, rfl, h⟩, m⟩
  · rintro e w' ⟨u1, u2, ro', rfl, ⟨X, q, rfl, h⟩, ⟨B, M, va', p, rfl, k⟩, m⟩
    exact ⟨X, B, ro', q, M, va', p, rfl, h, k, m⟩
theorem rnew_none (C : Cfg) (tag th : Int) (vc va : Value) (code : List Ins) (args : List Nat) (w : World) (hcode : RdC w vc code) (hargs : Rd w 1 va (args.map cF)) (hlen : code.length * 24 ≤ 140737488355328) (h : ¬ rOk C args.length th) :
    Calls Tryz.prog 59 #[cfgV C, .int .i64 th, .agg #[.int .i64 tag, vc], va] w fun e w' => e = .returned (.pointer none) ∧ Chg [] w w' := by
  obtain ⟨a, c, ev⟩ := hargs.slice
  rw [List.length_map] at ev
  by_cases hC : C.ok
  · by_cases h8 : args.length ≤ 8
    · exact rnew_none3 C tag th vc va code args w hC h8 hcode hargs hlen (by unfold rOk at h; by_cases h0 : th < 0; exact .inl h0; right; by_cases h1 : C.threads ≤ th; exact h1; exact absurd ⟨hC, h8, by omega, by omega⟩ h)
    · exact rnew_none2 C tag th vc va a _ c ev w hC (by omega)
  · exact rnew_none1 C tag th vc va a _ c ev w hC
theorem dnew_none (C : Cfg) (tag th : Int) (vc va : Value) (code : List Ins) (args : List Nat) (w : World) (hcode : RdC w vc code) (hargs : Rd w 1 va (args.map cF)) (hlen : code.length * 24 ≤ 140737488355328) (h : ¬ rOk C args.length th) :
    Calls Tryz.prog 60 #[cfgV C, .int .i64 th, .agg #[.int .i64 tag, vc], va] w fun e w' => e = .returned (.pointer none) ∧ Chg [] w w' := by
  obtain ⟨a, c, ev⟩ := hargs.slice
  rw [List.length_map] at ev
  by_cases hC : C.ok
  · by_cases h8 : args.length ≤ 8
    · exact dnew_none3 C tag th vc va code args w hC h8 hcode hargs hlen (by unfold rOk at h; by_cases h0 : th < 0; exact .inl h0; right; by_cases h1 : C.threads ≤ th; exact h1; exact absurd ⟨hC, h8, by omega, by omega⟩ h)
    · exact dnew_none2 C tag th vc va a _ c ev w hC (by omega)
  · exact dnew_none1 C tag th vc va a _ c ev w hC
theorem begun_none (w : World) (x : Ride) (vc va vw vp : Value) (hin : RideIn w x vc va vw vp) (hok : ¬ rOk x.C x.args.length x.th) :
    Calls Tryz.prog 16 #[x.v vc va vw vp] w fun e w' => e = .returned (.tuple #[.pointer none, .pointer none]) ∧ ∃ ro', Mv (fun _ => 0) [] w ro' w' := by
  have hl : x.code.length * 24 ≤ 140737488355328 := by have := hin.codeL; omega
  refine (begun_gen 1 (by decide) w x vc va vw vp hin (fun ro W u => u = .pointer none) (fun ro W u => u = .pointer none)
    (fun ro1 W vc' va' mv hc ha => ?_) (fun ro1 W ro2 W2 u R pa hR mv => pa) (fun ro1 W mv => ?_)).mono ?_
  · refine (rnew_none x.C x.tag x.th vc' va' x.code x.args W hc ha hl hok).mono ?_
    rintro e w' ⟨rfl, m⟩
    exact ⟨_, ro1, rfl, rfl, .of_chg0 m⟩
  · refine (dnew_none x.C x.tag x.th vc va x.code x.args W (hin.code.keep0 mv.chg) (hin.args.keep0 mv.chg) hl hok).mono ?_
    rintro e w' ⟨rfl, m⟩
    exact ⟨_, ro1, rfl, rfl, .of_chg0 m⟩
  · rintro e w' ⟨u1, u2, ro', rfl, rfl, rfl, m⟩
    exact ⟨rfl, ro', m⟩
end Go.Proofs.YtphaeodcomgffaaGreat
