import Derived.Test.YtphaeodcomgffaaGreatVP
import Derived.Test.YtphaeodcomgffaaGreatVN
import Derived.Test.YtphaeodcomgffaaGreatVO
import Derived.Test.YtphaeodcomgffaaGreatLD
import Derived.Test.YtphaeodcomgffaaGreatRR
set_option linter.unusedVariables false
set_option linter.unusedSimpArgs false
namespace Go.Proofs.YtphaeodcomgffaaGreat
open Go.RowKit

/-! begun of the writer's laws. -/
def rideC5 (x : Ride) (vc va vw vp : Value) (n : Int) : Array Value := #[.int .i64 x.C.cells, .int .i64 x.C.threads, .int .i64 x.C.fuel, .int .i64 x.C.writes, .int .i64 x.th, .int .i64 x.tag, vc, va, vw, vp, .int .i64 n]
set_option maxRecDepth 100000 in
set_option maxHeartbeats 8000000 in
theorem begun5_gen (rx : Nat) (hrx : 1 ≤ rx) (w : World) (x : Ride) (vc va vw vp : Value) (ns : Int) (hin : RideIn w x vc va vw vp) (PA PB : (Nat → Nat) → World → Value → Prop)
    (HA : ∀ ro1 W vc' va', Mv (fun _ => 0) [] w ro1 W → RdC W vc' x.code → Rd W 1 va' (x.args.map cF) → Calls Tryz.prog 76 #[cfgV x.C, .int .i64 x.th, .agg #[.int .i64 x.tag, vc'], va'] W fun e w' => ∃ u ro2, e = .returned u ∧ PA ro2 w' u ∧ Mv ro1 [] W ro2 w')
    (KA : ∀ ro1 W ro2 W2 u R, PA ro1 W u → (∀ y ∈ R, y = rx ∨ y = rx + 1) → Mv ro1 R W ro2 W2 → PA ro2 W2 u)
    (HB : ∀ ro1 W, Mv (fun _ => 0) [] w ro1 W → Calls Tryz.prog 77 #[cfgV x.C, .int .i64 x.th, .agg #[.int .i64 x.tag, vc], va] W fun e w' => ∃ u ro2, e = .returned u ∧ PB ro2 w' u ∧ Mv ro1 [] W ro2 w') :
    Calls Tryz.prog 35 #[x.v5 vc va vw vp ns] w fun e w' => ∃ u1 u2 ro', e = .returned (.tuple #[u1, u2]) ∧ PA ro' w' u1 ∧ PB ro' w' u2 ∧ Mv (fun _ => 0) [] w ro' w' := by
  obtain ⟨a1, n1, c1, rfl⟩ : ∃ a n c, va = .slice a n c := by obtain ⟨a, c, e⟩ := hin.args.slice; exact ⟨_, _, _, e⟩
  obtain ⟨a2, n2, c2, rfl⟩ : ∃ a n c, vc = .slice a n c := by obtain ⟨a, c, e⟩ := hin.code.slice; exact ⟨_, _, _, e⟩
  have M1 : Mv (fun _ => 0) [] w (setRo (fun _ => 0) w.heap.size (rx + 2)) (w.alloc (.cells (rideC5 x (.slice a2 n2 c2) (.slice a1 n1 c1) vw vp ns) 85)) := ((Mv.refl _ [] w).alloc _).give (Nat.le_refl _)
  have X1 : Blk (setRo (fun _ => 0) w.heap.size (rx + 2)) (rx + 2) (w.alloc (.cells (rideC5 x (.slice a2 n2 c2) (.slice a1 n1 c1) vw vp ns) 85)) w.heap.size (rideC5 x (.slice a2 n2 c2) (.slice a1 n1 c1) vw vp ns) 85 := Blk.new _ _ _ _ _
  have RA := Lib.hid (hin.args.keep0 M1.chg)
  have hl8 : x.args.length * 8 ≤ 140737488355328 := by have := hin.argsL; omega
  have hl24 : x.code.length * 24 ≤ 140737488355328 := by have := hin.codeL; omega
  have HIN := Lib.hid hin
  have HHA := Lib.hid HA
  have HHB := Lib.hid HB
  have HKA := Lib.hid KA
  have HM1 := Lib.hid M1
  have HX1 := Lib.hid X1
  unfold Ride.v5
  unfold rideC5 at M1 X1
  clear HA HB KA hin
  clear X1 M1
  go_enter Tryz.func35, Tryz.ntmps35
  go_wp2_with (at_builtin; go_loud (refine wpList_copy elF cF_len cF_one (setRo (fun _ => 0) w.heap.size (rx + 2)) rx rfl (.const (.slice none 0 0)) (.tmp 10) rfl x.args _ rfl rfl RA.out hl8 ?_); intro v3 w3 o3 m3; have O3 := Lib.hid o3; have M3 := Lib.hid m3; have X3 := Lib.hid (HX1.out.keep m3 (by simp)); clear o3 m3)
  have m3 := HM1.out.trans M3.out
  have x3 := X3.out
  have o3 := O3.out
  clear O3 M3 X3
  generalize newRo (setRo (fun _ => 0) w.heap.size (rx + 2)) _ rx = ro3 at *
  have S3 : ∀ roC W, Mv ro3 [] w3 roC W → (W.cell? ⟨w.heap.size, 5, none⟩ = some (.int .i64 x.tag) ∧ W.cell? ⟨w.heap.size, 6, none⟩ = some (.slice a2 n2 c2)) := fun roC W mv => by
    have := (x3.keep mv (by simp)).cell
    exact ⟨this 5, this 6⟩
  have HS3 := Lib.hid S3
  have RC := Lib.hid fun roC W (mv : Mv ro3 [] w3 roC W) => HIN.out.code.keep0 (m3.trans mv).chg
  have HO3 := Lib.hid o3
  have HX3 := Lib.hid x3
  have HM3 := Lib.hid m3
  clear S3 o3 x3 m3
  refine wp_region_noPanic ?_
  go_region_held_law (fun W => (W.cell? ⟨w.heap.size, 5, none⟩ = some (.int .i64 x.tag) ∧ W.cell? ⟨w.heap.size, 6, none⟩ = some (.slice a2 n2 c2)))
    (first
      | assumption
      | exact HS3.out ro3 _ (Mv.refl _ _ _).drew
      | exact HS3.out ro3 _ ((Mv.refl _ _ _).alloc _).drew
      | exact HS3.out _ _ n5
      | exact HS3.out _ _ (n5.alloc _)
      | exact HS3.out _ _ ((n5.setNew (p := ⟨w3.heap.size, 0, none⟩) (Nat.le_refl _) _).setNew (p := ⟨w3.heap.size, 1, none⟩) (Nat.le_refl _) _)
      | go_keep)
    (first
      | (refine step_copy elC row_len row_one ro3 (rx + 1) rfl (.const (.slice none 0 0)) (.tmp 17) rfl x.code (.slice a2 n2 c2) rfl rfl (RC.out ro3 _ (Mv.refl _ _ _).drew) hl24 ?_
         intro v5 w5 p5 k5
         obtain ⟨a5, c5, rfl⟩ := p5.form
         have n5 : Mv ro3 [] w3 _ w5 := Mv.trans (Mv.refl ro3 [] w3).drew k5)
      | (refine step_copy elC row_len row_one (setRo ro3 w3.heap.size (rx + 3)) (rx + 1) rfl (.const (.slice none 0 0)) (.tmp 17) rfl x.code (.slice a2 n2 c2) rfl rfl (RC.out _ _ (((Mv.refl ro3 [] w3).alloc _).give (r := rx + 3) (Nat.le_refl _)).drew) hl24 ?_
         intro v5 w5 p5 k5
         obtain ⟨a5, c5, rfl⟩ := p5.form
         have n5 : Mv ro3 [] w3 _ w5 := Mv.trans (((Mv.refl ro3 [] w3).alloc _).give (r := rx + 3) (Nat.le_refl _)).drew k5
         have B5 := (((Blk.new ro3 (rx + 3) w3 #[.int .i64 0, .slice none 0 0] 26)).keep (Mv.refl _ [] _).drew (by simp)).keep k5 (by simp)
         have hkc := B5.cell
         have hkf := B5.free))
  all_goals
    refine NoPanic.normal ?_
    first
      | (have b0 : ∀ j, (j = 0 ∨ j = 1) → setRo ro3 w3.heap.size (rx + 3) = setRo ro3 w3.heap.size (rx + 3) := fun _ _ => rfl
         have B6 : Blk _ (rx + 3) _ w3.heap.size #[.int .i64 x.tag, .slice a5 x.code.length c5] 26 := (B5.put (i := 0) (v := .int .i64 x.tag) rfl).put (i := 1) (v := .slice a5 x.code.length c5) rfl
         have n6 := (n5.setNew (p := ⟨w3.heap.size, 0, none⟩) (Nat.le_refl _) (.int .i64 x.tag)).setNew (p := ⟨w3.heap.size, 1, none⟩) (Nat.le_refl _) (.slice a5 x.code.length c5)
         have hpP : newRo (setRo ro3 w3.heap.size (rx + 3)) (w3.alloc (.cells #[.int .i64 0, .slice none 0 0] 26)).drew.heap.size (rx + 1) w3.heap.size ∈ [rx + 3] := by rw [B5.role]; simp
         have p6 := p5.keep (((Mv.refl _ [rx + 3] w5).setCell (p := ⟨w3.heap.size, 0, none⟩) hpP (.int .i64 x.tag)).setCell (p := ⟨w3.heap.size, 1, none⟩) hpP (.slice a5 x.code.length c5)) (by simp)
         clear B5 hkc hkf k5 p5 n5 hpP b0
         generalize (w5.setCell ⟨w3.heap.size, 0, none⟩ (.int .i64 x.tag)).setCell ⟨w3.heap.size, 1, none⟩ (.slice a5 x.code.length c5) = W6 at *
         generalize hPB : w3.heap.size = PK at *
         generalize newRo _ _ (rx + 1) = ro6 at *)
      | (have B6 := Blk.new (newRo ro3 w3.drew.heap.size (rx + 1)) (rx + 3) w5 #[.int .i64 x.tag, .slice a5 x.code.length c5] 26
         have n6 := (n5.alloc (.cells #[.int .i64 x.tag, .slice a5 x.code.length c5] 26)).give (r := rx + 3) n5.size
         have p6 := p5.keep (((Mv.refl _ [] w5).alloc (.cells #[.int .i64 x.tag, .slice a5 x.code.length c5] 26)).give (r := rx + 3) (Nat.le_refl _)) (by simp)
         clear k5 p5 n5
         generalize w5.alloc (.cells #[.int .i64 x.tag, .slice a5 x.code.length c5] 26) = W6 at *
         generalize hPB : w5.heap.size = PK at *
         generalize setRo _ PK (rx + 3) = ro6 at *)
    have x6 := HX3.out.keep n6 (by simp)
    have o6 := HO3.out.keep n6 (by simp)
    have m6 := HM3.out.trans n6
    clear hPB
    try clear ‹_ ∧ _›
    obtain ⟨a3, c3, rfl⟩ := o6.form
    have hx := x6.cell
    unfold rideC5 at hx
    have hb := B6.cell
    have RD := HHA.out ro6 W6 (.slice a5 x.code.length c5) (.slice a3 x.args.length c3) m6 (p6.rd row_len) (o6.rd cF_len)
    have O6 := Lib.hid o6
    have P6 := Lib.hid p6
    have X6 := Lib.hid x6
    have BB6 := Lib.hid B6
    have M6 := Lib.hid m6
    clear o6 p6 x6 B6 m6 n6 HS3 RC HO3 HX3 HM3 HHA HM1 HX1 RA
    go_wp2_with (go_at_call 76; unfold cfgV at RD; refine RD.mono ?_; rintro e w7 ⟨u, ro7, rfl, pa7, m7⟩; have PA7 := Lib.hid pa7; have M67 := Lib.hid m7; have X7 := Lib.hid (X6.out.keep m7 (by simp)); have B7 := Lib.hid (BB6.out.keep m7 (by simp)); have O7 := Lib.hid (O6.out.keep m7 (by simp)); have P7 := Lib.hid (P6.out.keep m7 (by simp)); have M7 := Lib.hid (M6.out.trans m7); clear pa7 m7 RD hx hb)
    have sh7 : 0 < x.args.length → ∃ g, a3 = some ⟨g, 0, none⟩ ∧ ro7 g = rx ∧ Shp w7 g x.args.length 74 := fun h => by
      obtain ⟨g, e1, e2, e3⟩ := O7.out.shp h
      exact ⟨g, e1, e2, by simpa using e3⟩
    have ch7 : 0 < x.code.length → ∃ g, a5 = some ⟨g, 0, none⟩ ∧ ro7 g = rx + 1 ∧ Shp w7 g (x.code.length * 3) 117 := fun h => P7.out.shp h
    have hfz : ∀ y ∈ [rx], ∀ k, k < w.heap.size → (fun _ : Nat => 0) k ≠ y := by intro y hy k hk; simp at hy; show (0 : Nat) ≠ y; omega
    have hfz1 : ∀ y ∈ [rx + 1], ∀ k, k < w.heap.size → (fun _ : Nat => 0) k ≠ y := by intro y hy k hk; simp at hy; show (0 : Nat) ≠ y; omega
    clear O7 P7 M67 O6 P6 X6 BB6 M6
    go_loopw [29] (fun i wr => ∃ k : Nat, i = .int .i64 k ∧ k ≤ x.args.length ∧ PA ro7 wr u ∧ Blk ro7 (rx + 2) wr w.heap.size (rideC5 x (.slice a2 n2 c2) (.slice a1 n1 c1) vw vp ns) 85 ∧ Blk ro7 (rx + 3) wr PK #[.int .i64 x.tag, .slice a5 x.code.length c5] 26 ∧ (0 < x.args.length → ∃ g, a3 = some ⟨g, 0, none⟩ ∧ ro7 g = rx ∧ Shp wr g x.args.length 74) ∧ (0 < x.code.length → ∃ g, a5 = some ⟨g, 0, none⟩ ∧ ro7 g = rx + 1 ∧ Shp wr g (x.code.length * 3) 117) ∧ Mv (fun _ => 0) [] w ro7 wr) (fun i _ => x.args.length - (intOf i).toNat)
    case atStart => exact ⟨0, rfl, Nat.zero_le _, PA7.out, X7.out, B7.out, sh7, ch7, M7.out⟩
    case round =>
      obtain ⟨k, rfl, hk, pa, xb, pb, shA, shC, hmv⟩ := hrel
      by_cases hlt : k < x.args.length
      · have hlt' : (k : Int) < x.args.length := by omega
        obtain ⟨g, rfl, hg, sh⟩ := shA (by omega)
        obtain ⟨y, hy⟩ := sh.cell hlt
        have hyf := sh.free k
        have SH := Lib.hid sh
        have PAk := Lib.hid pa
        have XB := Lib.hid xb
        have PBk := Lib.hid pb
        have SC := Lib.hid shC
        have HMV := Lib.hid hmv
        have sf := run_store_float
        clear sh pa xb pb shC hmv shA PA7 X7 B7 sh7 ch7
        go_wp2
        go_roundw
        case rel =>
          have mv : Mv ro7 [rx] wr ro7 (wr.setCell ⟨g, k, none⟩ (.float .f64 13858561215837503488)) := (Mv.refl _ _ _).setCell (by simp; exact hg) _
          refine ⟨k + 1, by go_num, by omega, HKA.out _ _ _ _ _ [rx] PAk.out (by simp) mv, XB.out.keep mv (by simp), PBk.out.keep mv (by simp), fun _ => ⟨g, rfl, hg, SH.out.put _ _⟩, fun h => ?_, ((HMV.out.mono (by simp)).trans mv).fresh hfz⟩
          obtain ⟨g2, e1, e2, e3⟩ := SC.out h
          exact ⟨g2, e1, e2, e3.keep mv (by rw [e2]; simp)⟩
        case measure => simp [intOf]; omega
      · obtain rfl : k = x.args.length := by omega
        have hb := pb.cell
        have PAk := Lib.hid pa
        have XB := Lib.hid xb
        have PBk := Lib.hid pb
        have SC := Lib.hid shC
        have HMV := Lib.hid hmv
        clear pa xb pb shC hmv shA PA7 X7 B7 sh7 ch7
        go_wp2
        clear hb
        go_loopw [39] (fun i wr => ∃ k : Nat, i = .int .i64 k ∧ k ≤ x.code.length ∧ PA ro7 wr u ∧ Blk ro7 (rx + 2) wr w.heap.size (rideC5 x (.slice a2 n2 c2) (.slice a1 n1 c1) vw vp ns) 85 ∧ Blk ro7 (rx + 3) wr PK #[.int .i64 x.tag, .slice a5 x.code.length c5] 26 ∧ (0 < x.code.length → ∃ g, a5 = some ⟨g, 0, none⟩ ∧ ro7 g = rx + 1 ∧ Shp wr g (x.code.length * 3) 117) ∧ Mv (fun _ => 0) [] w ro7 wr) (fun i _ => x.code.length - (intOf i).toNat)
        case atStart => exact ⟨0, rfl, Nat.zero_le _, PAk.out, XB.out, PBk.out, SC.out, HMV.out⟩
        case round =>
          clear PAk XB PBk SC HMV
          obtain ⟨k, rfl, hk, pa, xb, pb, shC, hmv⟩ := hrel
          have hb := pb.cell
          have PAk := Lib.hid pa
          have XB := Lib.hid xb
          have PBk := Lib.hid pb
          have HMV := Lib.hid hmv
          by_cases hlt : k < x.code.length
          · have hlt' : (k : Int) < x.code.length := by omega
            obtain ⟨g, rfl, hg, sh⟩ := shC (by omega)
            obtain ⟨y0, hy0⟩ := sh.cell (i := k * 3) (by omega)
            obtain ⟨y1, hy1⟩ := sh.cell (i := k * 3 + 1) (by omega)
            obtain ⟨y2, hy2⟩ := sh.cell (i := k * 3 + 2) (by omega)
            have hyf := sh.free
            have SH := Lib.hid sh
            have sf := run_store_float
            clear sh pa xb pb shC hmv
            go_wp2
            go_roundw
            case rel =>
              have hG : ro7 g ∈ [rx + 1] := by simp; exact hg
              have mv := (((Mv.refl ro7 [rx + 1] wr).setCell (p := ⟨g, k * 3, none⟩) hG (.int .i64 19)).setCell (p := ⟨g, k * 3 + 1, none⟩) hG (.int .i64 50)).setCell (p := ⟨g, k * 3 + 2, none⟩) hG (.float .f64 0)
              exact ⟨k + 1, by go_num, by omega, HKA.out _ _ _ _ _ [rx + 1] PAk.out (by simp) mv, XB.out.keep mv (by simp), PBk.out.keep mv (by simp), fun _ => ⟨g, rfl, hg, ((SH.out.put _ _).put _ _).put _ _⟩, ((HMV.out.mono (by simp)).trans mv).fresh hfz1⟩
            case measure => simp [intOf]; omega
          · obtain rfl : k = x.code.length := by omega
            have hx := xb.cell
            unfold rideC5 at hx
            clear pa xb pb shC hmv
            have RB := HHB.out ro7 _ HMV.out
            unfold cfgV at RB
            go_wp2_with (go_at_call 77; refine RB.mono ?_; rintro e w9 ⟨u9, ro9, rfl, pb9, m9⟩; have PB9 := Lib.hid pb9; have M9 := Lib.hid m9; clear pb9 m9 RB)
            go_ret2
            exact ⟨u, u9, ro9, rfl, HKA.out _ _ _ _ _ [] PAk.out (by simp) M9.out, PB9.out, HMV.out.trans M9.out⟩
end Go.Proofs.YtphaeodcomgffaaGreat
set_option linter.unusedVariables false
set_option linter.unusedSimpArgs false
namespace Go.Proofs.YtphaeodcomgffaaGreat
open Go.RowKit

/-! begun of the writer's laws, where a writer may be made and where not. -/
theorem WIs.re {ro ro' : Nat → Nat} {n r : Nat} {w : World} {X C tag code args s q} (h : WIs ro r w X C tag code args s q) (e : Re n ro ro') (hr : n ≤ r) : WIs ro' r w X C tag code args s q :=
  ⟨h.blk.re e (by omega), h.mach.re e hr, fun g hg => (h.scan g hg).re e (by omega), fun g hg => (h.back g hg).re e (by omega), h.args.re e (by omega), h.was.re e (by omega)⟩
theorem DWIs.re {ro ro' : Nat → Nat} {n r : Nat} {w : World} {B C tag vc args m M va p} (h : DWIs ro r w B C tag vc args m M va p) (e : Re n ro ro') (hr : n ≤ r) : DWIs ro' r w B C tag vc args m M va p :=
  ⟨h.blk.re e (by omega), h.mach.re e hr, h.args.re e (by omega)⟩
theorem wrnew_any (ro : Nat → Nat) (r : Nat) (hr : 1 ≤ r) (C : Cfg) (th tag : Int) (vc va : Value) (code : List Ins) (args : List Nat) (w : World) (hC : C.ok) (h8 : args.length ≤ 8) (h0 : 0 ≤ th) (h1 : th < C.threads) (hcode : RdC w vc code) (hargs : Rd w 1 va (args.map cF)) (hlen : code.length * 24 ≤ 140737488355328) :
    Calls Tryz.prog 76 #[cfgV C, .int .i64 th, .agg #[.int .i64 tag, vc], va] w (WNewP ro r w C tag code args) := by
  refine (wrnew_walk (fun _ => 0) r C th tag vc va code args w (fun k _ => by omega) (fun k _ => by omega) hC h8 h0 h1 hcode hargs hlen).mono ?_
  rintro e w' ⟨X, ro3, q, rfl, h, m⟩
  exact ⟨X, _, q, rfl, h.re (mrg_re m ro) hr, mrg_mv m ro⟩
theorem dwnew_any (ro : Nat → Nat) (r : Nat) (hr : 1 ≤ r) (C : Cfg) (th tag : Int) (vc va : Value) (code : List Ins) (args : List Nat) (w : World) (hC : C.ok) (h8 : args.length ≤ 8) (h0 : 0 ≤ th) (h1 : th < C.threads) (hcode : RdC w vc code) (hargs : Rd w 1 va (args.map cF)) :
    Calls Tryz.prog 77 #[cfgV C, .int .i64 th, .agg #[.int .i64 tag, vc], va] w (DWNewP ro r w C tag vc code args) := by
  refine (dwnew_walk (fun _ => 0) r C th tag vc va code args w (fun k _ => by omega) hC h8 h0 h1 hcode hargs).mono ?_
  rintro e w' ⟨B, ro3, M, va', p, rfl, h, m⟩
  exact ⟨B, _, M, va', p, rfl, h.re (mrg_re m ro) hr, mrg_mv m ro⟩
/-- What a law's begun leaves where a writer may be made. -/
def Begun5P (w : World) (x : Ride) (vc : Value) (e : Ending) (w' : World) : Prop :=
  ∃ X B ro' q M va p, e = .returned (.tuple #[ptr X, ptr B]) ∧ WIs ro' 10 w' X x.C x.tag x.code x.args (newWr (badS x.tag x.code) x.args) q ∧ DWIs ro' 50 w' B x.C x.tag vc x.args (Ms.new (badS x.tag x.code) x.args).dm M va p ∧ Mv (fun _ => 0) [] w ro' w'
theorem begun5_ok (w : World) (x : Ride) (vc va vw vp : Value) (ns : Int) (hin : RideIn w x vc va vw vp) (hok : rOk x.C x.args.length x.th) :
    Calls Tryz.prog 35 #[x.v5 vc va vw vp ns] w (Begun5P w x vc) := by
  obtain ⟨hC, h8, h0, h1⟩ := hok
  have hl : x.code.length * 24 ≤ 140737488355328 := by have := hin.codeL; omega
  refine (begun5_gen 1 (by decide) w x vc va vw vp ns hin
    (fun ro W u => ∃ X q, u = ptr X ∧ WIs ro 10 W X x.C x.tag x.code x.args (newWr (badS x.tag x.code) x.args) q)
    (fun ro W u => ∃ B M va p, u = ptr B ∧ DWIs ro 50 W B x.C x.tag vc x.args (Ms.new (badS x.tag x.code) x.args).dm M va p)
    (fun ro1 W vc' va' mv hc ha => ?_) (fun ro1 W ro2 W2 u R pa hR mv => ?_) (fun ro1 W mv => ?_)).mono ?_
  · refine (wrnew_any ro1 10 (by decide) x.C x.th x.tag vc' va' x.code x.args W hC h8 h0 h1 hc ha hl).mono ?_
    rintro e w' ⟨X, ro', q, rfl, h, m⟩
    exact ⟨_, ro', rfl, ⟨X, q, rfl, h⟩, m⟩
  · obtain ⟨X, q, rfl, h⟩ := pa
    exact ⟨X, q, rfl, h.keep mv fun y hy => by have := hR y hy; omega⟩
  · refine (dwnew_any ro1 50 (by decide) x.C x.th x.tag vc va x.code x.args W hC h8 h0 h1 (hin.code.keep0 mv.chg) (hin.args.keep0 mv.chg)).mono ?_
    rintro e w' ⟨B, ro', M, va', p, rfl, h, m⟩
    exact ⟨_, ro', rfl, ⟨B, M, va', p, rfl, h⟩, m⟩
  · rintro e w' ⟨u1, u2, ro', rfl, ⟨X, q, rfl, h⟩, ⟨B, M, va', p, rfl, k⟩, m⟩
    exact ⟨X, B, ro', q, M, va', p, rfl, h, k, m⟩
theorem wrnew_none (C : Cfg) (tag th : Int) (vc va : Value) (code : List Ins) (args : List Nat) (w : World) (hcode : RdC w vc code) (hargs : Rd w 1 va (args.map cF)) (hlen : code.length * 24 ≤ 140737488355328) (h : ¬ rOk C args.length th) :
    Calls Tryz.prog 76 #[cfgV C, .int .i64 th, .agg #[.int .i64 tag, vc], va] w fun e w' => e = .returned (.pointer none) ∧ Chg [] w w' := by
  obtain ⟨a, c, ev⟩ := hargs.slice
  rw [List.length_map] at ev
  by_cases hC : C.ok
  · by_cases h8 : args.length ≤ 8
    · exact wrnew_none3 C tag th vc va code args w hC h8 hcode hargs hlen (by unfold rOk at h; by_cases h0 : th < 0; exact .inl h0; right; by_cases h1 : C.threads ≤ th; exact h1; exact absurd ⟨hC, h8, by omega, by omega⟩ h)
    · exact wrnew_none2 C tag th vc va a _ c ev w hC (by omega)
  · exact wrnew_none1 C tag th vc va a _ c ev w hC
theorem dwnew_none (C : Cfg) (tag th : Int) (vc va : Value) (code : List Ins) (args : List Nat) (w : World) (hcode : RdC w vc code) (hargs : Rd w 1 va (args.map cF)) (hlen : code.length * 24 ≤ 140737488355328) (h : ¬ rOk C args.length th) :
    Calls Tryz.prog 77 #[cfgV C, .int .i64 th, .agg #[.int .i64 tag, vc], va] w fun e w' => e = .returned (.pointer none) ∧ Chg [] w w' := by
  obtain ⟨a, c, ev⟩ := hargs.slice
  rw [List.length_map] at ev
  by_cases hC : C.ok
  · by_cases h8 : args.length ≤ 8
    · exact dwnew_none3 C tag th vc va code args w hC h8 hcode hargs hlen (by unfold rOk at h; by_cases h0 : th < 0; exact .inl h0; right; by_cases h1 : C.threads ≤ th; exact h1; exact absurd ⟨hC, h8, by omega, by omega⟩ h)
    · exact dwnew_none2 C tag th vc va a _ c ev w hC (by omega)
  · exact dwnew_none1 C tag th vc va a _ c ev w hC
theorem begun5_none (w : World) (x : Ride) (vc va vw vp : Value) (ns : Int) (hin : RideIn w x vc va vw vp) (hok : ¬ rOk x.C x.args.length x.th) :
    Calls Tryz.prog 35 #[x.v5 vc va vw vp ns] w fun e w' => e = .returned (.tuple #[.pointer none, .pointer none]) ∧ ∃ ro', Mv (fun _ => 0) [] w ro' w' := by
  have hl : x.code.length * 24 ≤ 140737488355328 := by have := hin.codeL; omega
  refine (begun5_gen 1 (by decide) w x vc va vw vp ns hin (fun ro W u => u = .pointer none) (fun ro W u => u = .pointer none)
    (fun ro1 W vc' va' mv hc ha => ?_) (fun ro1 W ro2 W2 u R pa hR mv => pa) (fun ro1 W mv => ?_)).mono ?_
  · refine (wrnew_none x.C x.tag x.th vc' va' x.code x.args W hc ha hl hok).mono ?_
    rintro e w' ⟨rfl, m⟩
    exact ⟨_, ro1, rfl, rfl, .of_chg0 m⟩
  · refine (dwnew_none x.C x.tag x.th vc va x.code x.args W (hin.code.keep0 mv.chg) (hin.args.keep0 mv.chg) hl hok).mono ?_
    rintro e w' ⟨rfl, m⟩
    exact ⟨_, ro1, rfl, rfl, .of_chg0 m⟩
  · rintro e w' ⟨u1, u2, ro', rfl, rfl, rfl, m⟩
    exact ⟨rfl, ro', m⟩
end Go.Proofs.YtphaeodcomgffaaGreat
set_option linter.unusedVariables false
set_option linter.unusedSimpArgs false
namespace Go.Proofs.YtphaeodcomgffaaGreat
open Go.RowKit

/-! laid of the writer's laws; the writer's phase. -/
set_option maxRecDepth 100000 in
set_option maxHeartbeats 1000000 in
theorem laid5_none (C : Cfg) (vw : Value) (a : Option Addr) (n c : Nat) (hva : vw = .slice a n c) (w : World) (h : ¬ C.ok) : Calls Tryz.prog 39 #[cfgV C, vw] w fun e w' => e = .returned (.tuple #[.pointer none, .pointer none]) ∧ Chg [] w w' := by
  subst hva
  have PW := rplace_walk C
  unfold planE at PW
  rw [if_neg h] at PW
  unfold noPlan cfgV at PW
  unfold cfgV
  clear h
  go_enter Tryz.func39, Tryz.ntmps39
  go_wp2_with (go_at_call 70; refine (PW _).mono ?_; rintro e w1 ⟨rfl, b1⟩; have B1 := Lib.hid b1; clear b1)
  go_ret2
  exact ⟨rfl, (((Chg.refl _ _).alloc _).trans (Chg.of_below B1.out)).alloc _⟩

set_option maxRecDepth 100000 in
set_option maxHeartbeats 8000000 in
theorem laid5_walk (ro : Nat → Nat) (rm rw : Nat) (C : Cfg) (vw : Value) (ws : List Nat) (w : World) (hfr : ∀ k, k < w.heap.size → ro k ∉ [rm + 1, rw + 1]) (hC : C.ok) (hr : rm + 1 < rw ∨ rw + 1 < rm) (hws : Rd w 1 vw (ws.map cU)) (hwx : ∀ x ∈ ws, x < 18446744073709551616) (hlen : ws.length ≤ 9223372036854775807) :
    Calls Tryz.prog 39 #[cfgV C, vw] w (LaidP ro rm rw w C) := by
  obtain ⟨C1, C2, C3, C4, _⟩ := id hC
  obtain ⟨n, hn⟩ : ∃ n : Nat, (n : Int) = 3 + C.threads + 3 * C.cells := ⟨(3 + C.threads + 3 * C.cells).toNat, by omega⟩
  have hn1 : n ≤ 4096 := by omega
  have hn3 : 1 ≤ n := by omega
  have hmk : ∀ u : World, (Instr.makeSlice 28 (.int .i64 n) (.int .i64 n)).run Tryz.prog u = .ok (.slice (some ⟨u.heap.size, 0, none⟩) n n) (u.alloc (.cells (madeCells #[.int .u64 0] n) 40)) := fun u => by
    obtain ⟨i, hi, hz, hs, hb⟩ := info_three infoU
    have := run_makeSlice (P := Tryz.prog) u 28 40 i (.int .u64 0) underU hi hz .i64 .i64 n n (by omega) (Int.le_refl _) (by rw [hs]; omega) (by rw [hb]; omega) (by omega)
    rw [hs, Nat.mul_one] at this
    exact this
  have PW := rplace_walk C
  unfold planE at PW
  rw [if_pos hC] at PW
  unfold planV cfgV at PW
  unfold cfgV
  rw [← hn] at PW
  have NW := fun ro' W => memnew_walk ro' rm n W (by omega) (by omega)
  unfold MemNewP at NW
  simp only [ptr, Int.toNat_natCast] at NW
  have HA := Lib.hid hws
  obtain ⟨a0, c0, e0⟩ := hws.slice
  rw [List.length_map] at e0
  subst e0
  have HN := Lib.hid hn
  clear hC hws hn
  go_enter Tryz.func39, Tryz.ntmps39
  go_wp2_with (first
    | (go_at_call 70; refine (PW _).mono ?_; rintro e w1 ⟨rfl, b1⟩; have M1 := Lib.hid (((Mv.refl ro [] w).alloc _).then_below b1); clear b1)
    | (go_at_call 17; refine (NW (setRo ro w1.heap.size (rm + rw + 2)) _).mono ?_; rintro e w2 ⟨MB, v, ro2, rfl, q2, m2⟩; have p2 := (Blk.new ro (rm + rw + 2) w1 _ _).keep m2 (by simp); have hc2 := p2.cell; have Q2 := Lib.hid q2; have M2 := Lib.hid ((M1.out.trans (((Mv.refl ro [] w1).alloc _).give (Nat.le_refl _))).trans m2); have P2 := Lib.hid p2; clear q2 m2 p2))
  have m2 := M2.out
  have mA : Mv ro2 [] w2 (setRo ro2 w2.heap.size (rw + 1)) (w2.alloc (.cells (madeCells #[.int .u64 0] n) 40)) := ((Mv.refl ro2 [] w2).alloc _).give (Nat.le_refl _)
  have mB : Mv (setRo ro2 w2.heap.size (rw + 1)) [] (w2.alloc (.cells (madeCells #[.int .u64 0] n) 40)) (setRo (setRo ro2 w2.heap.size (rw + 1)) (w2.heap.size + 1) rw) ((w2.alloc (.cells (madeCells #[.int .u64 0] n) 40)).alloc (.cells #[.slice (some ⟨w2.heap.size, 0, none⟩) n n, .int .i64 0] 73)) := ((Mv.refl _ [] _).alloc _).give (size_alloc_le _ _)
  have W4 : WrdIs (setRo (setRo ro2 w2.heap.size (rw + 1)) (w2.heap.size + 1) rw) rw ((w2.alloc (.cells (madeCells #[.int .u64 0] n) 40)).alloc (.cells #[.slice (some ⟨w2.heap.size, 0, none⟩) n n, .int .i64 0] 73)) (w2.heap.size + 1) (.slice (some ⟨w2.heap.size, 0, none⟩) n n) (List.replicate n 0) 0 :=
    ⟨⟨alloc2_heap _ _ _ _, setRo_at _ _ _⟩, (OwnL.zeros ro2 (rw + 1) w2 n (by unfold maxLen; omega)).keep mB (by simp)⟩
  have q4 := Q2.out.keep (mA.trans mB) (by simp) (by simp)
  have p4 := P2.out.keep (mA.trans mB) (by simp)
  have m4 := m2.trans (mA.trans mB)
  have e4 : ((w2.alloc (.cells (madeCells #[.int .u64 0] n) 40)).heap.size) = w2.heap.size + 1 := by simp
  generalize setRo (setRo ro2 w2.heap.size (rw + 1)) (w2.heap.size + 1) rw = ro4 at *
  generalize hW4 : (w2.alloc (.cells (madeCells #[.int .u64 0] n) 40)).alloc (.cells #[.slice (some ⟨w2.heap.size, 0, none⟩) n n, .int .i64 0] 73) = W3 at *
  have GW := Lib.hid W4
  have GQ := Lib.hid q4
  have GP := Lib.hid p4
  have GM := Lib.hid m4
  clear hW4 W4 q4 p4 m4 m2 mA mB Q2 P2 M2 hc2 NW PW M1
  go_loopw [11] (fun i wr => ∃ (k : Nat) (words : List Nat), i = .int .i64 k ∧ k ≤ n ∧ words.length = n ∧ (∀ x ∈ words, x < 18446744073709551616) ∧ MemIs ro4 rm wr MB v words false 0 ∧ WrdIs ro4 rw wr (w2.heap.size + 1) (.slice (some ⟨w2.heap.size, 0, none⟩) n n) words 0 ∧ Blk ro4 (rm + rw + 2) wr w1.heap.size #[.int .i64 0, .int .i64 1, .int .i64 2, .int .i64 3, .int .i64 (3 + C.threads), .int .i64 n] 38 ∧ Mv ro [] w ro4 wr) (fun i _ => n - (intOf i).toNat)
  case atStart => exact ⟨0, _, rfl, Nat.zero_le _, by simp, by intro x hx; rw [List.eq_of_mem_replicate hx]; decide, GQ.out, GW.out, GP.out, GM.out⟩
  case round =>
    obtain ⟨k, words, rfl, hk, hwl, hwf, hq, hwd, hp, hmv⟩ := hrel
    have hpc := hp.cell
    by_cases h1 : k < n
    · by_cases h2 : k < ws.length
      · have h1' : (k : Int) < n := by omega
        have h2' : (k : Int) < ws.length := by omega
        obtain ⟨b, off, c', e1, hb, hcell⟩ := (HA.out.keep0 hmv.chg).blk (by simp; omega)
        have hb' : b < w.heap.size := by obtain ⟨b2, _, _, e9, h9, _⟩ := HA.out.blk (by simp; omega); simp only [Value.slice.injEq] at e1 e9; obtain ⟨e8, _⟩ := e1; obtain ⟨e7, _⟩ := e9; rw [e8] at e7; cases e7; exact h9
        simp only [Value.slice.injEq, List.length_map] at e1
        rw [List.length_map] at hcell
        obtain ⟨rfl, -, rfl⟩ := e1
        have z0 := hcell k 0 h2 (by decide)
        simp only [List.getD, List.getElem?_map, List.getElem?_eq_getElem h2, Option.map_some, Option.getD_some, cU, List.getElem?_cons_zero, Nat.mul_one, Nat.add_zero] at z0
        have hx := hwx _ (List.getElem_mem h2)
        have KW := fun W (mv : Mv ro4 [] wr ro4 W) => poke_ok (hq.keep mv (by simp) (by simp)) k ws[k] (by omega)
        generalize ws[k] = x at *
        have HMV := Lib.hid hmv
        have HWD := Lib.hid hwd
        have HP := Lib.hid hp
        clear hmv hq hwd hp hcell
        go_wp2_with (go_at_call 43; refine (KW _ (Mv.refl _ _ _)).mono ?_; rintro e w5 ⟨rfl, q5, m5⟩)
        have HMV5 := ((HMV.out.mono (R' := [rm + 1]) (by simp)).trans m5).fresh (fun x hx j hj => fun e => hfr j hj (by rw [e]; simp at hx ⊢; omega))
        have W5 := HWD.out.keep m5 (by simp; omega) (by simp; omega)
        have p5 := HP.out.keep m5 (by simp; omega)
        have z5 := (World.cell?_of_block (w := wr) (w' := w5) (a := ⟨b, off + k, none⟩) (by have e1 := HMV5.block b hb' (by simp); have e2 := HMV.out.block b hb' (by simp); exact e1.trans e2.symm)).trans z0
        have hc5 := W5.blk.cell
        have hx5 := W5.own.at1 cU_len (i := k) (by omega)
        simp only [cU, List.getElem?_cons_zero] at hx5
        have hf5 : w5.frozen? ⟨w2.heap.size, k, none⟩ = false := Own.free (by have := W5.own; unfold OwnL at this; rw [hwl] at this; exact this) k
        have HW5 := Lib.hid W5
        have HP5 := Lib.hid p5
        have HQ5 := Lib.hid q5
        have HM5 := Lib.hid HMV5
        generalize words[k]'(by omega) = y0 at *
        clear W5 p5 q5 HMV5 hpc KW
        go_region
        all_goals
          go_wp2
          go_roundw
          case rel =>
            have hG : ro4 w2.heap.size ∈ [rw + 1] := by have := HW5.out.own.blk w2.heap.size rfl; simp; exact this.2
            have mv : Mv ro4 [rw + 1] w5 ro4 (w5.drew.setCell ⟨w2.heap.size, k, none⟩ (.int .u64 x)) := (Mv.refl ro4 [rw + 1] w5).drew.setCell hG _
            refine ⟨k + 1, words.set k x, by go_num, by omega, by simpa using hwl, set_fit hwf k hx, HQ5.out.keep mv (by simp; omega) (by simp; omega), ⟨HW5.out.blk.keep mv (by simp), ?_⟩, HP5.out.keep mv (by simp; omega), ((HM5.out.mono (R' := [rw + 1]) (by simp)).trans mv).fresh (fun x hx j hj => fun e => hfr j hj (by rw [e]; simp at hx ⊢; omega))⟩
            exact (HW5.out.own.keep (Mv.refl ro4 [] w5).drew (by simp)).setU k x (by omega)
          case measure => simp [intOf]; omega
      · have h2' : ¬ (k : Int) < ws.length := by omega
        have h1' : (k : Int) < n := by omega
        have HMV := Lib.hid hmv
        have HWD := Lib.hid hwd
        have HQ := Lib.hid hq
        clear hmv hwd hq hp
        go_wp2
        go_ret2
        exact ⟨MB, w2.heap.size + 1, v, _, ro4, words, rfl, by rw [hwl]; exact HN.out, hwf, HQ.out, HWD.out, HMV.out⟩
    · have h1' : ¬ (k : Int) < n := by omega
      have HMV := Lib.hid hmv
      have HWD := Lib.hid hwd
      have HQ := Lib.hid hq
      clear hmv hwd hq hp
      go_wp2
      go_ret2
      exact ⟨MB, w2.heap.size + 1, v, _, ro4, words, rfl, by rw [hwl]; exact HN.out, hwf, HQ.out, HWD.out, HMV.out⟩
theorem laid5_any (ro : Nat → Nat) (rm rw : Nat) (h1 : 1 ≤ rm) (h2 : 1 ≤ rw) (C : Cfg) (vw : Value) (ws : List Nat) (w : World) (hC : C.ok) (hr : rm + 1 < rw ∨ rw + 1 < rm) (hws : Rd w 1 vw (ws.map cU)) (hwx : ∀ x ∈ ws, x < 18446744073709551616) (hlen : ws.length ≤ 9223372036854775807) :
    Calls Tryz.prog 39 #[cfgV C, vw] w (LaidP ro rm rw w C) := by
  refine (laid5_walk (fun _ => 0) rm rw C vw ws w (fun k _ => by simp) hC hr hws hwx hlen).mono ?_
  rintro e w' ⟨MB, WB, v, v2, ro3, words, rfl, a1, a2, hm, hw, m⟩
  exact ⟨MB, WB, v, v2, _, words, rfl, a1, a2, hm.re (mrg_re m ro) h1, hw.re (mrg_re m ro) h2, mrg_mv m ro⟩
set_option maxRecDepth 100000 in
theorem wphase_walk {ro : Nat → Nat} {r : Nat} {w : World} {X C tag code args s q} (h : WIs ro r w X C tag code args s q) :
    Calls Tryz.prog 37 #[ptr X] w fun e w' => e = .returned (.int .i64 s.part) ∧ w' = w := by
  have hc := h.blk.cell
  unfold wcells at hc
  simp only [ptr] at hc ⊢
  clear h
  go_enter Tryz.func37, Tryz.ntmps37
  go_wp2
  go_ret
  exact ⟨rfl, rfl⟩
end Go.Proofs.YtphaeodcomgffaaGreat
