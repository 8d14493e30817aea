import Derived.Test.YtphaeodcomgffaaGreatMO
set_option linter.unusedVariables false
set_option linter.unusedSimpArgs false
namespace Go.Proofs.YtphaeodcomgffaaGreat
open Go.RowKit

theorem underT : Tryz.prog.underlying 59 = some (.slice 76) := by kernel_rfl
theorem infoT : (Tryz.prog.info? 76).map (fun i => (i.zero, i.size, i.bytes)) = some (some (.agg #[.int .i64 0, .float .f64 0]), 2, 16) := by kernel_rfl
theorem Mv.setNew {ro ro1 : Nat → Nat} {R : List Nat} {a b : World} (h : Mv ro R a ro1 b) {p : Addr} (hp : a.heap.size ≤ p.block) (u : Value) : Mv ro R a ro1 (b.setCell p u) :=
  ⟨h.ext, h.os, h.tape, h.output, by simpa [World.setCell] using h.size, fun k hk hn => by rw [Below.heap_setCell _ _ _ _ (by rintro rfl; omega)]; exact h.block k hk hn⟩
theorem address_ok {ro : Nat → Nat} {r : Nat} {w : World} {M C tag code m p} {k : List Nat} {a : Nat} {c : Int} (h : MIs ro r w M C tag code m p) (hs : m.stack = k ++ [a]) (hl : k.length < 64) (hi : indexF a C.cells = some c) :
    Calls Tryz.prog 203 #[ptr M] w fun e w' => e = .returned (.int .i64 c) ∧ ∃ q, w' = w.drewN q := by
  have := address_walk h (by rw [hs]; simp) (by rw [hs]; simp; omega)
  rw [show m.top 0 = a by unfold Ms.top; rw [hs]; simp, hi] at this
  exact this
theorem address_no {ro : Nat → Nat} {r : Nat} {w : World} {M C tag code m p} {k : List Nat} {a : Nat} (h : MIs ro r w M C tag code m p) (hs : m.stack = k ++ [a]) (hl : k.length < 64) (hi : indexF a C.cells = none) :
    Calls Tryz.prog 203 #[ptr M] w fun e w' => e = faultE 50 ∧ ∃ q, w' = w.drewN q := by
  have := address_walk h (by rw [hs]; simp) (by rw [hs]; simp; omega)
  rw [show m.top 0 = a by unfold Ms.top; rw [hs]; simp, hi] at this
  exact this
theorem MIs.reblk {ro : Nat → Nat} {r : Nat} {w w' : World} {M C tag code m p} {m' : Ms} {p' : Mp} (h : MIs ro r w M C tag code m p) (mv : Mv ro [r] w ro w') (b : Blk ro r w' M (mcells C tag m' p') 191)
    (hp : p'.N = p.N ∧ p'.K = p.K ∧ p'.B = p.B ∧ p'.D = p.D ∧ p'.vn = p.vn ∧ p'.vk = p.vk ∧ p'.vw = p.vw ∧ p'.vo = p.vo ∧ p'.vr = p.vr ∧ p'.vc = p.vc) (hm : m'.stack = m.stack ∧ m'.calls = m.calls ∧ m'.writes = m.writes ∧ m'.out = m.out ∧ m'.reads = m.reads) (hw : ∀ c, m'.wait = some c → p'.cv = c) :
    MIs ro r w' M C tag code m' p' := by
  obtain ⟨a1, a2, a3, a4, a5, a6, a7, a8, a9, a10⟩ := hp
  obtain ⟨b1, b2, b3, b4, b5⟩ := hm
  refine ⟨b, ?_, ?_, ?_, ?_, ?_, ?_, ?_, hw⟩
  · rw [a1, a5, b1]; exact h.num.keep mv (by simp) (by simp)
  · rw [a2, a6, b2]; exact h.cal.keep mv (by simp) (by simp)
  · rw [a3, a4, a7, b3]; exact h.buf.keep mv (by simp) (by simp <;> omega) (by simp <;> omega)
  · rw [a8, b4]; exact h.out.keep mv (by simp)
  · rw [a9, b5]; exact h.rds.keep mv (by simp)
  · rw [a10]; exact h.code.keep mv (by simp)
  · rw [b3]; exact h.nd
theorem waits_put {ro : Nat → Nat} {r : Nat} {w : World} {M C tag code m p} (h : MIs ro r w M C tag code m p) (c : Int) : MIs ro r ((w.setCell ⟨M, 27, none⟩ (.bool true)).setCell ⟨M, 28, none⟩ (.int .i64 c)) M C tag code { m with wait := some c } { p with cv := c } ∧ Mv ro (mR r) w ro ((w.setCell ⟨M, 27, none⟩ (.bool true)).setCell ⟨M, 28, none⟩ (.int .i64 c)) := by
  have hM : ro M ∈ [r] := by rw [h.blk.role]; simp
  have mv : Mv ro [r] w ro ((w.setCell ⟨M, 27, none⟩ (.bool true)).setCell ⟨M, 28, none⟩ (.int .i64 c)) := ((Mv.refl _ _ _).setCell hM _).setCell hM _
  refine ⟨h.reblk mv ((h.blk.put (i := 27) rfl).put (i := 28) rfl) ⟨rfl, rfl, rfl, rfl, rfl, rfl, rfl, rfl, rfl, rfl⟩ ⟨rfl, rfl, rfl, rfl, rfl⟩ ?_, mv.mono (by simp [mR])⟩
  intro d hd
  cases hd
  rfl

def askV (a b : Int) (x : Nat) (f : Bool) : Value := .agg #[.int .i64 a, .int .i64 b, .float .f64 x, .bool f]
set_option maxRecDepth 100000 in
set_option maxHeartbeats 1000000 in
theorem read_none {ro : Nat → Nat} {r : Nat} {w : World} {M C tag code m p} {k : List Nat} {a : Nat} (h : MIs ro r w M C tag code m p) (hs : m.stack = k ++ [a]) (hl : k.length < 64) (hi : indexF a C.cells = none) :
    Calls Tryz.prog 164 #[ptr M] w (Or2 ro r w M C tag code m (.error 50)) := by
  have m0 : Mv ro [] w (setRo ro w.heap.size (r + 11)) (w.alloc (.cells #[.int .i64 0, .int .i64 0, .float .f64 0, .bool false] 139)) := ((Mv.refl ro [] w).alloc _).give (Nat.le_refl _)
  have h0 := h.keep0 m0
  have AW := address_no h0 hs hl hi
  unfold faultE at AW
  have M0 := Lib.hid m0
  clear h m0 hs hi
  go_enter Tryz.func164, Tryz.ntmps164
  go_wp2_with (go_at_call 203; refine AW.mono ?_; rintro e w1 ⟨rfl, q, rfl⟩)
  exact ⟨rfl, rfl, _, p, h0.keep0 ((Mv.refl _ [] _).drewN q), (M0.out.mono (by simp)).drewN q⟩
set_option maxRecDepth 100000 in
set_option maxHeartbeats 1000000 in
theorem read_asks {ro : Nat → Nat} {r : Nat} {w : World} {M C tag code m p} {k : List Nat} {a : Nat} {c : Int} (h : MIs ro r w M C tag code m p) (hs : m.stack = k ++ [a]) (hl : k.length < 64) (hi : indexF a C.cells = some c) (hw : wrote m.writes c = none) :
    Calls Tryz.prog 164 #[ptr M] w (UpM ro r w M C tag code { m with stack := k, wait := some c } (askV 1 c 0 false)) := by
  have m0 : Mv ro [] w (setRo ro w.heap.size (r + 11)) (w.alloc (.cells #[.int .i64 0, .int .i64 0, .float .f64 0, .bool false] 139)) := ((Mv.refl ro [] w).alloc _).give (Nat.le_refl _)
  have h0 := h.keep0 m0
  have AW := address_ok h0 hs hl hi
  have PW := fun q => pop_snoc (h0.keep0 ((Mv.refl _ [] _).drewN q)) hs hl
  have bx := fun q => (Blk.new ro (r + 11) w #[.int .i64 0, .int .i64 0, .float .f64 0, .bool false] 139).keep ((Mv.refl _ [] _).drewN q) (by simp)
  have GW := fun ro' W p' (h : MIs ro' r W M C tag code { m with stack := k } p') => bget_walk ro' (r + 5) W p'.B p'.D p'.vw m.writes C.writes c h.buf
  rw [hw] at GW
  simp only [Option.getD_none, Option.isSome_none] at GW
  have sf := run_store_float
  have M0 := Lib.hid m0
  clear h m0 hs hi hw
  simp only [ptr] at PW AW GW ⊢
  go_enter Tryz.func164, Tryz.ntmps164
  go_wp2_with (first
    | (go_at_call 203; refine AW.mono ?_; rintro e w1 ⟨rfl, q, rfl⟩)
    | (go_at_call 167; refine (PW _).mono ?_; rintro e w1 ⟨rfl, ro1, v1, h1, m1⟩; have b1 := (bx _).keep m1 (by simp); have bc := b1.cell; have bf := b1.free; have hc := h1.blk.cell; have hf := h1.blk.free; unfold mcells at hc; have ne1 : M ≠ w.heap.size := (by have := h1.blk.ne b1 (by omega); exact this); have ne2 := ne1.symm; simp only [ptr] at hc)
    | (go_at_call 204; refine (GW _ _ _ h1).mono ?_; rintro e w2 ⟨rfl, rfl⟩))
  refine bodyPost_ret (v := .agg #[.int .i64 1, .int .i64 c, .float .f64 0, .bool false]) (by simp [results, Tryz.results164, go_sem, bc, bf, ne1, ne2]) rfl ?_
  obtain ⟨q1, q2⟩ := waits_put h1 c
  have hR : ro1 w.heap.size ∈ [r + 11] := by rw [b1.role]; simp
  have n0 := Nat.le_refl w.heap.size
  exact ⟨rfl, ro1, _, q1.keep (((((Mv.refl _ _ _).setCell hR _).setCell hR _).setCell hR _).setCell hR _) (by simp), (((((((M0.out.mono (by simp)).drewN _).trans (m1.mono fun _ => sR)).trans q2).setNew n0 _).setNew n0 _).setNew n0 _).setNew n0 _⟩
set_option maxRecDepth 100000 in
set_option maxHeartbeats 2000000 in
theorem read_own {ro : Nat → Nat} {r : Nat} {w : World} {M C tag code m p} {k : List Nat} {a y : Nat} {c : Int} (h : MIs ro r w M C tag code m p) (hs : m.stack = k ++ [a]) (hl : k.length < 64) (hi : indexF a C.cells = some c) (hw : wrote m.writes c = some y) (ho : m.reads.length ≤ 4096) :
    Calls Tryz.prog 164 #[ptr M] w (UpM ro r w M C tag code { m with stack := k ++ [y], reads := m.reads ++ [(c, y)] } (askV 2 c y false)) := by
  have m0 : Mv ro [] w (setRo ro w.heap.size (r + 11)) (w.alloc (.cells #[.int .i64 0, .int .i64 0, .float .f64 0, .bool false] 139)) := ((Mv.refl ro [] w).alloc _).give (Nat.le_refl _)
  have h0 := h.keep0 m0
  have AW := address_ok h0 hs hl hi
  have PW := fun q => pop_snoc (h0.keep0 ((Mv.refl _ [] _).drewN q)) hs hl
  have bx := fun q => (Blk.new ro (r + 11) w #[.int .i64 0, .int .i64 0, .float .f64 0, .bool false] 139).keep ((Mv.refl _ [] _).drewN q) (by simp)
  have GW := fun ro' W p' (h : MIs ro' r W M C tag code { m with stack := k } p') => bget_walk ro' (r + 5) W p'.B p'.D p'.vw m.writes C.writes c h.buf
  rw [hw] at GW
  simp only [Option.getD_some, Option.isSome_some] at GW
  obtain ⟨vp, vcp, hvo⟩ := h.rds.form
  have HVO := Lib.hid hvo
  obtain ⟨i0, hi0, hz0, hs0, hby0⟩ := info_three infoT
  have I0 := Lib.hid hi0
  have sf := run_store_float
  have M0 := Lib.hid m0
  clear h m0 hs hi hw hvo hi0
  simp only [ptr] at PW AW GW ⊢
  go_enter Tryz.func164, Tryz.ntmps164
  go_wp2_with (first
    | (at_builtin; refine wpList_append_lies _ rfl (.tmp 37) (.tmp 41) 59 rfl 0 76 i0 _ 2 16 underT I0.out hz0 hs0 hby0 rfl (by decide) (.slice vp m.reads.length vcp) m.reads.length (m.reads.flatMap cT) rfl (by have := (h2.rds.keep ((Mv.refl ro2 [] w2).alloc (.cells #[.int .i64 c, .float .f64 y] 76)) (by simp)).own; simpa only [HVO.out] using this) _ 1 1 [.int .i64 c, .float .f64 y] rfl rfl (World.news_of_block (heap_alloc_new _ _)) (by simp [Value.oneCell']) (by decide) (by unfold maxLen; omega) (by omega) (Nat.zero_le _) _ rfl ?_
       intro g cap w6 g2 g3 g4 g5
       obtain ⟨o6, m6⟩ := grown_own (news := [(c, y)]) h2.rds ((Mv.refl ro2 [] w2).alloc _) (by simp) (by simpa [cT] using g2) (by simp) (by simpa only [HVO.out] using g3) (by simpa only [HVO.out] using g4) rfl
       have k6 := h2.blk.keep m6 (by simp)
       have hc6 := k6.cell 33
       have hf6 := k6.free
       unfold mcells at hc6
       simp only [HVO.out, List.getElem?_toArray, List.getElem?_cons_succ, List.getElem?_cons_zero] at hc6
       have b6 := b2.keep m6 (by simp)
       have bc := b6.cell
       have bf := b6.free
       have ne1 : M ≠ w.heap.size := k6.ne b6 (by omega)
       have ne2 := ne1.symm
       clear g2 g3 g4 g5)
    | (go_at_call 203; refine AW.mono ?_; rintro e w1 ⟨rfl, q, rfl⟩)
    | (go_at_call 167; refine (PW _).mono ?_; rintro e w1 ⟨rfl, ro1, v1, h1, m1⟩; have b1 := (bx _).keep m1 (by simp); have hc := h1.blk.cell 34; unfold mcells at hc; simp only [ptr, List.getElem?_toArray, List.getElem?_cons_succ, List.getElem?_cons_zero] at hc)
    | (go_at_call 204; refine (GW _ _ _ h1).mono ?_; rintro e w2 ⟨rfl, rfl⟩)
    | (go_at_call 133; refine (push_at (k := k) h1 rfl hl y).mono ?_; rintro e w2 ⟨rfl, ro2, v2, h2, m2⟩; have b2 := b1.keep m2 (by simp); have hc2 := h2.blk.cell 33; unfold mcells at hc2; simp only [HVO.out, List.getElem?_toArray, List.getElem?_cons_succ, List.getElem?_cons_zero] at hc2; have hlt2 := h2.blk.lt))
  refine bodyPost_ret (v := .agg #[.int .i64 2, .int .i64 c, .float .f64 y, .bool false]) (by simp [results, Tryz.results164, go_sem, bc, bf, ne1, ne2]) rfl ?_
  obtain ⟨q1, q2⟩ := h2.setReads m6 o6
  have hR : setRo ro2 (w2.alloc (.cells #[.int .i64 c, .float .f64 y] 76)).heap.size (r + 9) w.heap.size ∈ [r + 11] := by rw [b6.role]; simp
  have n0 := Nat.le_refl w.heap.size
  exact ⟨rfl, _, _, q1.keep (((((Mv.refl _ _ _).setCell hR _).setCell hR _).setCell hR _).setCell hR _) (by simp), (((((((M0.out.mono (by simp)).drewN _).trans ((m1.trans m2).mono fun _ => sR)).trans q2).setNew n0 _).setNew n0 _).setNew n0 _).setNew n0 _⟩
end Go.Proofs.YtphaeodcomgffaaGreat
set_option linter.unusedVariables false
set_option linter.unusedSimpArgs false
namespace Go.Proofs.YtphaeodcomgffaaGreat
open Go.RowKit

set_option maxRecDepth 100000 in
set_option maxHeartbeats 8000000 in
theorem reck_18 {ro : Nat → Nat} {r : Nat} {w : World} {M C tag code m p} {k : List Nat} {a : Nat} (h : MIs ro r w M C tag code m p) (n : Int) (x : Nat) (hs : m.stack = k ++ [a]) (hl : k.length < 64) (ho : m.out.length ≤ 4096) :
    Calls Tryz.prog 170 #[ptr M, .agg #[.int .i64 18, .int .i64 n, .float .f64 x]] w (UpM ro r w M C tag code { m with stack := k, out := m.out ++ [a] } (.tuple #[])) := by
  have m0 : Mv ro [] w (setRo ro w.heap.size (r + 11)) (w.alloc (.cells #[.int .i64 18, .int .i64 n, .float .f64 x] 117)) := ((Mv.refl ro [] w).alloc _).give (Nat.le_refl _)
  have h0 := h.keep0 m0
  have PW := pop_snoc (h0.keep0 (Mv.refl _ [] _).drew) hs hl
  have hc := h.blk.cell 32
  unfold mcells at hc
  obtain ⟨vp, vcp, hvo⟩ := h.out.form
  rw [hvo] at hc
  have HVO := Lib.hid hvo
  have hlt := h.blk.lt
  simp only [ptr, List.getElem?_toArray, List.getElem?_cons_succ, List.getElem?_cons_zero] at hc PW ⊢
  obtain ⟨i0, hi0, hz0, hs0, hby0⟩ := info_three infoF
  have I0 := Lib.hid hi0
  have sf := run_store_float
  have M0 := Lib.hid m0
  clear h m0 h0 hs hi0 hvo
  go_enter Tryz.func170, Tryz.ntmps170
  go_wp2
  refine wp_region_noPanic ?_
  go_region_law (first
    | (refine step_append_lies _ rfl (.tmp 137) (.tmp 140) 27 rfl 0 74 i0 _ 1 8 under74 I0.out hz0 hs0 hby0 rfl (by decide) (.slice vp m.out.length vcp) m.out.length (m.out.flatMap cF) rfl (by have := (h1.out.keep ((Mv.refl ro1 [] w1).alloc (.cells #[.float .f64 a] 74)) (by simp)).own; simpa only [HVO.out] using this) _ 1 1 [.float .f64 a] rfl rfl (World.news_of_block (heap_alloc_new _ _)) (by simp [Value.oneCell']) (by decide) (by unfold maxLen; omega) (by omega) (Nat.zero_le _) _ rfl ?_
       intro g cap w6 h2 h3 h4 h5
       obtain ⟨o6, m6⟩ := grown_own (news := [a]) h1.out ((Mv.refl ro1 [] w1).alloc _) (by simp) (by simpa [cF] using h2) (by simp) (by simpa only [HVO.out] using h3) (by simpa only [HVO.out] using h4) rfl
       have k6 := h1.blk.keep m6 (by simp)
       have hc6 := k6.cell 32
       have hf6 := k6.free
       unfold mcells at hc6
       simp only [List.getElem?_toArray, List.getElem?_cons_succ, List.getElem?_cons_zero] at hc6
       clear h2 h3 h4 h5)
    | (go_simp; go_at_call 167; refine PW.mono ?_; rintro e w1 ⟨rfl, ro1, v1, h1, m1⟩; have hc1 := h1.blk.cell 32; unfold mcells at hc1; simp only [HVO.out, List.getElem?_toArray, List.getElem?_cons_succ, List.getElem?_cons_zero] at hc1; have hlt1 := h1.blk.lt))
  all_goals
    refine NoPanic.normal ?_
    go_wp2
    go_end0
    obtain ⟨q1, q2⟩ := h1.setOut m6 o6
    exact UpM.from M0.out.drew ⟨rfl, _, _, q1, (m1.mono fun _ => sR).trans q2⟩
end Go.Proofs.YtphaeodcomgffaaGreat
set_option linter.unusedVariables false
set_option linter.unusedSimpArgs false
namespace Go.Proofs.YtphaeodcomgffaaGreat
open Go.RowKit

set_option maxRecDepth 100000 in
set_option maxHeartbeats 1000000 in
theorem reck_8 {ro : Nat → Nat} {r : Nat} {w : World} {M C tag code m p} {k : List Nat} {a : Nat} (h : MIs ro r w M C tag code m p) (j : Nat) (x : Nat) (hj : j < 8) (hs : m.stack = k ++ [a]) (hl : k.length < 64) :
    Calls Tryz.prog 170 #[ptr M, .agg #[.int .i64 8, .int .i64 j, .float .f64 x]] w (UpM ro r w M C tag code { m with stack := k, locals := fun i => if i = j then a else m.locals i } (.tuple #[])) := by
  have m0 : Mv ro [] w (setRo ro w.heap.size (r + 11)) (w.alloc (.cells #[.int .i64 8, .int .i64 j, .float .f64 x] 117)) := ((Mv.refl ro [] w).alloc _).give (Nat.le_refl _)
  have h0 := h.keep0 m0
  have PW := pop_snoc (h0.keep0 (Mv.refl _ [] _).drew) hs hl
  have bx := (Blk.new ro (r + 11) w #[.int .i64 8, .int .i64 j, .float .f64 x] 117).keep (Mv.refl _ [] _).drew (by simp)
  have hlt := h.blk.lt
  have hj' : (j : Int) < 8 := by omega
  simp only [ptr] at PW ⊢
  have sf := run_store_float
  have M0 := Lib.hid m0
  clear h m0 h0 hs
  go_enter Tryz.func170, Tryz.ntmps170
  go_wp2
  refine wp_region_noPanic ?_
  go_region_law (go_simp; go_at_call 167; refine PW.mono ?_; rintro e w1 ⟨rfl, ro1, v1, h1, m1⟩; have b1 := (bx.keep m1 (by simp)).cell 1; have hc1 : w1.cell? ⟨M, 15 + j, none⟩ = some (.float .f64 (m.locals j)) := (by rw [h1.blk.cell]; exact mcells_loc C tag _ _ j hj); have hf1 := h1.blk.free (15 + j))
  all_goals
    refine NoPanic.normal ?_
    go_wp2
    go_end0
    exact UpM.from M0.out.drew ⟨rfl, ro1, _, h1.put1 _ _ _ (mcells_setloc C tag _ _ a j hj) ⟨rfl, rfl, rfl, rfl, rfl⟩ rfl, (m1.mono fun _ => sR).setCell h1.inR _⟩
set_option maxRecDepth 100000 in
set_option maxHeartbeats 1000000 in
theorem reck_9 {ro : Nat → Nat} {r : Nat} {w : World} {M C tag code m p} {k : List Nat} {a : Nat} (h : MIs ro r w M C tag code m p) (n : Int) (x : Nat) (hn1 : 1 ≤ n) (hn2 : n ≤ 8) (ha : a < 18446744073709551616) (hs : m.stack = k ++ [a]) (hl : k.length < 64) :
    Calls Tryz.prog 170 #[ptr M, .agg #[.int .i64 9, .int .i64 n, .float .f64 x]] w (UpM ro r w M C tag code { m with stack := k ++ [oneF n (fx a)] } (.tuple #[])) := by
  have m0 : Mv ro [] w (setRo ro w.heap.size (r + 11)) (w.alloc (.cells #[.int .i64 9, .int .i64 n, .float .f64 x] 117)) := ((Mv.refl ro [] w).alloc _).give (Nat.le_refl _)
  have h0 := h.keep0 m0
  have PW := pop_snoc (h0.keep0 (Mv.refl _ [] _).drew) hs hl
  have bx := (Blk.new ro (r + 11) w #[.int .i64 9, .int .i64 n, .float .f64 x] 117).keep (Mv.refl _ [] _).drew (by simp)
  have OW := one_walk n a hn1 hn2 ha
  generalize oneF n (fx a) = y at *
  have hlt := h.blk.lt
  simp only [ptr] at PW ⊢
  have sf := run_store_float
  have M0 := Lib.hid m0
  clear h m0 h0 hs hn1 hn2 ha
  go_enter Tryz.func170, Tryz.ntmps170
  go_wp2
  refine wp_region_noPanic ?_
  go_region_law (go_simp; first | (go_at_call 167; refine PW.mono ?_; rintro e w1 ⟨rfl, ro1, v1, h1, m1⟩; have b1 := (bx.keep m1 (by simp)).cell 1) | (go_at_call 209; refine (OW _).mono ?_; rintro e w2 ⟨rfl, b2⟩; have h2 := h1.keep0 (Mv.of_below b2); have m2 := m1.then_below b2; clear b2))
  all_goals
    refine NoPanic.normal ?_
    go_wp2_with (go_at_call 133; refine (push_at (k := k) h2 rfl hl y).mono ?_; rintro e w3 ⟨rfl, ro3, v3, h3, m3⟩)
    go_end0
    exact UpM.from M0.out.drew ⟨rfl, ro3, _, h3, (m2.trans m3).mono fun _ => sR⟩
set_option maxRecDepth 100000 in
set_option maxHeartbeats 1000000 in
theorem reck_10 {ro : Nat → Nat} {r : Nat} {w : World} {M C tag code m p} {k : List Nat} {a b : Nat} (h : MIs ro r w M C tag code m p) (n : Int) (x : Nat) (hn1 : 1 ≤ n) (hn2 : n ≤ 12) (ha : a < 18446744073709551616) (hb : b < 18446744073709551616) (hs : m.stack = (k ++ [a]) ++ [b]) (hl : k.length < 63) :
    Calls Tryz.prog 170 #[ptr M, .agg #[.int .i64 10, .int .i64 n, .float .f64 x]] w (UpM ro r w M C tag code { m with stack := k ++ [twoF n (fx a) (fx b)] } (.tuple #[])) := by
  have m0 : Mv ro [] w (setRo ro w.heap.size (r + 11)) (w.alloc (.cells #[.int .i64 10, .int .i64 n, .float .f64 x] 117)) := ((Mv.refl ro [] w).alloc _).give (Nat.le_refl _)
  have h0 := h.keep0 m0
  have PW := pop_snoc h0 hs (by simp; omega)
  have bx := Blk.new ro (r + 11) w #[.int .i64 10, .int .i64 n, .float .f64 x] 117
  have OW := two_walk n a b hn1 hn2 ha hb
  generalize twoF n (fx a) (fx b) = y at *
  have hlt := h.blk.lt
  simp only [ptr] at PW ⊢
  have sf := run_store_float
  have M0 := Lib.hid m0
  clear h m0 h0 hs hn1 hn2 ha hb
  have tk1 : True := trivial
  go_enter Tryz.func170, Tryz.ntmps170
  go_wp2_with (first
    | (go_at_call 167; have _t := tk1; clear tk1; refine PW.mono ?_; rintro e w1 ⟨rfl, ro1, v1, h1, m1⟩)
    | (go_at_call 167; refine (pop_snoc h1 rfl (by omega)).mono ?_; rintro e w2 ⟨rfl, ro2, v2, h2, m2⟩; have m12 := m1.trans m2; have b2 := (bx.keep m12 (by simp)).cell 1)
    | (go_at_call 210; refine (OW _).mono ?_; rintro e w3 ⟨rfl, b3⟩; have h3 := h2.keep0 (Mv.of_below b3); have m3 := m12.then_below b3; clear b3)
    | (go_at_call 133; refine (push_at (k := k) h3 rfl (by omega) y).mono ?_; rintro e w4 ⟨rfl, ro4, v4, h4, m4⟩))
  go_end0
  exact UpM.from M0.out ⟨rfl, ro4, _, h4, (m3.trans m4).mono fun _ => sR⟩
end Go.Proofs.YtphaeodcomgffaaGreat
