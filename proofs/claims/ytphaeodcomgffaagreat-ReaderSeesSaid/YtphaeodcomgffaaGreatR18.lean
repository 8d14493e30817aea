import Derived.Test.YtphaeodcomgffaaGreatMO
set_option linter.unusedVariables false
set_option linter.unusedSimpArgs false
namespace Go.Proofs.YtphaeodcomgffaaGreat
open Go.RowKit

set_option maxRecDepth 100000 in
set_option maxHeartbeats 8000000 in
theorem reck_18 {ro : Nat → Nat} {r : Nat} {w : World} {M C tag code m p} {k : List Nat} {a : Nat} (h : MIs ro r w M C tag code m p) (n : Int) (x : Nat) (hs : m.stack = k ++ [a]) (hl : k.length < 64) (ho : m.out.length ≤ 4096) :
    Calls Tryz.prog 170 #[ptr M, .agg #[.int .i64 18, .int .i64 n, .float .f64 x]] w (UpM ro r w M C tag code { m with stack := k, out := m.out ++ [a] } (.tuple #[])) := by
  have m0 : Mv ro [] w (setRo ro w.heap.size (r + 11)) (w.alloc (.cells #[.int .i64 18, .int .i64 n, .float .f64 x] 117)) := ((Mv.refl ro [] w).alloc _).give (Nat.le_refl _)
  have h0 := h.keep0 m0
  have PW := pop_snoc (h0.keep0 (Mv.refl _ [] _).drew) hs hl
  have hc := h.blk.cell 32
  unfold mcells at hc
  obtain ⟨vp, vcp, hvo⟩ := h.out.form
  rw [hvo] at hc
  have HVO := Lib.hid hvo
  have hlt := h.blk.lt
  simp only [ptr, List.getElem?_toArray, List.getElem?_cons_succ, List.getElem?_cons_zero] at hc PW ⊢
  obtain ⟨i0, hi0, hz0, hs0, hby0⟩ := info_three infoF
  have I0 := Lib.hid hi0
  have sf := run_store_float
  have M0 := Lib.hid m0
  clear h m0 h0 hs hi0 hvo
  go_enter Tryz.func170, Tryz.ntmps170
  go_wp2
  refine wp_region_noPanic ?_
  go_region_law (first
    | (refine step_append_lies _ rfl (.tmp 137) (.tmp 140) 27 rfl 0 74 i0 _ 1 8 under74 I0.out hz0 hs0 hby0 rfl (by decide) (.slice vp m.out.length vcp) m.out.length (m.out.flatMap cF) rfl (by have := (h1.out.keep ((Mv.refl ro1 [] w1).alloc (.cells #[.float .f64 a] 74)) (by simp)).own; simpa only [HVO.out] using this) _ 1 1 [.float .f64 a] rfl rfl (World.news_of_block (heap_alloc_new _ _)) (by simp [Value.oneCell']) (by decide) (by unfold maxLen; omega) (by omega) (Nat.zero_le _) _ rfl ?_
       intro g cap w6 h2 h3 h4 h5
       obtain ⟨o6, m6⟩ := grown_own (news := [a]) h1.out ((Mv.refl ro1 [] w1).alloc _) (by simp) (by simpa [cF] using h2) (by simp) (by simpa only [HVO.out] using h3) (by simpa only [HVO.out] using h4) rfl
       have k6 := h1.blk.keep m6 (by simp)
       have hc6 := k6.cell 32
       have hf6 := k6.free
       unfold mcells at hc6
       simp only [List.getElem?_toArray, List.getElem?_cons_succ, List.getElem?_cons_zero] at hc6
       clear h2 h3 h4 h5)
    | (go_simp; go_at_call 167; refine PW.mono ?_; rintro e w1 ⟨rfl, ro1, v1, h1, m1⟩; have hc1 := h1.blk.cell 32; unfold mcells at hc1; simp only [HVO.out, List.getElem?_toArray, List.getElem?_cons_succ, List.getElem?_cons_zero] at hc1; have hlt1 := h1.blk.lt))
  all_goals
    refine NoPanic.normal ?_
    go_wp2
    go_end0
    obtain ⟨q1, q2⟩ := h1.setOut m6 o6
    exact UpM.from M0.out.drew ⟨rfl, _, _, q1, (m1.mono fun _ => sR).trans q2⟩
end Go.Proofs.YtphaeodcomgffaaGreat
