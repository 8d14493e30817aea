import Derived.Test.YtphaeodcomgffaaGreatR3
import Derived.Deep.RegionLaw
import Derived.Test.YtphaeodcomgffaaGreatR7
import Derived.Test.YtphaeodcomgffaaGreatR11
set_option linter.unusedVariables false
set_option linter.unusedSimpArgs false
namespace Go.Proofs.YtphaeodcomgffaaGreat
open Go.RowKit

set_option maxRecDepth 100000 in
set_option maxHeartbeats 4000000 in
theorem give_walk {ro : Nat → Nat} {r : Nat} {w : World} {M C tag code m p} {c : Int} (h : MIs ro r w M C tag code m p) (x : Nat) (hw : m.wait = some c) (hl : m.stack.length < 64) (hr : m.reads.length ≤ 4096) :
    Calls Tryz.prog 97 #[ptr M, .float .f64 x] w (UpM ro r w M C tag code { m with stack := m.stack ++ [fx x], reads := m.reads ++ [(c, fx x)], wait := none } (.int .i64 0)) := by
  have PW := push_at h rfl hl (fx x)
  have e1 := h.wait c hw
  have hc := h.blk.cell 27
  unfold mcells at hc
  simp only [hw, Option.isSome_some, List.getElem?_toArray, List.getElem?_cons_succ, List.getElem?_cons_zero] at hc
  obtain ⟨vp, vcp, hvo⟩ := h.rds.form
  have HVO := Lib.hid hvo
  have E1 := Lib.hid e1
  obtain ⟨i0, hi0, hz0, hs0, hby0⟩ := info_three infoT
  have I0 := Lib.hid hi0
  have sf := run_store_float
  have HW := Lib.hid hw
  clear h hw hvo hi0 e1
  have FW := fix_walk x
  generalize fx x = y at *
  simp only [ptr] at PW ⊢
  go_enter Tryz.func97, Tryz.ntmps97
  go_wp2_with (first
    | (go_at_call 92; refine (FW _).mono ?_; rintro e w1 ⟨rfl, rfl⟩)
    | (go_at_call 133; refine PW.mono ?_; rintro e w1 ⟨rfl, ro1, v1, h1, m1⟩; have hc1 := h1.blk.cell 33; have hd1 := h1.blk.cell 28; unfold mcells at hc1 hd1; simp only [HVO.out, E1.out, List.getElem?_toArray, List.getElem?_cons_succ, List.getElem?_cons_zero] at hc1 hd1; have hlt1 := h1.blk.lt))
  refine wp_region_noPanic ?_
  go_region_law (refine step_append_lies _ rfl (.tmp 19) (.tmp 26) 59 rfl 0 76 i0 _ 2 16 underT I0.out hz0 hs0 hby0 rfl (by decide) (.slice vp m.reads.length vcp) m.reads.length (m.reads.flatMap cT) rfl (by have := (h1.rds.keep (((Mv.refl ro1 [] w1).alloc (.cells #[.int .i64 c, .float .f64 y] 76)).drew) (by simp)).own; simpa only [HVO.out] using this) _ 1 1 [.int .i64 c, .float .f64 y] rfl rfl (World.news_of_block (heap_alloc_new _ _)) (by simp [Value.oneCell']) (by decide) (by unfold maxLen; omega) (by omega) (Nat.zero_le _) _ rfl ?_
                 intro g cap w6 g2 g3 g4 g5
                 obtain ⟨o6, m6⟩ := grown_own (news := [(c, y)]) h1.rds ((Mv.refl ro1 [] w1).alloc _).drew (by simp) (by simpa [cT] using g2) (by simp) (by simpa only [HVO.out] using g3) (by simpa only [HVO.out] using g4) rfl
                 have k6 := h1.blk.keep m6 (by simp)
                 have hc6 := k6.cell 33
                 have hd6 := k6.cell 27
                 have hf6 := k6.free
                 unfold mcells at hc6 hd6
                 simp only [HVO.out, HW.out, Option.isSome_some, List.getElem?_toArray, List.getElem?_cons_succ, List.getElem?_cons_zero] at hc6 hd6
                 clear g2 g3 g4 g5)
  all_goals
    refine NoPanic.normal ?_
    go_wp2
    go_ret
    obtain ⟨q1, q2⟩ := h1.setReads m6 o6
    have q3 := q1.put (i := 27) (v := .bool false) (m' := { m with stack := m.stack ++ [y], reads := m.reads ++ [(c, y)], wait := none }) (p' := _) rfl ⟨rfl, rfl, rfl, rfl, rfl, rfl, rfl, rfl, rfl, rfl⟩ ⟨rfl, rfl, rfl, rfl, rfl⟩ (by intro d hd; cases hd)
    exact ⟨rfl, _, _, q3, ((m1.mono fun _ => sR).trans q2).setCell q1.inR _⟩
end Go.Proofs.YtphaeodcomgffaaGreat
set_option linter.unusedVariables false
set_option linter.unusedSimpArgs false
namespace Go.Proofs.YtphaeodcomgffaaGreat
open Go.RowKit

/-- All numbers that a machine may reckon with fit. -/
structure Fit (code : List Ins) (m : Ms) : Prop where
  stack : ∀ y ∈ m.stack, y < 18446744073709551616

theorem snoc_of {α : Type} {l : List α} (h : 0 < l.length) : ∃ k a, l = k ++ [a] := by
  rcases List.eq_nil_or_concat l with rfl | ⟨k, a, e⟩
  · simp at h
  · exact ⟨k, a, by rw [e, List.concat_eq_append]⟩
theorem snoc2_of {α : Type} {l : List α} (h : 2 ≤ l.length) : ∃ k b a, l = (k ++ [b]) ++ [a] := by
  obtain ⟨k, a, rfl⟩ := snoc_of (l := l) (by omega)
  obtain ⟨k, b, rfl⟩ := snoc_of (l := k) (by simp at h; omega)
  exact ⟨k, b, a, rfl⟩
theorem ms_eta (m : Ms) (l : List Nat) (h : m.stack = l) : m = { m with stack := l } := by subst h; rfl

set_option maxHeartbeats 1000000 in
theorem do_walk {ro : Nat → Nat} {r : Nat} {w : World} {M C tag code m p} {x : Ins} (h : MIs ro r w M C tag code m p) (hC : C.ok) (T : Took C code x m) (F : Fit code m) :
    Calls Tryz.prog 131 #[ptr M, insV x.op x.n x.x] w (DoP ro r w M C tag code m (m.doS C tag x)) := by
  obtain ⟨o1, o2⟩ := op_cases T.may
  have hn := T.need
  have hm := T.most
  have hs64 := T.wf.stack
  have hfu := T.wf.used1
  have hr1 := T.reads
  have ho1 := T.outs
  obtain ⟨C1, C2, C3, C4, C5, C6, C7, C8⟩ := hC
  obtain ⟨op, n, xx⟩ := x
  simp only at o1 o2 hn hm ⊢
  rcases (by omega : op = 1 ∨ op = 2 ∨ op = 3 ∨ op = 4 ∨ op = 5 ∨ op = 6 ∨ op = 7 ∨ op = 8 ∨ op = 9 ∨ op = 10 ∨ op = 11 ∨ op = 12 ∨ op = 13 ∨ op = 14 ∨ op = 15 ∨ op = 16 ∨ op = 17 ∨ op = 18 ∨ op = 19 ∨ op = 20) with rfl | rfl | rfl | rfl | rfl | rfl | rfl | rfl | rfl | rfl | rfl | rfl | rfl | rfl | rfl | rfl | rfl | rfl | rfl | rfl
  · simp [show effT 1 = 0 by decide, show effL 1 = 1 by decide] at hn hm
    have e : m.doS C tag ⟨1, n, xx⟩ = .ok ({ m with stack := m.stack ++ [fx xx] }, askNone) := by simp [Ms.doS, Ms.reck, Ms.trade]
    rw [e]
    exact do_reck h 1 n xx _ (by decide) fun ro' W h' => reck_1 h' n xx (by omega)
  · simp [show effT 2 = 1 by decide, show effL 2 = 0 by decide] at hn hm
    obtain ⟨k, a, hs⟩ := snoc_of (l := m.stack) (by omega)
    have hl : m.stack.length = k.length + 1 := by rw [hs]; simp
    have e : m.doS C tag ⟨2, n, xx⟩ = .ok ({ m with stack := k }, askNone) := by simp [Ms.doS, Ms.reck, Ms.trade, hs]
    rw [e]
    exact do_reck h 2 n xx _ (by decide) fun ro' W h' => reck_2 h' n xx hs (by omega)
  · simp [show effT 3 = 1 by decide, show effL 3 = 2 by decide] at hn hm
    obtain ⟨k, a, hs⟩ := snoc_of (l := m.stack) (by omega)
    have hl : m.stack.length = k.length + 1 := by rw [hs]; simp
    have ht : (k ++ [a]).take (k.length + 1) = k ++ [a] := List.take_of_length_le (by simp)
    have e : m.doS C tag ⟨3, n, xx⟩ = .ok ({ m with stack := (k ++ [a]) ++ [a] }, askNone) := by simp [Ms.doS, Ms.reck, Ms.trade, Ms.top, hs, ht]
    rw [e]
    exact do_reck h 3 n xx _ (by decide) fun ro' W h' => reck_3 h' n xx hs (by omega)
  · simp [show effT 4 = 2 by decide, show effL 4 = 2 by decide] at hn hm
    obtain ⟨k, b, a, hs⟩ := snoc2_of (l := m.stack) (by omega)
    have hl : m.stack.length = k.length + 2 := by rw [hs]; simp
    have e : m.doS C tag ⟨4, n, xx⟩ = .ok ({ m with stack := (k ++ [a]) ++ [b] }, askNone) := by simp [Ms.doS, Ms.reck, Ms.trade, Ms.top, hs]
    rw [e]
    exact do_reck h 4 n xx _ (by decide) fun ro' W h' => reck_4 h' n xx hs (by omega)
  · simp [show effT 5 = 0 by decide, show effL 5 = 1 by decide] at hn hm
    have hj := pick_may T.may rfl
    simp only at hj
    obtain ⟨j, rfl⟩ : ∃ j : Nat, n = (j : Int) := ⟨n.toNat, by omega⟩
    have e : m.doS C tag ⟨5, (j : Int), xx⟩ = .ok ({ m with stack := m.stack ++ [m.top j] }, askNone) := by simp [Ms.doS, Ms.reck, Ms.trade]
    rw [e]
    exact do_reck h 5 j xx _ (by decide) fun ro' W h' => reck_5 h' j xx (by omega) (by omega)
  · simp [show effT 6 = 0 by decide, show effL 6 = 1 by decide] at hn hm
    have hj := small_may T.may (.inl rfl)
    simp only at hj
    obtain ⟨j, rfl⟩ : ∃ j : Nat, n = (j : Int) := ⟨n.toNat, by omega⟩
    have e : m.doS C tag ⟨6, (j : Int), xx⟩ = .ok ({ m with stack := m.stack ++ [m.args j] }, askNone) := by simp [Ms.doS, Ms.reck, Ms.trade]
    rw [e]
    exact do_reck h 6 j xx _ (by decide) fun ro' W h' => reck_6 h' j xx (by omega) (by omega)
  · simp [show effT 7 = 0 by decide, show effL 7 = 1 by decide] at hn hm
    have hj := small_may T.may (.inr (.inl rfl))
    simp only at hj
    obtain ⟨j, rfl⟩ : ∃ j : Nat, n = (j : Int) := ⟨n.toNat, by omega⟩
    have e : m.doS C tag ⟨7, (j : Int), xx⟩ = .ok ({ m with stack := m.stack ++ [m.locals j] }, askNone) := by simp [Ms.doS, Ms.reck, Ms.trade]
    rw [e]
    exact do_reck h 7 j xx _ (by decide) fun ro' W h' => reck_7 h' j xx (by omega) (by omega)
  · simp [show effT 8 = 1 by decide, show effL 8 = 0 by decide] at hn hm
    have hj := small_may T.may (.inr (.inr rfl))
    simp only at hj
    obtain ⟨j, rfl⟩ : ∃ j : Nat, n = (j : Int) := ⟨n.toNat, by omega⟩
    obtain ⟨k, a, hs⟩ := snoc_of (l := m.stack) (by omega)
    have hl : m.stack.length = k.length + 1 := by rw [hs]; simp
    have e : m.doS C tag ⟨8, (j : Int), xx⟩ = .ok ({ m with stack := k, locals := fun i => if i = j then a else m.locals i }, askNone) := by simp [Ms.doS, Ms.reck, Ms.trade, Ms.top, hs]
    rw [e]
    exact do_reck h 8 j xx _ (by decide) fun ro' W h' => reck_8 h' j xx (by omega) hs (by omega)
  · simp [show effT 9 = 1 by decide, show effL 9 = 1 by decide] at hn hm
    have hj := one_may T.may rfl
    simp only at hj
    obtain ⟨k, a, hs⟩ := snoc_of (l := m.stack) (by omega)
    have hl : m.stack.length = k.length + 1 := by rw [hs]; simp
    have ha := F.stack a (by rw [hs]; simp)
    have e : m.doS C tag ⟨9, n, xx⟩ = .ok ({ m with stack := k ++ [oneF n (fx a)] }, askNone) := by simp [Ms.doS, Ms.reck, Ms.trade, Ms.top, hs]
    rw [e]
    exact do_reck h 9 n xx _ (by decide) fun ro' W h' => reck_9 h' n xx hj.1 hj.2 ha hs (by omega)
  · simp [show effT 10 = 2 by decide, show effL 10 = 1 by decide] at hn hm
    have hj := two_may T.may rfl
    simp only at hj
    obtain ⟨k, a, b, hs⟩ := snoc2_of (l := m.stack) (by omega)
    have hl : m.stack.length = k.length + 2 := by rw [hs]; simp
    have ha := F.stack a (by rw [hs]; simp)
    have hb := F.stack b (by rw [hs]; simp)
    have e : m.doS C tag ⟨10, n, xx⟩ = .ok ({ m with stack := k ++ [twoF n (fx a) (fx b)] }, askNone) := by simp [Ms.doS, Ms.reck, Ms.trade, Ms.top, hs]
    rw [e]
    exact do_reck h 10 n xx _ (by decide) fun ro' W h' => reck_10 h' n xx hj.1 hj.2 ha hb hs (by omega)
  · have e : m.doS C tag ⟨11, n, xx⟩ = .ok ({ m with place := n }, askNone) := by simp [Ms.doS]
    rw [e]
    exact do_11 h n xx
  · simp [show effT 12 = 1 by decide, show effL 12 = 0 by decide] at hn hm
    obtain ⟨k, a, hs⟩ := snoc_of (l := m.stack) (by omega)
    have hl : m.stack.length = k.length + 1 := by rw [hs]; simp
    have e : m.doS C tag ⟨12, n, xx⟩ = .ok ({ m with stack := k, place := if trueF a = true then n else m.place }, askNone) := by simp [Ms.doS, Ms.trade, Ms.top, hs]
    rw [e]
    exact do_12 h n xx hs (by omega)
  · simp [show effT 13 = 1 by decide, show effL 13 = 0 by decide] at hn hm
    obtain ⟨k, a, hs⟩ := snoc_of (l := m.stack) (by omega)
    have hl : m.stack.length = k.length + 1 := by rw [hs]; simp
    have e : m.doS C tag ⟨13, n, xx⟩ = .ok ({ m with stack := k, place := if trueF a = false then n else m.place }, askNone) := by simp [Ms.doS, Ms.trade, Ms.top, hs]
    rw [e]
    exact do_13 h n xx hs (by omega)
  · have e : m.doS C tag ⟨14, n, xx⟩ = .ok ({ m with calls := m.calls ++ [m.place], place := n }, askNone) := by simp [Ms.doS]
    rw [e]
    exact do_14 h n xx (T.call rfl)
  · rcases List.eq_nil_or_concat m.calls with hk | ⟨k, q, hk⟩
    · have e : m.doS C tag ⟨15, n, xx⟩ = .ok (m.ends 1 0 0) := by simp [Ms.doS, hk]
      rw [e]
      exact do_15_none h n xx hk
    · rw [List.concat_eq_append] at hk
      have e : m.doS C tag ⟨15, n, xx⟩ = .ok ({ m with calls := k, place := q }, askNone) := by simp [Ms.doS, hk]
      rw [e]
      have h16 := T.wf.callsL
      exact do_15_some h n xx hk (by rw [hk] at h16; simp at h16; omega)
  · simp [show effT 16 = 1 by decide, show effL 16 = 1 by decide] at hn hm
    obtain ⟨k, a, hs⟩ := snoc_of (l := m.stack) (by omega)
    have hl : m.stack.length = k.length + 1 := by rw [hs]; simp
    have e0 : m.doS C tag ⟨16, n, xx⟩ = m.readS C := by simp [Ms.doS]
    rw [e0]
    unfold Ms.readS
    rw [show m.top 0 = a by unfold Ms.top; rw [hs]; simp]
    cases hi : indexF a C.cells with
    | none => exact do_16_err h n xx 50 fun ro' W h' => read_none h' hs (by omega) hi
    | some c =>
      simp only
      cases hw : wrote m.writes c with
      | none =>
        have e : ({ m.trade 1 [] with wait := some c } : Ms) = { m with stack := k, wait := some c } := by simp [Ms.trade, hs]
        simp only
        rw [e]
        exact do_16_ok h n xx _ ⟨1, c, 0, false⟩ fun ro' W h' => read_asks h' hs (by omega) hi hw
      | some y =>
        have e : ({ m.trade 1 [y] with reads := m.reads ++ [(c, y)] } : Ms) = { m with stack := k ++ [y], reads := m.reads ++ [(c, y)] } := by simp [Ms.trade, hs]
        simp only
        rw [e]
        exact do_16_ok h n xx _ ⟨2, c, y, false⟩ fun ro' W h' => read_own h' hs (by omega) hi hw (by omega)
  · simp [show effT 17 = 2 by decide, show effL 17 = 0 by decide] at hn hm
    obtain ⟨k, x, a, hs⟩ := snoc2_of (l := m.stack) (by omega)
    have hl : m.stack.length = k.length + 2 := by rw [hs]; simp
    have e0 : m.doS C tag ⟨17, n, xx⟩ = m.writeS C tag := by simp [Ms.doS]
    rw [e0]
    unfold Ms.writeS
    by_cases ht : tag = 2
    · subst ht
      rw [if_neg (by simp), show m.top 0 = a by unfold Ms.top; rw [hs]; simp, show m.top 1 = x by unfold Ms.top; rw [hs]; simp]
      cases hi : indexF a C.cells with
      | none => exact do_17_err h n xx 50 fun ro' W h' => write_addr (k := k ++ [x]) h' hs (by simp; omega) hi
      | some c =>
        simp only
        have hwl := T.wf.writesL
        cases hw : putS C.writes m.writes c (fx x) with
        | none => exact do_17_err h n xx 70 fun ro' W h' => write_many h' hs (by omega) hi hwl C8 hw
        | some q =>
          obtain ⟨l, f⟩ := q
          have e : ({ m.trade 2 [] with writes := l } : Ms) = { m with stack := k, writes := l } := by simp [Ms.trade, hs]
          simp only
          rw [e]
          exact do_17_ok h n xx _ ⟨3, c, x, f⟩ fun ro' W h' => write_ok h' hs (by omega) hi hwl C8 hw
    · rw [if_pos ht]
      exact do_17_err h n xx 81 fun ro' W h' => write_tag h' ht
  · simp [show effT 18 = 1 by decide, show effL 18 = 0 by decide] at hn hm
    obtain ⟨k, a, hs⟩ := snoc_of (l := m.stack) (by omega)
    have hl : m.stack.length = k.length + 1 := by rw [hs]; simp
    have e : m.doS C tag ⟨18, n, xx⟩ = .ok ({ m with stack := k, out := m.out ++ [a] }, askNone) := by simp [Ms.doS, Ms.reck, Ms.trade, Ms.top, hs]
    rw [e]
    exact do_reck h 18 n xx _ (by decide) fun ro' W h' => reck_18 h' n xx hs (by omega) (by omega)
  · have e : m.doS C tag ⟨19, n, xx⟩ = .ok (m.ends 2 n 0) := by simp [Ms.doS]
    rw [e]
    exact do_19 h n xx
  · have e : m.doS C tag ⟨20, n, xx⟩ = .ok (m.ends 1 0 0) := by simp [Ms.doS]
    rw [e]
    exact do_20 h n xx
end Go.Proofs.YtphaeodcomgffaaGreat
set_option linter.unusedVariables false
set_option linter.unusedSimpArgs false
namespace Go.Proofs.YtphaeodcomgffaaGreat
open Go.RowKit

/-- machine.Step. -/
theorem mstep_walk {ro : Nat → Nat} {r : Nat} {w : World} {M C tag code m p} (h : MIs ro r w M C tag code m p) (hC : C.ok) (W : Wf C code m) (F : Fit code m) (hl : m.bad = false → code.length ≤ 1024) :
    Calls Tryz.prog 95 #[ptr M] w (StepP ro r w M C tag code (m.step C tag code)) := by
  have hu1 := W.used1
  have hu0 := W.used0
  have hC6 := hC.2.2.2.2.2.1
  unfold Ms.step
  cases hw : m.wait with
  | some c => exact step_wait h hw
  | none =>
    simp only
    by_cases hh : m.how = 0
    · rw [if_neg (by simpa using hh)]
      cases hb : m.bad
      · simp only [Bool.false_eq_true, if_false]
        by_cases hu : m.used = C.fuel
        · rw [if_pos hu]; exact step_fuel h hw hh hb hu
        · rw [if_neg hu]
          by_cases hp : m.place = code.length
          · rw [if_pos hp]; exact step_end h hw hh hb hu hp
          · rw [if_neg hp]
            have p0 := W.place0
            have p1 := W.place1
            obtain ⟨j, hj⟩ : ∃ j : Nat, m.place = j := ⟨m.place.toNat, by omega⟩
            have hjl : j < code.length := by omega
            have hx : code[m.place.toNat]? = some code[j] := by rw [hj]; simp [List.getElem?_eq_getElem hjl]
            have hx' : code[j]? = some code[j] := List.getElem?_eq_getElem hjl
            rw [hx]
            simp only
            have hmay := W.good hb code[j] (List.getElem_mem hjl)
            have hlc := hl hb
            have RW : ∀ b, m.begin.room code[j] = b → ∀ ro' W' p', MIs ro' r W' M C tag code m.begin p' → Calls Tryz.prog 130 #[ptr M, .agg #[.int .i64 code[j].op, .int .i64 code[j].n, .float .f64 code[j].x]] W' fun e w' => e = RdyE b ∧ Mv ro' [] W' ro' w' := fun b hb' ro' W' p' h' => by
              have := ready_walk h' code[j] (pick_may hmay) W.stack W.callsL
              rwa [hb'] at this
            cases hr : m.begin.room code[j]
            · simp only [Bool.false_eq_true, if_false]
              exact step_noroom h hw hh hb hu j hj code[j] hx' (by omega) hu0 (by omega) (RW false hr)
            · simp only [if_true]
              have T := begin_took W hw hb hu hp hx hr
              have F' : Fit code m.begin := ⟨F.stack⟩
              cases hd : m.begin.doS C tag code[j] with
              | error er =>
                refine step_err h hw hh hb hu j hj code[j] hx' (by omega) hu0 (by omega) (RW true hr) er fun ro' W' p' h' => ?_
                have := do_walk h' hC T F'
                rwa [hd] at this
              | ok q =>
                obtain ⟨m', a⟩ := q
                refine step_ok h hw hh hb hu j hj code[j] hx' (by omega) hu0 (by omega) (RW true hr) m' a fun ro' W' p' h' => ?_
                have := do_walk h' hC T F'
                rwa [hd] at this
      · simp only [if_true]; exact step_bad h hw hh hb
    · rw [if_pos (by simpa using hh)]; exact step_over h hw hh
end Go.Proofs.YtphaeodcomgffaaGreat
