/- SlotsRound returns true for every integer and every uint16, and leaves its arguments as they were. No conditions. -/
import Derived.Test.YtobnoefhfidpmaaRows
import Derived.Test.YtobnoefhfidpmaaTab
import Derived.WalkKit
import Derived.ProofKit
import Derived.OpenShut
namespace Go.Proofs.Ytobnoefhfidpmaa.slotsRound
open Go.ChangeShapes Go.WideShapes Go.ChangeAt Go.RowKit
set_option linter.unusedVariables false      -- a walk need not use every 'w<i>' (that an integer argument fits its kind)

theorem own : ownKnob Try.prog.godebug = none := by kernel_rfl

/-! ### STEP 1: THE WALK: the Go text returns true. 'Grown w w'': the world has at most new blocks (Derived/RowKit3.lean). Part the cases AHEAD of 'go_enter' where a test parts the walk; take each callee by a contract of your own. -/
theorem new_off (n : Int) (w : World) (h : ¬ (1 ≤ n ∧ n ≤ 16)) :
    Calls Try.prog 11 #[.int .i64 n] w fun e w' => e = .returned (.tuple #[.pointer none, .int .i64 1]) ∧ w = w' := new_no n w h

set_option maxHeartbeats 800000 in
theorem walk_off (a0 : Int) (a1 : Int) (hn : ¬ (1 ≤ a0 ∧ a0 ≤ 16)) (w : World) :
    Calls Try.prog 4 #[.int .i64 a0, .int .u16 a1] w fun e w' => e = .returned (.bool true) ∧ Grown w w' := by
  have HN := Lib.hid hn
  clear hn
  rcases (show a0 < 1 ∨ (1 ≤ a0 ∧ 16 < a0) from by have := HN.out; omega) with h1 | ⟨h1, h2⟩
  all_goals
    go_enter Try.func4, Try.ntmps4
    go_wp2_with fail
    refine (awake_any _).mono ?_
    rintro e w1 ⟨rfl, g1⟩
    go_wp2_with fail
    refine (new_off _ _ HN.out).mono ?_
    rintro e w' ⟨rfl, rfl⟩
    go_wp2_with fail
    go_ret
    exact ⟨rfl, g1⟩

theorem grown_trans {a b c : World} (h : Grown a b) (k : Grown b c) : Grown a c :=
  ⟨World.keptBut_trans h.1 (World.keptBut_mono (fun _ x => x) k.1), fun x => (k.2.1 x).trans (h.2.1 x), Nat.le_trans h.2.2 k.2.2⟩

set_option maxRecDepth 100000 in
set_option maxHeartbeats 1600000 in
theorem walk_on (n : Nat) (a1 : Int) (h1 : 1 ≤ n) (h2 : n ≤ 16) (b0 : 0 ≤ a1) (b1 : a1 ≤ 65535) (w : World) :
    Calls Try.prog 4 #[.int .i64 n, .int .u16 a1] w fun e w' => e = .returned (.bool true) ∧ Grown w w' := by
  have z1 : (1 : Int) ≤ n := by omega
  have z2 : (n : Int) ≤ 16 := by omega
  go_enter Try.func4, Try.ntmps4
  go_wp2_with fail
  refine (awake_any _).mono ?_
  rintro e w1 ⟨rfl, g1⟩
  go_wp2_with fail
  refine (new_inv _ _ z1 z2).mono ?_
  rintro e w2 ⟨rfl, k2, g2, s2⟩
  go_wp2_with fail
  have k3 : Clock (w2.alloc (.cells #[.int .i64 0, .int .i64 0, .int .i64 0, .int .i64 0, .int .i64 0, .int .i64 0, .int .i64 0, .int .i64 0, .int .i64 0, .int .i64 0, .int .i64 0, .int .i64 0, .int .i64 0, .int .i64 0, .int .i64 0, .int .i64 0] 35)) w1.heap.size n (0 : Nat) :=
    (heap_alloc_old w2 _ (Clock.lt k2)).trans k2
  have t3 : Tab (w2.alloc (.cells #[.int .i64 0, .int .i64 0, .int .i64 0, .int .i64 0, .int .i64 0, .int .i64 0, .int .i64 0, .int .i64 0, .int .i64 0, .int .i64 0, .int .i64 0, .int .i64 0, .int .i64 0, .int .i64 0, .int .i64 0, .int .i64 0] 35)) w2.heap.size (fun _ => 0) := heap_alloc_new w2 _
  have g3 := (grown_trans g1 g2).alloc #[.int .i64 0, .int .i64 0, .int .i64 0, .int .i64 0, .int .i64 0, .int .i64 0, .int .i64 0, .int .i64 0, .int .i64 0, .int .i64 0, .int .i64 0, .int .i64 0, .int .i64 0, .int .i64 0, .int .i64 0, .int .i64 0] 35
  have hB : w.heap.size ≤ w1.heap.size := g1.2.2
  have hT : w1.heap.size ≠ w2.heap.size := by omega
  have hT2 : w.heap.size ≤ w2.heap.size := by omega
  clear g1 g2 s2 k2
  generalize w1.heap.size = B at *
  generalize w2.heap.size = T at *
  have c0 := fun j (hj : j < n) => (cnt_zero hj).symm
  go_loopw [8] (fun i wr => ∃ k : Nat, (k : Int) ≤ a1 % 500 ∧ i = .int .i64 k ∧ ∃ f : Nat → Nat, Clock wr B n k ∧ Tab wr T f ∧ (∀ j, j < n → f j = cnt k n j) ∧ Grown w wr) (fun i _ => (a1 % 500 - intOf i).toNat)
  case atStart => exact ⟨0, by omega, rfl, fun _ => 0, k3, t3, c0, g3⟩
  case round =>
    obtain ⟨k, hk, rfl, f, kr, tr, hf, gr⟩ := hrel
    clear k3 t3 c0 g3
    by_cases hlt : (k : Int) < a1 % 500
    · obtain ⟨q, hq⟩ : ∃ q, k % n = q := ⟨_, rfl⟩
      have hqn : q < n := by rw [← hq]; exact Nat.mod_lt _ (by omega)
      have hfq : f q ≤ 600 := by
        rw [hf q hqn]
        exact Nat.le_trans (Nat.div_le_self _ _) (by omega)
      have hnext : ∀ j, j < n → bump f q j = cnt (k + 1) n j := by
        intro j hj
        rw [cnt_succ h1 h2 hj, hq]
        unfold bump
        rw [hf j hj, hf q hqn]
        by_cases e : j = q
        · rw [if_pos e, if_pos e, e]
        · rw [if_neg e, if_neg e]
      have HN := Lib.hid hnext
      have HF := Lib.hid hf
      clear hnext hf
      have hq0 : (0 : Int) ≤ q := by omega
      have hqi : (q : Int) < n := by omega
      have hq16 : (q : Int) < 16 := by omega
      have hfi : (f q : Int) ≤ 600 := by omega
      have hfi0 : (0 : Int) ≤ f q := by omega
      have cof := fun w => of_nat k n q w h1 h2 (by omega) hq
      have cst := fun w => step_nat B k n q w h1 h2 (by omega) hq
      clear hq
      go_wp2_with fail
      refine (now_inv B n k _ kr).mono ?_
      rintro e w' ⟨rfl, rfl⟩
      go_wp2_with fail
      refine (cof _).mono ?_
      rintro e w' ⟨rfl, rfl⟩
      go_wp2_with fail
      refine (cst _ kr).mono ?_
      rintro e w5 ⟨rfl, k5, o5⟩
      have t5 := tr.other o5 (Ne.symm hT)
      have g5 := o5.2.2 w hB gr
      clear kr tr gr o5 cof cst
      have c5 := t5.cell (j := q) (by omega)
      have f5 := t5.free (j := q)
      go_wp2_with fail
      have k6 := k5.setOther (c := T) (q := q) (v := .int .i64 ((f q : Int) + 1)) hT
      have t6 := t5.set (q := q)
      have g6 := g5.setCell (a := ⟨T, q, none⟩) hT2 (.int .i64 ((f q : Int) + 1))
      clear c5 f5 k5 t5 g5 hfi hfi0 hfq
      obtain ⟨h, hh⟩ : ∃ h, h = bump f q := ⟨_, rfl⟩
      rw [← hh] at t6
      have HH := Lib.hid hh
      clear hh
      go_loopw [12] (fun j wr => ∃ m : Nat, m ≤ n ∧ j = .int .i64 m ∧ Clock wr B n (k + 1 : Nat) ∧ Tab wr T h ∧ Grown w wr) (fun j _ => (n - intOf j).toNat)
      case atStart => exact ⟨0, by omega, rfl, k6, t6, g6⟩
      case round =>
        clear k6 t6 g6
        obtain ⟨m, hm, rfl, kr, tr, gr⟩ := hrel
        rename_i wq _
        by_cases hlm : (m : Int) < n
        · obtain ⟨v, hv⟩ : ∃ v, cnt (k + 1) n m = v := ⟨_, rfl⟩
          have hc := tr.cell (j := m) (by omega)
          rw [show h m = v from by rw [HH.out, HN.out m (by omega), hv]] at hc
          have near := cnt_near (t := k) h1 h2 (show m < n by omega)
          rw [hv] at near
          have ct := fun w hk => turns_nat B (k + 1) n m v w h1 h2 (by omega) (by omega) hv hk
          clear hv
          have hm0 : (0 : Int) ≤ m := by omega
          have hm16 : (m : Int) < 16 := by omega
          obtain ⟨g, hg⟩ : ∃ g, k / n = g := ⟨_, rfl⟩
          rw [hg] at near
          have e1 : (k : Int).tdiv n = g := by rw [Int.tdiv_eq_ediv_of_nonneg (by omega), ← Int.natCast_ediv, hg]
          have hgk : g ≤ k := by rw [← hg]; exact Nat.div_le_self _ _
          have e2 : IntKind.i64.wrap (g : Int) = g := IntWalk.i64_in _ (by omega)
          clear hg
          have hz : ¬ (n : Int) = 0 := by omega
          rcases near with near | near
          · subst near
            go_wp2_with fail
            go_quiet ((go_at_call 14; refine Calls.quiet_of (ct _ ?_); exact kr.drewN _))
            go_wp2_with fail
            go_roundw
            case rel => exact ⟨m + 1, by omega, by go_num, kr.drewN _, tr.drewN _, grown_drewN gr _⟩
            case measure => simp [intOf]; omega
          · have e3 : IntKind.i64.wrap ((g : Int) + 1) = v := by rw [near]; exact IntWalk.i64_in _ (by omega)
            have e4 : ((v : Int) != g) = true := by rw [bne_iff_ne]; omega
            clear near
            go_wp2_with fail
            go_quiet ((go_at_call 14; refine Calls.quiet_of (ct _ ?_); exact kr.drewN _))
            go_wp2_with fail
            go_roundw
            case rel => exact ⟨m + 1, by omega, by go_num, kr.drewN _, tr.drewN _, grown_drewN gr _⟩
            case measure => simp [intOf]; omega
        · go_wp2_with fail
          go_roundw
          case rel => exact ⟨k + 1, by omega, by go_num, h, kr, tr, fun j hj => by rw [HH.out]; exact HN.out j hj, gr⟩
          case measure => simp [intOf]; omega
    · have ka := turns_none B k n n _ h1 h2 (by omega) (by omega) kr
      go_wp2_with fail
      refine ka.mono ?_
      rintro e w' ⟨rfl, d, rfl⟩
      have kb := turns_none B k n (-1) _ h1 h2 (by omega) (by omega) (kr.drewN d)
      go_wp2_with fail
      refine kb.mono ?_
      rintro e w' ⟨rfl, d', rfl⟩
      go_wp2_with fail
      go_ret
      exact ⟨rfl, grown_drewN (grown_drewN gr d) d'⟩

theorem walk (a0 : Int) (a1 : Int) (w0 : (Lit.int .i64 a0).wf = true) (w1 : (Lit.int .u16 a1).wf = true) (w : World) :
    Calls Try.prog 4 #[.int .i64 a0, .int .u16 a1] w fun e w' => e = .returned (.bool true) ∧ Grown w w' := by
  have hmin : IntKind.u16.min = 0 := rfl
  have hmax : IntKind.u16.max = 65535 := rfl
  simp only [Lit.wf, Bool.and_eq_true, decide_eq_true_eq, hmin, hmax] at w1
  by_cases hn : 1 ≤ a0 ∧ a0 ≤ 16
  · obtain ⟨n, rfl⟩ := Int.eq_ofNat_of_zero_le (show 0 ≤ a0 by omega)
    exact walk_on n a1 (by omega) (by omega) w1.1 w1.2 w
  · exact walk_off a0 a1 hn w

/-! ### THE ROW's STEP: WRITTEN OUT: LEAVE IT -/
set_option maxRecDepth 100000 in
theorem lifted (os : Os) (started : os.Started) (H : Type) (enc : TypeId × Value → H) :
    ReturnsInHanded {} Try.checked os 4 .any (Rows.slotsRoundSpec.pre6 enc Try.prog Try.f4 Rows.slotsRoundRow.domain false) (Rows.slotsRoundSpec.post enc Try.prog Try.f4 false true false false) := by
  refine returnsInHanded_of_change (C := Try.checked) own started (by kernel_rfl) Try.func4
    (ChangeSpec.witness6 (enc := enc) (C := Try.checked) false ⟨#[], #[.int .i64 0, .int .u16 0], []⟩ 8 (by kernel_rfl) (by kernel_rfl) (by kernel_rfl) (by kernel_rfl)) ?_
  intro W base args ds gs before hval0 hW hcnd _
  have hval : ∀ (j : Nat) t v, Try.f4.params[j]? = some t → args[j]? = some v → Value.okWide Try.prog W .any base t v := hval0
  have hW' := hW
  obtain ⟨p, q, hA0, hV, rfl, hfz, hnd⟩ := hW
  have hA : DataW.TrodAll enc Try.prog W 0 (fun _ => true) true Try.f4.params.toList args.toList ds p := hA0
  rw [Try.params4] at hA hval
  obtain ⟨v0, vs0, d0, ds0, p0, q0, hargs, rfl, rfl, h0, r0⟩ := trodAll_cons hA
  obtain ⟨v1, vs1, d1, ds1, p1, q1, rfl, rfl, rfl, h1, r1⟩ := trodAll_cons r0
  obtain ⟨rfl, rfl, rfl⟩ := trodAll_nil r1
  obtain rfl : args = #[v0, v1] := by cases args; simp_all
  obtain ⟨rfl, rfl⟩ := trodVars_none hV
  obtain ⟨a0, rfl, rfl, rfl, w0⟩ := open_int Try.underlying3 (hval 0 3 v0 rfl rfl) h0
  obtain ⟨a1, rfl, rfl, rfl, w1⟩ := open_int Try.underlying31 (hval 1 31 v1 rfl rfl) h1
  clear hA0 hval0
  simp only [List.append_nil] at hW'
  refine (walk a0 a1 w0 w1 W).mono fun e W' ⟨he, hg⟩ => ?_
  subst he
  exact ⟨_, rfl, post_of_same (pa := []) (pv := []) hW' (fun _ _ _ => (trodAll_cons_mk (shut_bool Try.underlying4 _) trodAll_mk0)) (fun sp _ => (trodAll_cons_mk (shut_int Try.underlying3 w0) (trodAll_cons_mk (shut_int Try.underlying31 w1) trodAll_mk0))) (fun _ _ => rfl) rfl
    (hg.frame _) hg.2.1 (ok_one (by kernel_rfl) rfl (okWide_bool_mk Try.underlying4 _))⟩

theorem over : Rows.slotsRoundRow.holds Try.pinned (OpenSpec.ofChange Rows.slotsRoundSpec) :=
  OpenClaim.holds_of_wide 4 Try.f4 rfl rfl rfl rfl rfl rfl rfl ⟨rfl, rfl, rfl, rfl, rfl⟩ rfl rfl rfl rfl rfl (by kernel_rfl) Try.func4 (by kernel_rfl)
    (of_decide_eq_true (by kernel_rfl)) (by unfold Func.isWrapper; first | (rw [if_pos (by decide +kernel)]; kernel_rfl) | (rw [if_neg (by decide +kernel)]; exact ⟨rfl, rfl⟩))
    (fun os started H enc _ => lifted os started H enc)

/-- ████ THE STATEMENT ████ -/
theorem proved : Rows.SlotsRoundSaid :=
  over
#print axioms proved
end Go.Proofs.Ytobnoefhfidpmaa.slotsRound
