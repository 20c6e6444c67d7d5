/- SlotsNext returns true for all three integers, and leaves its arguments as they were. No conditions. -/
import Derived.Test.YtobnoefhfidpmaaRows
import Derived.Test.YtobnoefhfidpmaaAwake
import Derived.WalkKit
import Derived.ProofKit
import Derived.OpenShut
namespace Go.Proofs.Ytobnoefhfidpmaa.slotsNext
open Go.ChangeShapes Go.WideShapes Go.ChangeAt Go.RowKit
set_option linter.unusedVariables false      -- a walk need not use every 'w<i>' (that an integer argument fits its kind)

theorem own : ownKnob Try.prog.godebug = none := by kernel_rfl

/-! ### STEP 1: THE WALK: the Go text returns true. 'Grown w w'': the world has at most new blocks (Derived/RowKit3.lean). Part the cases AHEAD of 'go_enter' where a test parts the walk; take each callee by a contract of your own. -/
theorem of_at (s n : Int) (w : World) (h : good s n) : Calls Try.prog 7 #[.int .i64 s, .int .i64 n] w fun e w' => e = .returned (.tuple #[.int .i64 (s % n), .int .i64 0]) ∧ w = w' := by
  have hc := of_any s n w
  rw [ofV_yes h, ofE_yes h] at hc
  exact hc

theorem next_at (s n p x y : Int) (w : World) (hx : nextV s n p = x) (hy : nextE s n p = y) : Calls Try.prog 9 #[.int .i64 s, .int .i64 n, .int .i64 p] w fun e w' => e = .returned (.tuple #[.int .i64 x, .int .i64 y]) ∧ w = w' := by
  subst hx hy
  exact next_any s n p w

set_option maxHeartbeats 800000 in
theorem walk (a0 : Int) (a1 : Int) (a2 : Int) (w0 : (Lit.int .i64 a0).wf = true) (w1 : (Lit.int .i64 a1).wf = true) (w2 : (Lit.int .i64 a2).wf = true) (w : World) :
    Calls Try.prog 5 #[.int .i64 a0, .int .i64 a1, .int .i64 a2] w fun e w' => e = .returned (.bool true) ∧ Grown w w' := by
  clear w0 w1 w2
  by_cases hg : good a0 a1
  · by_cases hp : 0 ≤ a2 ∧ a2 < a1
    · obtain ⟨p1, p2⟩ := hp
      obtain ⟨b3, b4⟩ := dist_bd (p := a2) hg
      have ht := @dist_tells a0 a1 a2
      obtain ⟨d, hd⟩ : ∃ d, d = dist a0 a1 a2 := ⟨_, rfl⟩
      have hn := fun w => next_at a0 a1 a2 (a0 + d) 0 w ((nextV_yes hg p1 p2).trans (by rw [hd])) (nextE_yes hg p1 p2)
      rw [← hd] at b3 b4
      have ht := fun k => @dist_tells a0 a1 a2 k hg p1 p2
      simp only [← hd] at ht
      have HT := Lib.hid ht
      clear ht hd
      obtain ⟨h1, h2, h3, h4⟩ := hg
      by_cases h5 : a0 ≤ 549755813888
      · go_enter Try.func5, Try.ntmps5
        go_wp2_with fail
        refine (awake_any _).mono ?_
        rintro e w1 ⟨rfl, g1⟩
        go_wp2_with fail
        refine (hn _).mono ?_
        rintro e w' ⟨rfl, rfl⟩
        clear hn
        go_wp2_with fail
        go_loop [9] (fun x => ∃ k : Int, 0 ≤ k ∧ k ≤ d + 1 ∧ x = .int .i64 (a0 + k)) (fun x => (a0 + d + 1 - intOf x).toNat)
        case atStart => exact ⟨0, by omega, by omega, by simp⟩
        case round =>
          obtain ⟨k, hk0, hk, rfl⟩ := hrel
          by_cases hx : k ≤ d
          · have hc := of_at (a0 + k) a1 w1 ⟨h1, h2, by omega, by omega⟩
            have htk := HT.out k hk0 hx
            by_cases hz : k = d
            · have e1 : ((a0 + k) % a1 == a2) = true := beq_iff_eq.2 (htk.2 hz)
              have e2 : (a0 + k == a0 + d) = true := beq_iff_eq.2 (by omega)
              clear hz htk
              go_wp2_with fail
              refine hc.mono ?_
              rintro e w' ⟨rfl, rfl⟩
              clear hc
              go_wp2_with fail
              go_round
              case rel => exact ⟨k + 1, by omega, by omega, by rw [Int.add_assoc]⟩
              case measure => simp [intOf]; omega
            · have e1 : ((a0 + k) % a1 == a2) = false := beq_eq_false_iff_ne.2 fun h => hz (htk.1 h)
              have e2 : (a0 + k == a0 + d) = false := beq_eq_false_iff_ne.2 (by omega)
              clear hz htk
              go_wp2_with fail
              refine hc.mono ?_
              rintro e w' ⟨rfl, rfl⟩
              clear hc
              go_wp2_with fail
              go_round
              case rel => exact ⟨k + 1, by omega, by omega, by rw [Int.add_assoc]⟩
              case measure => simp [intOf]; omega
          · go_wp2_with fail
            go_ret
            exact ⟨rfl, g1⟩
      · go_enter Try.func5, Try.ntmps5
        go_wp2_with fail
        refine (awake_any _).mono ?_
        rintro e w1 ⟨rfl, g1⟩
        go_wp2_with fail
        refine (hn _).mono ?_
        rintro e w' ⟨rfl, rfl⟩
        clear hn
        go_wp2_with fail
        go_ret
        exact ⟨rfl, g1⟩
    · have hn := fun w => next_at a0 a1 a2 0 4 w (nextV_off hp) (nextE_off hg hp)
      clear hp hg
      go_enter Try.func5, Try.ntmps5
      go_wp2_with fail
      refine (awake_any _).mono ?_
      rintro e w1 ⟨rfl, g1⟩
      go_wp2_with fail
      refine (hn _).mono ?_
      rintro e w' ⟨rfl, rfl⟩
      go_wp2_with fail
      go_ret
      exact ⟨rfl, g1⟩
  · have hn := fun w => next_at a0 a1 a2 0 1 w (nextV_no hg) (nextE_no hg)
    clear hg
    go_enter Try.func5, Try.ntmps5
    go_wp2_with fail
    refine (awake_any _).mono ?_
    rintro e w1 ⟨rfl, g1⟩
    go_wp2_with fail
    refine (hn _).mono ?_
    rintro e w' ⟨rfl, rfl⟩
    go_wp2_with fail
    go_ret
    exact ⟨rfl, g1⟩

/-! ### THE ROW's STEP: WRITTEN OUT: LEAVE IT -/
set_option maxRecDepth 100000 in
theorem lifted (os : Os) (started : os.Started) (H : Type) (enc : TypeId × Value → H) :
    ReturnsInHanded {} Try.checked os 5 .any (Rows.slotsNextSpec.pre6 enc Try.prog Try.f5 Rows.slotsNextRow.domain false) (Rows.slotsNextSpec.post enc Try.prog Try.f5 false true false false) := by
  refine returnsInHanded_of_change (C := Try.checked) own started (by kernel_rfl) Try.func5
    (ChangeSpec.witness6 (enc := enc) (C := Try.checked) false ⟨#[], #[.int .i64 0, .int .i64 0, .int .i64 0], []⟩ 8 (by kernel_rfl) (by kernel_rfl) (by kernel_rfl) (by kernel_rfl)) ?_
  intro W base args ds gs before hval0 hW hcnd _
  have hval : ∀ (j : Nat) t v, Try.f5.params[j]? = some t → args[j]? = some v → Value.okWide Try.prog W .any base t v := hval0
  have hW' := hW
  obtain ⟨p, q, hA0, hV, rfl, hfz, hnd⟩ := hW
  have hA : DataW.TrodAll enc Try.prog W 0 (fun _ => true) true Try.f5.params.toList args.toList ds p := hA0
  rw [Try.params5] at hA hval
  obtain ⟨v0, vs0, d0, ds0, p0, q0, hargs, rfl, rfl, h0, r0⟩ := trodAll_cons hA
  obtain ⟨v1, vs1, d1, ds1, p1, q1, rfl, rfl, rfl, h1, r1⟩ := trodAll_cons r0
  obtain ⟨v2, vs2, d2, ds2, p2, q2, rfl, rfl, rfl, h2, r2⟩ := trodAll_cons r1
  obtain ⟨rfl, rfl, rfl⟩ := trodAll_nil r2
  obtain rfl : args = #[v0, v1, v2] := by cases args; simp_all
  obtain ⟨rfl, rfl⟩ := trodVars_none hV
  obtain ⟨a0, rfl, rfl, rfl, w0⟩ := open_int Try.underlying3 (hval 0 3 v0 rfl rfl) h0
  obtain ⟨a1, rfl, rfl, rfl, w1⟩ := open_int Try.underlying3 (hval 1 3 v1 rfl rfl) h1
  obtain ⟨a2, rfl, rfl, rfl, w2⟩ := open_int Try.underlying3 (hval 2 3 v2 rfl rfl) h2
  clear hA0 hval0
  simp only [List.append_nil] at hW'
  refine (walk a0 a1 a2 w0 w1 w2 W).mono fun e W' ⟨he, hg⟩ => ?_
  subst he
  exact ⟨_, rfl, post_of_same (pa := []) (pv := []) hW' (fun _ _ _ => (trodAll_cons_mk (shut_bool Try.underlying4 _) trodAll_mk0)) (fun sp _ => (trodAll_cons_mk (shut_int Try.underlying3 w0) (trodAll_cons_mk (shut_int Try.underlying3 w1) (trodAll_cons_mk (shut_int Try.underlying3 w2) trodAll_mk0)))) (fun _ _ => rfl) rfl
    (hg.frame _) hg.2.1 (ok_one (by kernel_rfl) rfl (okWide_bool_mk Try.underlying4 _))⟩

theorem over : Rows.slotsNextRow.holds Try.pinned (OpenSpec.ofChange Rows.slotsNextSpec) :=
  OpenClaim.holds_of_wide 5 Try.f5 rfl rfl rfl rfl rfl rfl rfl ⟨rfl, rfl, rfl, rfl, rfl⟩ rfl rfl rfl rfl rfl (by kernel_rfl) Try.func5 (by kernel_rfl)
    (of_decide_eq_true (by kernel_rfl)) (by unfold Func.isWrapper; first | (rw [if_pos (by decide +kernel)]; kernel_rfl) | (rw [if_neg (by decide +kernel)]; exact ⟨rfl, rfl⟩))
    (fun os started H enc _ => lifted os started H enc)

/-- ████ THE STATEMENT ████ -/
theorem proved : Rows.SlotsNextSaid :=
  over
#print axioms proved
end Go.Proofs.Ytobnoefhfidpmaa.slotsNext
