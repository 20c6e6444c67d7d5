/-
  The walk of RetryGrows: it returns true, and makes new blocks alone.
-/
import Derived.Test.YtehekapmbipagaaAwake
namespace Go.Proofs.Ytehekapmbipagaa
open Go.RowKit

/-! ### what Failed answers, in plain words -/
theorem ans_ready {b r d n : Int} (h : readyB b r d n = true) : rightB b r d = true ∧ d ≤ n := by
  unfold readyB at h
  simpa using h

theorem ans_not {b r d n : Int} (h : readyB b r d n = false) : ∃ c : Int, c ≠ 0 ∧ ans b r d n = ⟨0, 0, 0, false, c⟩ := by
  unfold readyB at h
  cases hr : rightB b r d with
  | false => exact ⟨1, by decide, ans_range (.inl hr)⟩
  | true =>
    rw [hr] at h
    have hd : n < d := by simpa using h
    cases hn : timeB n with
    | false => exact ⟨1, by decide, ans_range (.inr hn)⟩
    | true => exact ⟨9, by decide, ans_state hr hn hd⟩

/-- Ready, and Failed answers the zero turn: an error, or over. -/
theorem ans_stop {b r d n : Int} (h : readyB b r d n = true) (hn : ¬ ∃ y z : Int, ans b r d n = ⟨b, y, z, false, 0⟩ ∧ y = r + 1 ∧ n < z ∧ z = n + pw r) :
    (∃ c : Int, c ≠ 0 ∧ ans b r d n = ⟨0, 0, 0, false, c⟩) ∨ ans b r d n = ⟨0, 0, 0, true, 0⟩ := by
  obtain ⟨hr, hd⟩ := ans_ready h
  cases ht : timeB n with
  | false => exact .inl ⟨1, by decide, ans_range (.inr ht)⟩
  | true =>
    by_cases o : r = 4 ∨ 40 < n - b ∨ 1099511627776 < n + pw r
    · exact .inr (ans_over hr ht (by omega) o)
    · have hp := pw_bd r
      exact absurd ⟨r + 1, n + pw r, ans_next hr ht (by omega) o, rfl, by omega, rfl⟩ hn

/-- The next failure, made as soon as may be: over, or twice the wait. -/
theorem ans_twice {b r n : Int} (hr : 0 ≤ r ∧ r ≤ 4) (hb : 0 ≤ b ∧ b ≤ n) (hz : n + pw r ≤ 1099511627776) (o : ¬ (r = 4 ∨ 40 < n - b)) :
    ans b (r + 1) (n + pw r) (n + pw r) = ⟨0, 0, 0, true, 0⟩ ∨ ∃ v : Int, ans b (r + 1) (n + pw r) (n + pw r) = ⟨b, r + 1 + 1, v, false, 0⟩ ∧ v - (n + pw r) = 2 * pw r := by
  have hp := pw_bd r
  have h1 : rightB b (r + 1) (n + pw r) = true := rightB_true.2 (by omega)
  have h2 : timeB (n + pw r) = true := timeB_true.2 (by omega)
  have h3 : pw (r + 1) = 2 * pw r := by
    obtain rfl | rfl | rfl | rfl : r = 0 ∨ r = 1 ∨ r = 2 ∨ r = 3 := by omega
    all_goals decide
  by_cases q : r + 1 = 4 ∨ 40 < n + pw r - b ∨ 1099511627776 < n + pw r + pw (r + 1)
  · exact .inl (ans_over h1 h2 (by omega) q)
  · exact .inr ⟨_, ans_next h1 h2 (by omega) q, by omega⟩

set_option maxHeartbeats 1600000 in
theorem grows_any (b r d n : Int) (w : World) :
    Calls Try.prog 5 #[.agg #[.int .i64 b, .int .i64 r, .int .i64 d], .int .i64 n] w fun e w' => e = .returned (.bool true) ∧ Below w.heap.size w w' := by
  cases hr : readyB b r d n with
  | false =>
    obtain ⟨c, hc, ha⟩ := ans_not hr
    have e0 : (c == 0) = false := beq_eq_false_iff_ne.2 hc
    have e1 : (c != 0) = true := bne_iff_ne.2 hc
    have HA := Lib.hid ha
    have HR := Lib.hid hr
    clear ha hc hr
    go_enter Try.func5, Try.ntmps5
    go_wp2_with fail
    have t1 := Blk.made w b r d 23
    have q1 := Below.more (Below.refl w.heap.size w) (.cells #[.int .i64 b, .int .i64 r, .int .i64 d] 23)
    generalize w.heap.size = A at t1 ⊢
    refine (awake_any _).mono ?_
    rintro e w1 ⟨rfl, b1⟩
    have t2 := t1.later b1
    have q2 := Below.step q1 b1
    have c0 := t2.c0
    have c1 := t2.c1
    have c2 := t2.c2
    clear b1 t1 q1
    go_wp2_with fail
    refine (failed_at b r d n 0 0 0 false c HA.out _).mono ?_
    rintro e w2 ⟨rfl, b2⟩
    have t3 := (t2.later b2).alloc (.cells #[.int .i64 0, .int .i64 0, .int .i64 0] 23)
    have u3 := Blk.made w2 0 0 0 23
    have q3 := Below.more (Below.step q2 b2) (.cells #[.int .i64 0, .int .i64 0, .int .i64 0] 23)
    have d0 := t3.c0
    have d1 := t3.c1
    have d2 := t3.c2
    clear b2 t2 q2 c0 c1 c2
    go_wp2_with fail
    refine (ready_is b r d n false HR.out _).mono ?_
    rintro e w3 ⟨rfl, b3⟩
    have u4 := u3.later b3
    have q4 := Below.step q3 b3
    have c0 := u4.c0
    have c1 := u4.c1
    have c2 := u4.c2
    clear b3 u3 q3 d0 d1 d2 t3
    go_wp2_with fail
    go_ret
    exact ⟨rfl, q4⟩
  | true =>
    obtain ⟨hrt, hdn⟩ := ans_ready hr
    obtain ⟨⟨x, y, z, o, c⟩, hA⟩ : ∃ A, ans b r d n = A := ⟨_, rfl⟩
    have hD : (x = 0 ∧ y = 0 ∧ z = 0 ∧ o = false ∧ c ≠ 0) ∨ (x = 0 ∧ y = 0 ∧ z = 0 ∧ o = true ∧ c = 0) ∨
        (b = x ∧ y = r + 1 ∧ z = n + pw r ∧ o = false ∧ c = 0 ∧ timeB n = true ∧ n + pw r ≤ 1099511627776 ∧ ¬ (r = 4 ∨ 40 < n - b)) := by
      cases ht : timeB n with
      | false =>
        rw [ans_range (.inr ht)] at hA
        injection hA with h1 h2 h3 h4 h5
        exact .inl ⟨h1.symm, h2.symm, h3.symm, h4.symm, by omega⟩
      | true =>
        by_cases q : r = 4 ∨ 40 < n - b ∨ 1099511627776 < n + pw r
        · rw [ans_over hrt ht (by omega) q] at hA
          injection hA with h1 h2 h3 h4 h5
          exact .inr (.inl ⟨h1.symm, h2.symm, h3.symm, h4.symm, h5.symm⟩)
        · rw [ans_next hrt ht (by omega) q] at hA
          injection hA with h1 h2 h3 h4 h5
          exact .inr (.inr ⟨h1, h2.symm, h3.symm, h4.symm, h5.symm, rfl, by omega, by omega⟩)
    have HA := Lib.hid hA
    have HR := Lib.hid hr
    have HD := Lib.hid hD
    have hbd := rightB_true.1 hrt
    have HB := Lib.hid hbd
    clear hA hr hD hrt hbd
    go_enter Try.func5, Try.ntmps5
    go_wp2_with fail
    have t1 := Blk.made w b r d 23
    have q1 := Below.more (Below.refl w.heap.size w) (.cells #[.int .i64 b, .int .i64 r, .int .i64 d] 23)
    generalize w.heap.size = A at t1 ⊢
    refine (awake_any _).mono ?_
    rintro e w1 ⟨rfl, b1⟩
    have t2 := t1.later b1
    have q2 := Below.step q1 b1
    have c0 := t2.c0
    have c1 := t2.c1
    have c2 := t2.c2
    clear b1 t1 q1
    go_wp2_with fail
    refine (failed_at b r d n x y z o c HA.out _).mono ?_
    rintro e w2 ⟨rfl, b2⟩
    have t3 := (t2.later b2).alloc (.cells #[.int .i64 x, .int .i64 y, .int .i64 z] 23)
    have u3 := Blk.made w2 x y z 23
    have q3 := Below.more (Below.step q2 b2) (.cells #[.int .i64 x, .int .i64 y, .int .i64 z] 23)
    have d0 := t3.c0
    have d1 := t3.c1
    have d2 := t3.c2
    clear b2 t2 q2 c0 c1 c2
    go_wp2_with fail
    generalize w2.heap.size = U at u3 ⊢
    refine (ready_is b r d n true HR.out _).mono ?_
    rintro e w3 ⟨rfl, b3⟩
    have t4 := t3.later b3
    have u4 := u3.later b3
    have q4 := Below.step q3 b3
    have c0 := u4.c0
    have c1 := u4.c1
    have c2 := u4.c2
    clear b3 u3 q3 d0 d1 d2 t3
    rcases HD.out with ⟨rfl, rfl, rfl, rfl, hc⟩ | ⟨rfl, rfl, rfl, rfl, rfl⟩ | ⟨rfl, rfl, rfl, rfl, rfl, htn, htop, hno⟩
    · have e0 : (c == 0) = false := beq_eq_false_iff_ne.2 hc
      have e1 : (c != 0) = true := bne_iff_ne.2 hc
      clear hc
      go_wp2_with fail
      go_ret
      exact ⟨rfl, q4⟩
    · go_wp2_with fail
      go_ret
      exact ⟨rfl, q4⟩
    · have hn := timeB_true.1 htn
      have hp := pw_bd r
      have hw := ans_twice (b := b) (r := r) (n := n) (by have := HB.out; omega) (by have := HB.out; omega) htop hno
      obtain ⟨p, hpe⟩ : ∃ p, p = pw r := ⟨_, rfl⟩
      rw [← hpe] at hp hw htop u4 c2 ⊢
      obtain ⟨⟨x2, y2, z2, o2, k2⟩, hA2⟩ : ∃ A, ans b (r + 1) (n + p) (n + p) = A := ⟨_, rfl⟩
      have hD2 : (o2 = true) ∨ (o2 = false ∧ k2 = 0 ∧ z2 = n + p + 2 * p) := by
        rcases hw with hw | ⟨v, hw, hv⟩
        · rw [hw] at hA2
          injection hA2 with h1 h2 h3 h4 h5
          exact .inl h4.symm
        · rw [hw] at hA2
          injection hA2 with h1 h2 h3 h4 h5
          exact .inr ⟨h4.symm, h5.symm, by omega⟩
      have HA2 := Lib.hid hA2
      have HD2 := Lib.hid hD2
      obtain ⟨n0, n1⟩ := hn
      obtain ⟨p0, p1⟩ := hp
      have r0 : 0 ≤ r := by have := HB.out; omega
      have r4 : r ≤ 4 := by have := HB.out; omega
      clear hw hA2 hD2 hpe htn hno
      go_wp2_with fail
      refine (failed_at b (r + 1) (n + p) (n + p) x2 y2 z2 o2 k2 HA2.out _).mono ?_
      rintro e w5 ⟨rfl, b5⟩
      have t6 := (t4.later b5).alloc (.cells #[.int .i64 x2, .int .i64 y2, .int .i64 z2] 23)
      have u6 := (u4.later b5).alloc (.cells #[.int .i64 x2, .int .i64 y2, .int .i64 z2] 23)
      have v6 := Blk.made w5 x2 y2 z2 23
      have q6 := Below.more (Below.step q4 b5) (.cells #[.int .i64 x2, .int .i64 y2, .int .i64 z2] 23)
      clear b5 t4 u4 q4 c0 c1 c2
      have d0 := t6.c0
      have d1 := t6.c1
      have d2 := t6.c2
      have f0 := u6.c0
      have f1 := u6.c1
      have f2 := u6.c2
      have g0 := v6.c0
      have g1 := v6.c1
      have g2 := v6.c2
      rcases HD2.out with rfl | ⟨rfl, rfl, rfl⟩
      · go_wp2_with fail
        go_ret
        exact ⟨rfl, q6⟩
      · go_wp2_with fail
        go_ret
        exact ⟨retb (by rw [beq_iff_eq]; omega), q6⟩
end Go.Proofs.Ytehekapmbipagaa
