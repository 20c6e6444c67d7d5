/-
  The walk of retry.Failed: it returns 'ans', by cases, and makes new blocks alone.
-/
import Derived.Test.YtehekapmbipagaaAns
namespace Go.Proofs.Ytehekapmbipagaa
open Go.RowKit

set_option maxHeartbeats 1600000 in
theorem failed_range (b r d n : Int) (w : World) (h : rightB b r d = false) :
    Calls Try.prog 8 #[.agg #[.int .i64 b, .int .i64 r, .int .i64 d], .int .i64 n] w fun e w' => e = .returned (ansV ⟨0, 0, 0, false, 1⟩) ∧ Below w.heap.size w w' := by
  have HB := Lib.hid (((Below.refl w.heap.size w).alloc (Nat.le_refl _) (.cells #[.int .i64 b, .int .i64 r, .int .i64 d] 23)).alloc (by simp) (.cells #[.int .i64 0, .int .i64 0, .int .i64 0] 23))
  have H1 := Lib.hid h
  clear h
  go_enter Try.func8, Try.ntmps8
  go_wp2_with fail
  refine (right_is b r d false H1.out _).mono ?_
  rintro e w1 ⟨rfl, b1⟩
  obtain ⟨hc, hf⟩ := bcell b1
  have hz : w.heap.size + 1 < w1.heap.size := by have := b1.size; simp at this; omega
  go_wp2_with fail
  refine bodyPost_ret (v := ansV ⟨0, 0, 0, false, 1⟩) (by simp [results, Try.results8, go_sem, ansV, hc]) rfl ⟨rfl, ?_⟩
  have hb := HB.out.trans (b1.mono (by simp; omega))
  repeat (first | exact hb | refine Below.setCell ?_ (by simp) _)

set_option maxHeartbeats 1600000 in
theorem failed_time (b r d n : Int) (w : World) (h : rightB b r d = true) (k : timeB n = false) :
    Calls Try.prog 8 #[.agg #[.int .i64 b, .int .i64 r, .int .i64 d], .int .i64 n] w fun e w' => e = .returned (ansV ⟨0, 0, 0, false, 1⟩) ∧ Below w.heap.size w w' := by
  have HB := Lib.hid (((Below.refl w.heap.size w).alloc (Nat.le_refl _) (.cells #[.int .i64 b, .int .i64 r, .int .i64 d] 23)).alloc (by simp) (.cells #[.int .i64 0, .int .i64 0, .int .i64 0] 23))
  have H1 := Lib.hid h
  have H2 := Lib.hid k
  clear h k
  go_enter Try.func8, Try.ntmps8
  go_wp2_with fail
  refine (right_is b r d true H1.out _).mono ?_
  rintro e w1 ⟨rfl, b1⟩
  obtain ⟨hc, hf⟩ := bcell b1
  have hz : w.heap.size + 1 < w1.heap.size := by have := b1.size; simp at this; omega
  go_wp2_with fail
  refine (time_is n false H2.out _).mono ?_
  rintro e w' ⟨rfl, rfl⟩
  go_wp2_with fail
  refine bodyPost_ret (v := ansV ⟨0, 0, 0, false, 1⟩) (by simp [results, Try.results8, go_sem, ansV, hc]) rfl ⟨rfl, ?_⟩
  have hb := HB.out.trans (b1.mono (by simp; omega))
  repeat (first | exact hb | refine Below.setCell ?_ (by simp) _)

set_option maxHeartbeats 1600000 in
theorem failed_state (b r d n : Int) (w : World) (h : rightB b r d = true) (k : timeB n = true) (g : n < d) :
    Calls Try.prog 8 #[.agg #[.int .i64 b, .int .i64 r, .int .i64 d], .int .i64 n] w fun e w' => e = .returned (ansV ⟨0, 0, 0, false, 9⟩) ∧ Below w.heap.size w w' := by
  have HB := Lib.hid (((Below.refl w.heap.size w).alloc (Nat.le_refl _) (.cells #[.int .i64 b, .int .i64 r, .int .i64 d] 23)).alloc (by simp) (.cells #[.int .i64 0, .int .i64 0, .int .i64 0] 23))
  have H1 := Lib.hid h
  have H2 := Lib.hid k
  have H3 := Lib.hid (show readyB b r d n = false by simp [readyB]; omega)
  clear h k
  go_enter Try.func8, Try.ntmps8
  go_wp2_with fail
  refine (right_is b r d true H1.out _).mono ?_
  rintro e w1 ⟨rfl, b1⟩
  obtain ⟨hc, hf⟩ := bcell b1
  have hz : w.heap.size + 1 < w1.heap.size := by have := b1.size; simp at this; omega
  go_wp2_with fail
  refine (time_is n true H2.out _).mono ?_
  rintro e w' ⟨rfl, rfl⟩
  go_wp2_with fail
  refine (ready_is b r d n false H3.out _).mono ?_
  rintro e w2 ⟨rfl, b2⟩
  obtain ⟨hc2, hf2⟩ := bcell b2
  have hz2 := b2.size
  go_wp2_with fail
  refine bodyPost_ret (v := ansV ⟨0, 0, 0, false, 9⟩) (by simp [results, Try.results8, go_sem, ansV, hc, hz, hc2]) rfl ⟨rfl, ?_⟩
  have hb := HB.out.trans ((b1.mono (by simp; omega)).trans (b2.mono (by omega)))
  repeat (first | exact hb | refine Below.setCell ?_ (by simp) _)

set_option maxHeartbeats 1600000 in
theorem failed_over4 (b d n : Int) (w : World) (h : rightB b 4 d = true) (k : timeB n = true) (g : d ≤ n) (bb : 0 ≤ b ∧ b ≤ 1099511627776) (bn : 0 ≤ n ∧ n ≤ 1099511627776) :
    Calls Try.prog 8 #[.agg #[.int .i64 b, .int .i64 4, .int .i64 d], .int .i64 n] w fun e w' => e = .returned (ansV ⟨0, 0, 0, true, 0⟩) ∧ Below w.heap.size w w' := by
  have H3 := Lib.hid (show readyB b 4 d n = true by simp [readyB, h]; omega)
  have H1 := Lib.hid h
  have H2 := Lib.hid k
  obtain ⟨n0, n1⟩ := bn
  obtain ⟨b0, b1'⟩ := bb
  clear h k
  go_enter Try.func8, Try.ntmps8
  go_wp2_with fail
  refine (right_is b 4 d true H1.out _).mono ?_
  rintro e w1 ⟨rfl, b1⟩
  have h1 := held (b1.mono (by simp))
  obtain ⟨c0, c1, c2, -, -, -, -, -, -, -, -, bl⟩ := h1
  go_wp2_with fail
  refine (time_is n true H2.out _).mono ?_
  rintro e w' ⟨rfl, rfl⟩
  go_wp2_with fail
  refine (ready_is b 4 d n true H3.out _).mono ?_
  rintro e w2 ⟨rfl, b2⟩
  have h2 := held ((b1.mono (by simp)).trans (b2.mono (by have := b1.size; simp at this; omega)))
  clear c0 c1 c2 bl b1 b2
  obtain ⟨c0, c1, c2, z0, z1, z2, f1, f2, g0, g1, g2, bl⟩ := h2
  go_wp2_with fail
  refine bodyPost_ret (v := ansV ⟨0, 0, 0, true, 0⟩) (by simp [results, Try.results8, go_sem, ansV, z0, z1, z2]) rfl ⟨rfl, ?_⟩
  repeat (first | exact bl | refine Below.setCell ?_ (by simp) _)

set_option maxHeartbeats 4000000 in
theorem failed_life (b r d n : Int) (w : World) (h : rightB b r d = true) (k : timeB n = true) (g : d ≤ n) (bb : 0 ≤ b ∧ b ≤ 1099511627776) (bn : 0 ≤ n ∧ n ≤ 1099511627776)
    (br : 0 ≤ r ∧ r ≤ 3) (o : 40 < n - b) :
    Calls Try.prog 8 #[.agg #[.int .i64 b, .int .i64 r, .int .i64 d], .int .i64 n] w fun e w' => e = .returned (ansV ⟨0, 0, 0, true, 0⟩) ∧ Below w.heap.size w w' := by
  have H3 := Lib.hid (show readyB b r d n = true by simp [readyB, h]; omega)
  have H1 := Lib.hid h
  have H2 := Lib.hid k
  obtain ⟨n0, n1⟩ := bn
  obtain ⟨b0, b1'⟩ := bb
  clear h k
  obtain rfl | rfl | rfl | rfl : r = 0 ∨ r = 1 ∨ r = 2 ∨ r = 3 := by omega
  all_goals
    clear br
    go_enter Try.func8, Try.ntmps8
    go_wp2_with fail
    refine (right_is b _ d true H1.out _).mono ?_
    rintro e w1 ⟨rfl, b1⟩
    have h1 := held (b1.mono (by simp))
    obtain ⟨c0, c1, c2, -, -, -, -, -, -, -, -, bl⟩ := h1
    go_wp2_with fail
    refine (time_is n true H2.out _).mono ?_
    rintro e w' ⟨rfl, rfl⟩
    go_wp2_with fail
    refine (ready_is b _ d n true H3.out _).mono ?_
    rintro e w2 ⟨rfl, b2⟩
    have h2 := held ((b1.mono (by simp)).trans (b2.mono (by have := b1.size; simp at this; omega)))
    clear c0 c1 c2 bl b1 b2
    obtain ⟨c0, c1, c2, z0, z1, z2, f1, f2, g0, g1, g2, bl⟩ := h2
    go_wp2_with fail
    refine bodyPost_ret (v := ansV ⟨0, 0, 0, true, 0⟩) (by simp [results, Try.results8, go_sem, ansV, z0, z1, z2]) rfl ⟨rfl, ?_⟩
    repeat (first | exact bl | refine Below.setCell ?_ (by simp) _)

set_option maxHeartbeats 4000000 in
theorem failed_late (b r d n : Int) (w : World) (h : rightB b r d = true) (k : timeB n = true) (g : d ≤ n) (bb : 0 ≤ b ∧ b ≤ 1099511627776) (bn : 0 ≤ n ∧ n ≤ 1099511627776)
    (br : 0 ≤ r ∧ r ≤ 3) (o : n - b ≤ 40) (l : timeB (n + pw r) = false) :
    Calls Try.prog 8 #[.agg #[.int .i64 b, .int .i64 r, .int .i64 d], .int .i64 n] w fun e w' => e = .returned (ansV ⟨0, 0, 0, true, 0⟩) ∧ Below w.heap.size w w' := by
  have H3 := Lib.hid (show readyB b r d n = true by simp [readyB, h]; omega)
  have H1 := Lib.hid h
  have H2 := Lib.hid k
  have H4 := Lib.hid l
  obtain ⟨n0, n1⟩ := bn
  obtain ⟨b0, b1'⟩ := bb
  clear h k l
  obtain rfl | rfl | rfl | rfl : r = 0 ∨ r = 1 ∨ r = 2 ∨ r = 3 := by omega
  all_goals
    clear br
    go_enter Try.func8, Try.ntmps8
    go_wp2_with fail
    refine (right_is b _ d true H1.out _).mono ?_
    rintro e w1 ⟨rfl, b1⟩
    have h1 := held (b1.mono (by simp))
    obtain ⟨c0, c1, c2, -, -, -, -, -, -, -, -, bl⟩ := h1
    go_wp2_with fail
    refine (time_is n true H2.out _).mono ?_
    rintro e w' ⟨rfl, rfl⟩
    go_wp2_with fail
    refine (ready_is b _ d n true H3.out _).mono ?_
    rintro e w2 ⟨rfl, b2⟩
    have h2 := held ((b1.mono (by simp)).trans (b2.mono (by have := b1.size; simp at this; omega)))
    clear c0 c1 c2 bl b1 b2
    obtain ⟨c0, c1, c2, z0, z1, z2, f1, f2, g0, g1, g2, bl⟩ := h2
    go_wp2_with fail
    refine (time_is _ false (by exact H4.out) _).mono ?_
    rintro e w' ⟨rfl, rfl⟩
    go_wp2_with fail
    refine bodyPost_ret (v := ansV ⟨0, 0, 0, true, 0⟩) (by simp [results, Try.results8, go_sem, ansV, z0, z1, z2]) rfl ⟨rfl, ?_⟩
    repeat (first | exact bl | refine Below.setCell ?_ (by simp) _)

set_option maxHeartbeats 4000000 in
theorem failed_next (b r d n : Int) (w : World) (h : rightB b r d = true) (k : timeB n = true) (g : d ≤ n) (bb : 0 ≤ b ∧ b ≤ 1099511627776) (bn : 0 ≤ n ∧ n ≤ 1099511627776)
    (br : 0 ≤ r ∧ r ≤ 3) (o : n - b ≤ 40) (l : timeB (n + pw r) = true) :
    Calls Try.prog 8 #[.agg #[.int .i64 b, .int .i64 r, .int .i64 d], .int .i64 n] w fun e w' => e = .returned (ansV ⟨b, r + 1, n + pw r, false, 0⟩) ∧ Below w.heap.size w w' := by
  have H3 := Lib.hid (show readyB b r d n = true by simp [readyB, h]; omega)
  have H1 := Lib.hid h
  have H2 := Lib.hid k
  have H4 := Lib.hid l
  obtain ⟨n0, n1⟩ := bn
  obtain ⟨b0, b1'⟩ := bb
  clear h k l
  obtain rfl | rfl | rfl | rfl : r = 0 ∨ r = 1 ∨ r = 2 ∨ r = 3 := by omega
  all_goals
    clear br
    go_enter Try.func8, Try.ntmps8
    go_wp2_with fail
    refine (right_is b _ d true H1.out _).mono ?_
    rintro e w1 ⟨rfl, b1⟩
    have h1 := held (b1.mono (by simp))
    obtain ⟨c0, c1, c2, -, -, -, -, -, -, -, -, bl⟩ := h1
    go_wp2_with fail
    refine (time_is n true H2.out _).mono ?_
    rintro e w' ⟨rfl, rfl⟩
    go_wp2_with fail
    refine (ready_is b _ d n true H3.out _).mono ?_
    rintro e w2 ⟨rfl, b2⟩
    have h2 := held ((b1.mono (by simp)).trans (b2.mono (by have := b1.size; simp at this; omega)))
    clear c0 c1 c2 bl b1 b2
    obtain ⟨c0, c1, c2, z0, z1, z2, f1, f2, g0, g1, g2, bl⟩ := h2
    go_wp2_with fail
    refine (time_is _ true (by exact H4.out) _).mono ?_
    rintro e w' ⟨rfl, rfl⟩
    go_wp2_with fail
    refine bodyPost_ret (v := ansV ⟨b, _ + 1, n + pw _, false, 0⟩) (by simp [results, Try.results8, go_sem, ansV, pw, z0, z1, z2]) rfl ⟨rfl, ?_⟩
    repeat (first | exact bl | refine Below.setCell ?_ (by simp) _)

theorem failed_is (b r d n : Int) (a : Ans) (h : ans b r d n = a) (w : World) :
    Calls Try.prog 8 #[.agg #[.int .i64 b, .int .i64 r, .int .i64 d], .int .i64 n] w fun e w' => e = .returned (ansV a) ∧ Below w.heap.size w w' := by
  subst h
  cases h1 : rightB b r d with
  | false => rw [ans_range (.inl h1)]; exact failed_range b r d n w h1
  | true =>
    cases h2 : timeB n with
    | false => rw [ans_range (.inr h2)]; exact failed_time b r d n w h1 h2
    | true =>
      have hr := rightB_true.1 h1
      have hn := timeB_true.1 h2
      by_cases g : n < d
      · rw [ans_state h1 h2 g]; exact failed_state b r d n w h1 h2 g
      · by_cases o4 : r = 4
        · subst o4
          rw [ans_over h1 h2 g (.inl rfl)]
          exact failed_over4 b d n w h1 h2 (by omega) (by omega) hn
        · by_cases ol : 40 < n - b
          · rw [ans_over h1 h2 g (.inr (.inl ol))]
            exact failed_life b r d n w h1 h2 (by omega) (by omega) hn (by omega) ol
          · have hp := pw_bd r
            by_cases ot : 1099511627776 < n + pw r
            · rw [ans_over h1 h2 g (.inr (.inr ot))]
              exact failed_late b r d n w h1 h2 (by omega) (by omega) hn (by omega) (by omega) (timeB_false.2 (by omega))
            · rw [ans_next h1 h2 g (by omega)]
              exact failed_next b r d n w h1 h2 (by omega) (by omega) hn (by omega) (by omega) (timeB_true.2 (by omega))
end Go.Proofs.Ytehekapmbipagaa
