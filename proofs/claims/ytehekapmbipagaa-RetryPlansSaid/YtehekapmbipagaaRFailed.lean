/-
  The walk of the reference's Failed: it returns 'ans', by cases, and makes new blocks alone.
-/
import Derived.Test.YtehekapmbipagaaAns
namespace Go.Proofs.Ytehekapmbipagaa
open Go.RowKit

def p2 (k : Nat) : Int := ((2 ^ k : Nat) : Int)
theorem p2_zero : p2 0 = 1 := rfl
theorem p2_succ (k : Nat) : p2 (k + 1) = 2 * p2 k := by
  unfold p2
  rw [Nat.pow_succ]
  omega
theorem p2_bd {k : Nat} (h : k ≤ 5) : 1 ≤ p2 k ∧ p2 k ≤ 32 := by
  obtain rfl | rfl | rfl | rfl | rfl | rfl : k = 0 ∨ k = 1 ∨ k = 2 ∨ k = 3 ∨ k = 4 ∨ k = 5 := by omega
  all_goals decide
theorem p2_pw {r : Nat} (h : r ≤ 4) : p2 (r + 1) = pw r := by
  obtain rfl | rfl | rfl | rfl | rfl : r = 0 ∨ r = 1 ∨ r = 2 ∨ r = 3 ∨ r = 4 := by omega
  all_goals decide

set_option maxHeartbeats 1600000 in
theorem rfailed_range (b r d n : Int) (w : World) (h : rightB b r d = false) :
    Calls Try.prog 9 #[.agg #[.int .i64 b, .int .i64 r, .int .i64 d], .int .i64 n] w fun e w' => e = .returned (ansV ⟨0, 0, 0, false, 1⟩) ∧ Below w.heap.size w w' := by
  have H1 := Lib.hid h
  clear h
  go_enter Try.func9, Try.ntmps9
  go_wp2_with fail
  refine (rright_is b r d false H1.out _).mono ?_
  rintro e w1 ⟨rfl, b1⟩
  have h1 := held (b1.mono (by simp))
  obtain ⟨c0, c1, c2, z0, z1, z2, f1, f2, g0, g1, g2, bl⟩ := h1
  go_wp2_with fail
  refine bodyPost_ret (v := ansV ⟨0, 0, 0, false, 1⟩) (by simp [results, Try.results9, go_sem, ansV, z0, z1, z2]) rfl ⟨rfl, ?_⟩
  repeat (first | exact bl | refine Below.setCell ?_ (by simp) _)

set_option maxHeartbeats 1600000 in
theorem rfailed_time (b r d n : Int) (w : World) (h : rightB b r d = true) (k : timeB n = false) :
    Calls Try.prog 9 #[.agg #[.int .i64 b, .int .i64 r, .int .i64 d], .int .i64 n] w fun e w' => e = .returned (ansV ⟨0, 0, 0, false, 1⟩) ∧ Below w.heap.size w w' := by
  have H1 := Lib.hid h
  have H2 := Lib.hid k
  clear h k
  go_enter Try.func9, Try.ntmps9
  go_wp2_with fail
  refine (rright_is b r d true H1.out _).mono ?_
  rintro e w1 ⟨rfl, b1⟩
  have h1 := held (b1.mono (by simp))
  obtain ⟨c0, c1, c2, z0, z1, z2, f1, f2, g0, g1, g2, bl⟩ := h1
  go_wp2_with fail
  refine (rtime_is n false H2.out _).mono ?_
  rintro e w' ⟨rfl, rfl⟩
  go_wp2_with fail
  refine bodyPost_ret (v := ansV ⟨0, 0, 0, false, 1⟩) (by simp [results, Try.results9, go_sem, ansV, z0, z1, z2]) rfl ⟨rfl, ?_⟩
  repeat (first | exact bl | refine Below.setCell ?_ (by simp) _)

set_option maxHeartbeats 1600000 in
theorem rfailed_state (b r d n : Int) (w : World) (h : rightB b r d = true) (k : timeB n = true) (g : n < d) :
    Calls Try.prog 9 #[.agg #[.int .i64 b, .int .i64 r, .int .i64 d], .int .i64 n] w fun e w' => e = .returned (ansV ⟨0, 0, 0, false, 9⟩) ∧ Below w.heap.size w w' := by
  have H1 := Lib.hid h
  have H2 := Lib.hid k
  clear h k
  go_enter Try.func9, Try.ntmps9
  go_wp2_with fail
  refine (rright_is b r d true H1.out _).mono ?_
  rintro e w1 ⟨rfl, b1⟩
  have h1 := held (b1.mono (by simp))
  obtain ⟨c0, c1, c2, z0, z1, z2, f1, f2, g0, g1, g2, bl⟩ := h1
  go_wp2_with fail
  refine (rtime_is n true H2.out _).mono ?_
  rintro e w' ⟨rfl, rfl⟩
  go_wp2_with fail
  refine bodyPost_ret (v := ansV ⟨0, 0, 0, false, 9⟩) (by simp [results, Try.results9, go_sem, ansV, z0, z1, z2]) rfl ⟨rfl, ?_⟩
  repeat (first | exact bl | refine Below.setCell ?_ (by simp) _)

set_option maxHeartbeats 1600000 in
theorem rfailed_over (b : Int) (r : Nat) (d n : Int) (w : World) (h : rightB b r d = true) (k : timeB n = true) (g : d ≤ n) (bb : 0 ≤ b ∧ b ≤ 1099511627776) (bn : 0 ≤ n ∧ n ≤ 1099511627776)
    (br : r ≤ 4) (o : r = 4 ∨ 40 < n - b ∨ 1099511627776 < n + pw r) :
    Calls Try.prog 9 #[.agg #[.int .i64 b, .int .i64 r, .int .i64 d], .int .i64 n] w fun e w' => e = .returned (ansV ⟨0, 0, 0, true, 0⟩) ∧ Below w.heap.size w w' := by
  have H1 := Lib.hid h
  have H2 := Lib.hid k
  obtain ⟨n0, n1⟩ := bn
  obtain ⟨b0, b1'⟩ := bb
  rw [← p2_pw br] at o
  have HO := Lib.hid o
  have br0 : (0 : Int) ≤ r := by omega
  have br4 : (r : Int) ≤ 4 := by omega
  clear h k o
  go_enter Try.func9, Try.ntmps9
  go_wp2_with fail
  refine (rright_is b r d true H1.out _).mono ?_
  rintro e w1 ⟨rfl, b1⟩
  have h1 := held (b1.mono (by simp))
  obtain ⟨c0, c1, c2, z0, z1, z2, f1, f2, g0, g1, g2, bl⟩ := h1
  go_wp2_with fail
  refine (rtime_is n true H2.out _).mono ?_
  rintro e w' ⟨rfl, rfl⟩
  go_wp2_with fail
  go_loop [8, 9] (fun x i => ∃ k : Nat, k ≤ r + 1 ∧ i = .int .i64 k ∧ x = .int .i64 (p2 k)) (fun _ i => (r + 1 - intOf i).toNat)
  case atStart => exact ⟨0, by omega, rfl, by rw [p2_zero]⟩
  case round =>
    obtain ⟨k, hk, rfl, rfl⟩ := hrel
    obtain ⟨q0, q1⟩ := p2_bd (k := k) (by omega)
    by_cases hlt : (k : Int) < r + 1
    · go_wp2_with fail
      go_round
      case rel => exact ⟨k + 1, by omega, by go_num, by rw [p2_succ]⟩
      case measure => simp [intOf]; omega
    · obtain rfl : k = r + 1 := by omega
      have o := HO.out
      by_cases o4 : r = 4
      · have e5 : ((r : Int) + 1 == 5) = true := by rw [beq_iff_eq]; omega
        clear o o4
        go_wp2_with fail
        refine bodyPost_ret (v := ansV ⟨0, 0, 0, true, 0⟩) (by simp [results, Try.results9, go_sem, ansV, z0, z1, z2]) rfl ⟨rfl, ?_⟩
        repeat (first | exact bl | refine Below.setCell ?_ (by simp) _)
      · have e5 : ((r : Int) + 1 == 5) = false := by rw [beq_eq_false_iff_ne]; omega
        by_cases o40 : 40 < n - b
        · clear o o4
          go_wp2_with fail
          refine bodyPost_ret (v := ansV ⟨0, 0, 0, true, 0⟩) (by simp [results, Try.results9, go_sem, ansV, z0, z1, z2]) rfl ⟨rfl, ?_⟩
          repeat (first | exact bl | refine Below.setCell ?_ (by simp) _)
        · have ol : 1099511627776 < n + p2 (r + 1) := by omega
          clear o o4
          go_wp2_with fail
          refine bodyPost_ret (v := ansV ⟨0, 0, 0, true, 0⟩) (by simp [results, Try.results9, go_sem, ansV, z0, z1, z2]) rfl ⟨rfl, ?_⟩
          repeat (first | exact bl | refine Below.setCell ?_ (by simp) _)

set_option maxHeartbeats 1600000 in
theorem rfailed_next (b : Int) (r : Nat) (d n : Int) (w : World) (h : rightB b r d = true) (k : timeB n = true) (g : d ≤ n) (bb : 0 ≤ b ∧ b ≤ 1099511627776) (bn : 0 ≤ n ∧ n ≤ 1099511627776)
    (br : r ≤ 3) (o1 : n - b ≤ 40) (o2 : n + pw r ≤ 1099511627776) :
    Calls Try.prog 9 #[.agg #[.int .i64 b, .int .i64 r, .int .i64 d], .int .i64 n] w fun e w' => e = .returned (ansV ⟨b, r + 1, n + pw r, false, 0⟩) ∧ Below w.heap.size w w' := by
  have H1 := Lib.hid h
  have H2 := Lib.hid k
  obtain ⟨n0, n1⟩ := bn
  obtain ⟨b0, b1'⟩ := bb
  rw [← p2_pw (show r ≤ 4 by omega)] at o2 ⊢
  have br0 : (0 : Int) ≤ r := by omega
  have br4 : (r : Int) ≤ 4 := by omega
  clear h k
  go_enter Try.func9, Try.ntmps9
  go_wp2_with fail
  refine (rright_is b r d true H1.out _).mono ?_
  rintro e w1 ⟨rfl, b1⟩
  have h1 := held (b1.mono (by simp))
  obtain ⟨c0, c1, c2, z0, z1, z2, f1, f2, g0, g1, g2, bl⟩ := h1
  go_wp2_with fail
  refine (rtime_is n true H2.out _).mono ?_
  rintro e w' ⟨rfl, rfl⟩
  go_wp2_with fail
  go_loop [8, 9] (fun x i => ∃ k : Nat, k ≤ r + 1 ∧ i = .int .i64 k ∧ x = .int .i64 (p2 k)) (fun _ i => (r + 1 - intOf i).toNat)
  case atStart => exact ⟨0, by omega, rfl, by rw [p2_zero]⟩
  case round =>
    obtain ⟨k, hk, rfl, rfl⟩ := hrel
    obtain ⟨q0, q1⟩ := p2_bd (k := k) (by omega)
    by_cases hlt : (k : Int) < r + 1
    · go_wp2_with fail
      go_round
      case rel => exact ⟨k + 1, by omega, by go_num, by rw [p2_succ]⟩
      case measure => simp [intOf]; omega
    · obtain rfl : k = r + 1 := by omega
      have e5 : ((r : Int) + 1 == 5) = false := by rw [beq_eq_false_iff_ne]; omega
      go_wp2_with fail
      refine bodyPost_ret (v := ansV ⟨b, r + 1, n + p2 (r + 1), false, 0⟩) (by simp [results, Try.results9, go_sem, ansV, z0, z1, z2]) rfl ⟨rfl, ?_⟩
      repeat (first | exact bl | refine Below.setCell ?_ (by simp) _)

theorem rfailed_is (b r d n : Int) (a : Ans) (h : ans b r d n = a) (w : World) :
    Calls Try.prog 9 #[.agg #[.int .i64 b, .int .i64 r, .int .i64 d], .int .i64 n] w fun e w' => e = .returned (ansV a) ∧ Below w.heap.size w w' := by
  subst h
  cases h1 : rightB b r d with
  | false => rw [ans_range (.inl h1)]; exact rfailed_range b r d n w h1
  | true =>
    cases h2 : timeB n with
    | false => rw [ans_range (.inr h2)]; exact rfailed_time b r d n w h1 h2
    | true =>
      have hr := rightB_true.1 h1
      have hn := timeB_true.1 h2
      by_cases g : n < d
      · rw [ans_state h1 h2 g]; exact rfailed_state b r d n w h1 h2 g
      · obtain ⟨r, rfl⟩ := Int.eq_ofNat_of_zero_le (show 0 ≤ r by omega)
        by_cases o : r = 4 ∨ 40 < n - b ∨ 1099511627776 < n + pw r
        · rw [ans_over h1 h2 g (by omega)]
          exact rfailed_over b r d n w h1 h2 (by omega) (by omega) hn (by omega) o
        · rw [ans_next h1 h2 g (by omega)]
          exact rfailed_next b r d n w h1 h2 (by omega) (by omega) hn (by omega) (by omega) (by omega)
end Go.Proofs.Ytehekapmbipagaa
