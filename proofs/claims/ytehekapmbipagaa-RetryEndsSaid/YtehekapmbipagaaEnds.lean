/-
  The walk of RetryEnds: it returns true, and makes new blocks alone.
-/
import Derived.Test.YtehekapmbipagaaAwake
import Derived.Laws.Small
namespace Go.Proofs.Ytehekapmbipagaa
open Go.RowKit

/-- A try at any time from Due on: it is over, or the next turn. -/
theorem ans_any {n D E : Int} {k : Nat} (h0 : 0 ≤ n) (h1 : n ≤ 549755813888) (hk : k ≤ 4) (hD : n ≤ D) (hE : D ≤ E) (hT : E ≤ n + 100000 * k + 65535) :
    ans n k D E = ⟨0, 0, 0, true, 0⟩ ∨ (k < 4 ∧ ans n k D E = ⟨n, (k + 1 : Nat), E + pw k, false, 0⟩) := by
  have hp := pw_bd k
  have hr : rightB n k D = true := rightB_true.2 (by omega)
  have ht : timeB E = true := timeB_true.2 (by omega)
  by_cases o : (k : Int) = 4 ∨ 40 < E - n ∨ 1099511627776 < E + pw k
  · exact .inl (ans_over hr ht (by omega) o)
  · exact .inr ⟨by omega, ans_next hr ht (by omega) o⟩

/-- The argument 'late', as far as it is read: its address, and the numbers there. -/
def Late (w : World) (ao : Option Addr) (len : Nat) : Prop := ∀ i, i < len → ∃ b off x, ao = some ⟨b, off, none⟩ ∧ w.cell? ⟨b, off + i, none⟩ = some (.int .u16 x) ∧ 0 ≤ x ∧ x ≤ 65535

set_option maxHeartbeats 1600000 in
theorem ends_no (n : Int) (v : Value) (w : World) (h : timeB n = false) :
    Calls Try.prog 4 #[.int .i64 n, v] w fun e w' => e = .returned (.bool true) ∧ Below w.heap.size w w' := by
  have H := Lib.hid h
  clear h
  go_enter Try.func4, Try.ntmps4
  go_wp2_with fail
  refine (awake_any _).mono ?_
  rintro e w1 ⟨rfl, b1⟩
  go_wp2_with fail
  refine (new_no n _ H.out).mono ?_
  rintro e w2 ⟨rfl, b2⟩
  have q := Below.more (Below.step b1 b2) (.cells #[.int .i64 0, .int .i64 0, .int .i64 0] 23)
  go_wp2_with fail
  go_ret
  exact ⟨rfl, q⟩

set_option maxHeartbeats 1600000 in
theorem ends_far (n : Int) (v : Value) (w : World) (h : timeB n = true) (hn : 549755813888 < n) :
    Calls Try.prog 4 #[.int .i64 n, v] w fun e w' => e = .returned (.bool true) ∧ Below w.heap.size w w' := by
  have H := Lib.hid h
  clear h
  go_enter Try.func4, Try.ntmps4
  go_wp2_with fail
  refine (awake_any _).mono ?_
  rintro e w1 ⟨rfl, b1⟩
  go_wp2_with fail
  refine (new_yes n _ H.out).mono ?_
  rintro e w2 ⟨rfl, b2⟩
  have q := Below.more (Below.step b1 b2) (.cells #[.int .i64 n, .int .i64 0, .int .i64 n] 23)
  go_wp2_with fail
  go_ret
  exact ⟨rfl, q⟩

theorem set3_below {B : Nat} {w a : World} (h : Below B w a) {T : Nat} (hT : B ≤ T) (x y z : Value) : Below B w (((a.setCell ⟨T, 0, none⟩ x).setCell ⟨T, 1, none⟩ y).setCell ⟨T, 2, none⟩ z) :=
  ((h.setCell (by exact hT) _).setCell (by exact hT) _).setCell (by exact hT) _

set_option maxRecDepth 100000 in
set_option maxHeartbeats 8000000 in
theorem ends_near (n : Int) (ao : Option Addr) (len cap : Nat) (w : World) (h0 : 0 ≤ n) (h1 : n ≤ 549755813888) (hl : Late w ao len) :
    Calls Try.prog 4 #[.int .i64 n, .slice ao len cap] w fun e w' => e = .returned (.bool true) ∧ Below w.heap.size w w' := by
  have H := Lib.hid (show timeB n = true from timeB_true.2 (by omega))
  have H5 := Lib.hid (show plen n = 5 by unfold plen; repeat' split
                                         all_goals omega)
  go_enter Try.func4, Try.ntmps4
  go_wp2_with fail
  refine (awake_any _).mono ?_
  rintro e w1 ⟨rfl, b1⟩
  go_wp2_with fail
  refine (new_yes n _ H.out).mono ?_
  rintro e w2 ⟨rfl, b2⟩
  have t3 := Blk.made w2 n (0 : Nat) n 23
  have q3 := Below.more (Below.step b1 b2) (.cells #[.int .i64 n, .int .i64 0, .int .i64 n] 23)
  have hT : w.heap.size ≤ w2.heap.size := (Below.step b1 b2).size
  clear b1 b2
  go_wp2_with fail
  generalize w2.heap.size = T at t3 hT ⊢
  go_loopw [7, 8] (fun a i wr => ∃ (k : Nat) (t D : Int), i = .int .i64 k ∧ a = .int .i64 t ∧ k ≤ 4 ∧ n ≤ t ∧ n ≤ D ∧ t ≤ n + 100000 * k ∧ D ≤ n + 100000 * k ∧ Blk wr T n k D 23 ∧ Below w.heap.size w wr) (fun _ i _ => (6 - intOf i).toNat)
  case atStart => exact ⟨0, n, n, rfl, rfl, by omega, by omega, by omega, by omega, by omega, t3, q3⟩
  case round =>
    obtain ⟨k, t, D, rfl, rfl, hk, ht0, hD0, ht1, hD1, tr, qr⟩ := hrel
    clear t3 q3
    have c0 := tr.c0
    have c1 := tr.c1
    have c2 := tr.c2
    have hTl := tr.lt
    have hk0 : (0 : Int) ≤ k := by omega
    have hk4 : (k : Int) ≤ 4 := by omega
    by_cases hlt : (k : Int) < len
    · obtain ⟨lb, lo, x, rfl, hx, x0, x1⟩ := hl k (by omega)
      have hxr : wr.cell? ⟨lb, lo + k, none⟩ = some (.int .u16 x) := (qr.cell (p := ⟨lb, lo + k, none⟩) (World.block_lt_of_cell? w _ hx)).trans hx
      clear hx hl
      by_cases hm1 : t + x < D
      · have hm2 : D ≤ D := Int.le_refl _
        rcases ans_any (n := n) (D := D) (E := D) h0 h1 hk hD0 (by omega) (by omega) with ha | ⟨hk3, ha⟩
        · have HA := Lib.hid ha
          clear ha
          go_wp2_with fail
          refine (failed_at n k D (D) _ _ _ _ _ HA.out _).mono ?_
          rintro e w4 ⟨rfl, b4⟩
          have q4 := Below.more (Below.step qr b4) (.cells #[.int .i64 0, .int .i64 0, .int .i64 0] 23)
          clear c0 c1 c2 tr qr b4
          go_wp2_with fail
          refine (plan_got n 5 H5.out H.out _).mono ?_
          rintro e w5 ⟨g, cp, rfl, -, -, hc, b5⟩
          have d0 := hc 0 (by omega)
          have d4 := hc 4 (by omega)
          rw [due_0] at d0
          rw [due_4] at d4
          have q5 := Below.step q4 b5
          clear hc b5 q4
          go_wp2_with fail
          go_ret
          exact ⟨by first | rfl | exact retb (by simp; omega), q5⟩
        · have HA := Lib.hid ha
          have hp := pw_bd k
          obtain ⟨p, hpe⟩ : ∃ p, p = pw k := ⟨_, rfl⟩
          rw [← hpe] at hp HA
          obtain ⟨hp0, hp1⟩ := hp
          have HR := Lib.hid (show rightB n (k + 1 : Nat) (D + p) = true from rightB_true.2 (by omega))
          clear ha hpe
          go_wp2_with fail
          refine (failed_at n k D (D) _ _ _ _ _ HA.out _).mono ?_
          rintro e w4 ⟨rfl, b4⟩
          have t4 := (tr.later b4).alloc (.cells #[.int .i64 n, .int .i64 (k + 1 : Nat), .int .i64 (D + p)] 23)
          have u4 := Blk.made w4 n (k + 1 : Nat) (D + p) 23
          have q4 := Below.more (Below.step qr b4) (.cells #[.int .i64 n, .int .i64 (k + 1 : Nat), .int .i64 (D + p)] 23)
          clear c0 c1 c2 tr qr b4
          go_wp2_with fail
          refine (right_is n (k + 1 : Nat) (D + p) true HR.out _).mono ?_
          rintro e w5 ⟨rfl, b5⟩
          have t5 := t4.later b5
          have u5 := u4.later b5
          have q5 := Below.step q4 b5
          have c0 := u5.c0
          have c1 := u5.c1
          have c2 := u5.c2
          have f0 := t5.c0
          have f1 := t5.c1
          have f2 := t5.c2
          have e0 := t5.f 0
          have e1 := t5.f 1
          have e2 := t5.f 2
          clear t4 u4 q4 b5
          go_wp2_with fail
          go_roundw
          case rel => exact ⟨k + 1, D, D + p, by go_num, rfl, by omega, by omega, by omega, by omega, by omega, store3 t5, set3_below q5 hT _ _ _⟩
          case measure => simp [intOf]; omega
      · have hm2 : D ≤ t + x := by omega
        rcases ans_any (n := n) (D := D) (E := t + x) h0 h1 hk hD0 (by omega) (by omega) with ha | ⟨hk3, ha⟩
        · have HA := Lib.hid ha
          clear ha
          go_wp2_with fail
          refine (failed_at n k D (t + x) _ _ _ _ _ HA.out _).mono ?_
          rintro e w4 ⟨rfl, b4⟩
          have q4 := Below.more (Below.step qr b4) (.cells #[.int .i64 0, .int .i64 0, .int .i64 0] 23)
          clear c0 c1 c2 tr qr b4
          go_wp2_with fail
          refine (plan_got n 5 H5.out H.out _).mono ?_
          rintro e w5 ⟨g, cp, rfl, -, -, hc, b5⟩
          have d0 := hc 0 (by omega)
          have d4 := hc 4 (by omega)
          rw [due_0] at d0
          rw [due_4] at d4
          have q5 := Below.step q4 b5
          clear hc b5 q4
          go_wp2_with fail
          go_ret
          exact ⟨by first | rfl | exact retb (by simp; omega), q5⟩
        · have HA := Lib.hid ha
          have hp := pw_bd k
          obtain ⟨p, hpe⟩ : ∃ p, p = pw k := ⟨_, rfl⟩
          rw [← hpe] at hp HA
          obtain ⟨hp0, hp1⟩ := hp
          have HR := Lib.hid (show rightB n (k + 1 : Nat) (t + x + p) = true from rightB_true.2 (by omega))
          clear ha hpe
          go_wp2_with fail
          refine (failed_at n k D (t + x) _ _ _ _ _ HA.out _).mono ?_
          rintro e w4 ⟨rfl, b4⟩
          have t4 := (tr.later b4).alloc (.cells #[.int .i64 n, .int .i64 (k + 1 : Nat), .int .i64 (t + x + p)] 23)
          have u4 := Blk.made w4 n (k + 1 : Nat) (t + x + p) 23
          have q4 := Below.more (Below.step qr b4) (.cells #[.int .i64 n, .int .i64 (k + 1 : Nat), .int .i64 (t + x + p)] 23)
          clear c0 c1 c2 tr qr b4
          go_wp2_with fail
          refine (right_is n (k + 1 : Nat) (t + x + p) true HR.out _).mono ?_
          rintro e w5 ⟨rfl, b5⟩
          have t5 := t4.later b5
          have u5 := u4.later b5
          have q5 := Below.step q4 b5
          have c0 := u5.c0
          have c1 := u5.c1
          have c2 := u5.c2
          have f0 := t5.c0
          have f1 := t5.c1
          have f2 := t5.c2
          have e0 := t5.f 0
          have e1 := t5.f 1
          have e2 := t5.f 2
          clear t4 u4 q4 b5
          go_wp2_with fail
          go_roundw
          case rel => exact ⟨k + 1, t + x, t + x + p, by go_num, rfl, by omega, by omega, by omega, by omega, by omega, store3 t5, set3_below q5 hT _ _ _⟩
          case measure => simp [intOf]; omega
    · clear hl
      by_cases hm1 : t < D
      · have hm2 : D ≤ D := Int.le_refl _
        rcases ans_any (n := n) (D := D) (E := D) h0 h1 hk hD0 (by omega) (by omega) with ha | ⟨hk3, ha⟩
        · have HA := Lib.hid ha
          clear ha
          go_wp2_with fail
          refine (failed_at n k D (D) _ _ _ _ _ HA.out _).mono ?_
          rintro e w4 ⟨rfl, b4⟩
          have q4 := Below.more (Below.step qr b4) (.cells #[.int .i64 0, .int .i64 0, .int .i64 0] 23)
          clear c0 c1 c2 tr qr b4
          go_wp2_with fail
          refine (plan_got n 5 H5.out H.out _).mono ?_
          rintro e w5 ⟨g, cp, rfl, -, -, hc, b5⟩
          have d0 := hc 0 (by omega)
          have d4 := hc 4 (by omega)
          rw [due_0] at d0
          rw [due_4] at d4
          have q5 := Below.step q4 b5
          clear hc b5 q4
          go_wp2_with fail
          go_ret
          exact ⟨by first | rfl | exact retb (by simp; omega), q5⟩
        · have HA := Lib.hid ha
          have hp := pw_bd k
          obtain ⟨p, hpe⟩ : ∃ p, p = pw k := ⟨_, rfl⟩
          rw [← hpe] at hp HA
          obtain ⟨hp0, hp1⟩ := hp
          have HR := Lib.hid (show rightB n (k + 1 : Nat) (D + p) = true from rightB_true.2 (by omega))
          clear ha hpe
          go_wp2_with fail
          refine (failed_at n k D (D) _ _ _ _ _ HA.out _).mono ?_
          rintro e w4 ⟨rfl, b4⟩
          have t4 := (tr.later b4).alloc (.cells #[.int .i64 n, .int .i64 (k + 1 : Nat), .int .i64 (D + p)] 23)
          have u4 := Blk.made w4 n (k + 1 : Nat) (D + p) 23
          have q4 := Below.more (Below.step qr b4) (.cells #[.int .i64 n, .int .i64 (k + 1 : Nat), .int .i64 (D + p)] 23)
          clear c0 c1 c2 tr qr b4
          go_wp2_with fail
          refine (right_is n (k + 1 : Nat) (D + p) true HR.out _).mono ?_
          rintro e w5 ⟨rfl, b5⟩
          have t5 := t4.later b5
          have u5 := u4.later b5
          have q5 := Below.step q4 b5
          have c0 := u5.c0
          have c1 := u5.c1
          have c2 := u5.c2
          have f0 := t5.c0
          have f1 := t5.c1
          have f2 := t5.c2
          have e0 := t5.f 0
          have e1 := t5.f 1
          have e2 := t5.f 2
          clear t4 u4 q4 b5
          go_wp2_with fail
          go_roundw
          case rel => exact ⟨k + 1, D, D + p, by go_num, rfl, by omega, by omega, by omega, by omega, by omega, store3 t5, set3_below q5 hT _ _ _⟩
          case measure => simp [intOf]; omega
      · have hm2 : D ≤ t := by omega
        rcases ans_any (n := n) (D := D) (E := t) h0 h1 hk hD0 (by omega) (by omega) with ha | ⟨hk3, ha⟩
        · have HA := Lib.hid ha
          clear ha
          go_wp2_with fail
          refine (failed_at n k D (t) _ _ _ _ _ HA.out _).mono ?_
          rintro e w4 ⟨rfl, b4⟩
          have q4 := Below.more (Below.step qr b4) (.cells #[.int .i64 0, .int .i64 0, .int .i64 0] 23)
          clear c0 c1 c2 tr qr b4
          go_wp2_with fail
          refine (plan_got n 5 H5.out H.out _).mono ?_
          rintro e w5 ⟨g, cp, rfl, -, -, hc, b5⟩
          have d0 := hc 0 (by omega)
          have d4 := hc 4 (by omega)
          rw [due_0] at d0
          rw [due_4] at d4
          have q5 := Below.step q4 b5
          clear hc b5 q4
          go_wp2_with fail
          go_ret
          exact ⟨by first | rfl | exact retb (by simp; omega), q5⟩
        · have HA := Lib.hid ha
          have hp := pw_bd k
          obtain ⟨p, hpe⟩ : ∃ p, p = pw k := ⟨_, rfl⟩
          rw [← hpe] at hp HA
          obtain ⟨hp0, hp1⟩ := hp
          have HR := Lib.hid (show rightB n (k + 1 : Nat) (t + p) = true from rightB_true.2 (by omega))
          clear ha hpe
          go_wp2_with fail
          refine (failed_at n k D (t) _ _ _ _ _ HA.out _).mono ?_
          rintro e w4 ⟨rfl, b4⟩
          have t4 := (tr.later b4).alloc (.cells #[.int .i64 n, .int .i64 (k + 1 : Nat), .int .i64 (t + p)] 23)
          have u4 := Blk.made w4 n (k + 1 : Nat) (t + p) 23
          have q4 := Below.more (Below.step qr b4) (.cells #[.int .i64 n, .int .i64 (k + 1 : Nat), .int .i64 (t + p)] 23)
          clear c0 c1 c2 tr qr b4
          go_wp2_with fail
          refine (right_is n (k + 1 : Nat) (t + p) true HR.out _).mono ?_
          rintro e w5 ⟨rfl, b5⟩
          have t5 := t4.later b5
          have u5 := u4.later b5
          have q5 := Below.step q4 b5
          have c0 := u5.c0
          have c1 := u5.c1
          have c2 := u5.c2
          have f0 := t5.c0
          have f1 := t5.c1
          have f2 := t5.c2
          have e0 := t5.f 0
          have e1 := t5.f 1
          have e2 := t5.f 2
          clear t4 u4 q4 b5
          go_wp2_with fail
          go_roundw
          case rel => exact ⟨k + 1, t, t + p, by go_num, rfl, by omega, by omega, by omega, by omega, by omega, store3 t5, set3_below q5 hT _ _ _⟩
          case measure => simp [intOf]; omega
end Go.Proofs.Ytehekapmbipagaa
