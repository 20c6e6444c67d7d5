/-
  The walks of retry.time, Right, Ready and of the reference's time, Right: what each returns, by Bool functions of integers. No conditions.
-/
import Derived.Test.YtehekapmbipagaaRows
import Derived.WalkKit
import Derived.BigQuiet
import Derived.Deep.QuietTactic
import Derived.Lib.Hide
namespace Go.Proofs.Ytehekapmbipagaa
open Go.RowKit

def timeB (t : Int) : Bool := decide (0 ≤ t) && decide (t ≤ 1099511627776)
theorem timeB_true {t : Int} : timeB t = true ↔ 0 ≤ t ∧ t ≤ 1099511627776 := by simp [timeB]
theorem timeB_false {t : Int} : timeB t = false ↔ ¬ (0 ≤ t ∧ t ≤ 1099511627776) := by rw [← timeB_true]; simp
theorem retb {a b : Bool} (h : a = b) : Ending.returned (.bool a) = .returned (.bool b) := by rw [h]

set_option maxHeartbeats 400000 in
theorem time_any (t : Int) (w : World) : Calls Try.prog 16 #[.int .i64 t] w fun e w' => e = .returned (.bool (timeB t)) ∧ w = w' := by
  by_cases h1 : 0 ≤ t
  · go_enter Try.func16, Try.ntmps16
    go_wp2
    go_ret
    exact ⟨retb (by simp [timeB, h1]), rfl⟩
  · go_enter Try.func16, Try.ntmps16
    go_wp2
    go_ret
    exact ⟨retb (by simp [timeB]; omega), rfl⟩
set_option maxHeartbeats 400000 in
theorem rtime_any (t : Int) (w : World) : Calls Try.prog 17 #[.int .i64 t] w fun e w' => e = .returned (.bool (timeB t)) ∧ w = w' := by
  by_cases h1 : 0 ≤ t
  · go_enter Try.func17, Try.ntmps17
    go_wp2
    go_ret
    exact ⟨retb (by simp [timeB, h1]), rfl⟩
  · go_enter Try.func17, Try.ntmps17
    go_wp2
    go_ret
    exact ⟨retb (by simp [timeB]; omega), rfl⟩

theorem time_is (t : Int) (x : Bool) (h : timeB t = x) (w : World) : Calls Try.prog 16 #[.int .i64 t] w fun e w' => e = .returned (.bool x) ∧ w = w' := h ▸ time_any t w
theorem rtime_is (t : Int) (x : Bool) (h : timeB t = x) (w : World) : Calls Try.prog 17 #[.int .i64 t] w fun e w' => e = .returned (.bool x) ∧ w = w' := h ▸ rtime_any t w

def rightB (b r d : Int) : Bool := timeB b && timeB d && decide (b ≤ d) && decide (0 ≤ r) && decide (r ≤ 4)
theorem rightB_true {b r d : Int} : rightB b r d = true ↔ 0 ≤ b ∧ b ≤ d ∧ d ≤ 1099511627776 ∧ 0 ≤ r ∧ r ≤ 4 := by
  unfold rightB
  simp only [Bool.and_eq_true, timeB_true, decide_eq_true_eq]
  omega

set_option maxHeartbeats 800000 in
theorem right_any (b r d : Int) (w : World) :
    Calls Try.prog 13 #[.agg #[.int .i64 b, .int .i64 r, .int .i64 d]] w fun e w' => e = .returned (.bool (rightB b r d)) ∧ Below w.heap.size w w' := by
  have hB := (Below.refl w.heap.size w).alloc (Nat.le_refl _) (.cells #[.int .i64 b, .int .i64 r, .int .i64 d] 23)
  have HB := Lib.hid hB
  clear hB
  cases h1 : timeB b
  · have H1 := Lib.hid h1
    clear h1
    go_enter Try.func13, Try.ntmps13
    go_wp2_with fail
    refine (time_is b false H1.out _).mono ?_
    rintro e w' ⟨rfl, rfl⟩
    go_wp2_with fail
    go_ret
    exact ⟨retb (by simp [rightB, H1.out]), HB.out⟩
  · have H1 := Lib.hid h1
    clear h1
    cases h2 : timeB d
    · have H2 := Lib.hid h2
      clear h2
      go_enter Try.func13, Try.ntmps13
      go_wp2_with fail
      refine (time_is b true H1.out _).mono ?_
      rintro e w' ⟨rfl, rfl⟩
      go_wp2_with fail
      refine (time_is d false H2.out _).mono ?_
      rintro e w' ⟨rfl, rfl⟩
      go_wp2_with fail
      go_ret
      exact ⟨retb (by simp [rightB, H1.out, H2.out]), HB.out⟩
    · have H2 := Lib.hid h2
      clear h2
      by_cases h3 : b ≤ d
      · by_cases h4 : 0 ≤ r
        · go_enter Try.func13, Try.ntmps13
          go_wp2_with fail
          refine (time_is b true H1.out _).mono ?_
          rintro e w' ⟨rfl, rfl⟩
          go_wp2_with fail
          refine (time_is d true H2.out _).mono ?_
          rintro e w' ⟨rfl, rfl⟩
          go_wp2_with fail
          go_ret
          exact ⟨retb (by simp [rightB, H1.out, H2.out, h3, h4]; omega), HB.out⟩
        · go_enter Try.func13, Try.ntmps13
          go_wp2_with fail
          refine (time_is b true H1.out _).mono ?_
          rintro e w' ⟨rfl, rfl⟩
          go_wp2_with fail
          refine (time_is d true H2.out _).mono ?_
          rintro e w' ⟨rfl, rfl⟩
          go_wp2_with fail
          go_ret
          exact ⟨retb (by simp [rightB, H1.out, H2.out, h3]; omega), HB.out⟩
      · go_enter Try.func13, Try.ntmps13
        go_wp2_with fail
        refine (time_is b true H1.out _).mono ?_
        rintro e w' ⟨rfl, rfl⟩
        go_wp2_with fail
        refine (time_is d true H2.out _).mono ?_
        rintro e w' ⟨rfl, rfl⟩
        go_wp2_with fail
        go_ret
        exact ⟨retb (by simp [rightB, H1.out, H2.out]; omega), HB.out⟩
set_option maxHeartbeats 800000 in
theorem rright_any (b r d : Int) (w : World) :
    Calls Try.prog 14 #[.agg #[.int .i64 b, .int .i64 r, .int .i64 d]] w fun e w' => e = .returned (.bool (rightB b r d)) ∧ Below w.heap.size w w' := by
  have hB := (Below.refl w.heap.size w).alloc (Nat.le_refl _) (.cells #[.int .i64 b, .int .i64 r, .int .i64 d] 25)
  have HB := Lib.hid hB
  clear hB
  cases h1 : timeB b
  · have H1 := Lib.hid h1
    clear h1
    go_enter Try.func14, Try.ntmps14
    go_wp2_with fail
    refine (rtime_is b false H1.out _).mono ?_
    rintro e w' ⟨rfl, rfl⟩
    go_wp2_with fail
    go_ret
    exact ⟨retb (by simp [rightB, H1.out]), HB.out⟩
  · have H1 := Lib.hid h1
    clear h1
    cases h2 : timeB d
    · have H2 := Lib.hid h2
      clear h2
      go_enter Try.func14, Try.ntmps14
      go_wp2_with fail
      refine (rtime_is b true H1.out _).mono ?_
      rintro e w' ⟨rfl, rfl⟩
      go_wp2_with fail
      refine (rtime_is d false H2.out _).mono ?_
      rintro e w' ⟨rfl, rfl⟩
      go_wp2_with fail
      go_ret
      exact ⟨retb (by simp [rightB, H1.out, H2.out]), HB.out⟩
    · have H2 := Lib.hid h2
      clear h2
      by_cases h3 : b ≤ d
      · by_cases h4 : 0 ≤ r
        · go_enter Try.func14, Try.ntmps14
          go_wp2_with fail
          refine (rtime_is b true H1.out _).mono ?_
          rintro e w' ⟨rfl, rfl⟩
          go_wp2_with fail
          refine (rtime_is d true H2.out _).mono ?_
          rintro e w' ⟨rfl, rfl⟩
          go_wp2_with fail
          go_ret
          exact ⟨retb (by simp [rightB, H1.out, H2.out, h3, h4] <;> omega), HB.out⟩
        · go_enter Try.func14, Try.ntmps14
          go_wp2_with fail
          refine (rtime_is b true H1.out _).mono ?_
          rintro e w' ⟨rfl, rfl⟩
          go_wp2_with fail
          refine (rtime_is d true H2.out _).mono ?_
          rintro e w' ⟨rfl, rfl⟩
          go_wp2_with fail
          go_ret
          exact ⟨retb (by simp [rightB, H1.out, H2.out, h3]; omega), HB.out⟩
      · go_enter Try.func14, Try.ntmps14
        go_wp2_with fail
        refine (rtime_is b true H1.out _).mono ?_
        rintro e w' ⟨rfl, rfl⟩
        go_wp2_with fail
        refine (rtime_is d true H2.out _).mono ?_
        rintro e w' ⟨rfl, rfl⟩
        go_wp2_with fail
        go_ret
        exact ⟨retb (by simp [rightB, H1.out, H2.out]; omega), HB.out⟩

theorem right_is (b r d : Int) (x : Bool) (h : rightB b r d = x) (w : World) : Calls Try.prog 13 #[.agg #[.int .i64 b, .int .i64 r, .int .i64 d]] w fun e w' => e = .returned (.bool x) ∧ Below w.heap.size w w' := h ▸ right_any b r d w
theorem rright_is (b r d : Int) (x : Bool) (h : rightB b r d = x) (w : World) : Calls Try.prog 14 #[.agg #[.int .i64 b, .int .i64 r, .int .i64 d]] w fun e w' => e = .returned (.bool x) ∧ Below w.heap.size w w' := h ▸ rright_any b r d w

def readyB (b r d n : Int) : Bool := rightB b r d && decide (d ≤ n)

set_option maxHeartbeats 800000 in
theorem ready_any (b r d n : Int) (w : World) :
    Calls Try.prog 15 #[.agg #[.int .i64 b, .int .i64 r, .int .i64 d], .int .i64 n] w fun e w' => e = .returned (.bool (readyB b r d n)) ∧ Below w.heap.size w w' := by
  have hB := (Below.refl w.heap.size w).alloc (Nat.le_refl _) (.cells #[.int .i64 b, .int .i64 r, .int .i64 d] 23)
  have HB := Lib.hid hB
  clear hB
  cases h1 : rightB b r d
  · have H1 := Lib.hid h1
    clear h1
    go_enter Try.func15, Try.ntmps15
    go_wp2_with fail
    refine (right_is b r d false H1.out _).mono ?_
    rintro e w1 ⟨rfl, b1⟩
    go_wp2_with fail
    go_ret
    exact ⟨retb (by simp [readyB, H1.out]), HB.out.trans (b1.mono (by simp))⟩
  · have H1 := Lib.hid h1
    clear h1
    go_enter Try.func15, Try.ntmps15
    go_wp2_with fail
    refine (right_is b r d true H1.out _).mono ?_
    rintro e w1 ⟨rfl, b1⟩
    have hc : w1.cell? ⟨w.heap.size, 2, none⟩ = some (.int .i64 d) := by rw [b1.cell (by simp)]; go_simp
    go_wp2_with fail
    go_ret
    exact ⟨retb (by simp [readyB, H1.out]), HB.out.trans (b1.mono (by simp))⟩
theorem ready_is (b r d n : Int) (x : Bool) (h : readyB b r d n = x) (w : World) : Calls Try.prog 15 #[.agg #[.int .i64 b, .int .i64 r, .int .i64 d], .int .i64 n] w fun e w' => e = .returned (.bool x) ∧ Below w.heap.size w w' := h ▸ ready_any b r d n w
end Go.Proofs.Ytehekapmbipagaa
