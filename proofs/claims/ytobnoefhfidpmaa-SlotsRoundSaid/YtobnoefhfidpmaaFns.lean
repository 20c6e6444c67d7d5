/-
  The walks of slots.parts, slots.Of, mailguardref23.Of, slots.Next, mailguardref23.Next over the dump: what each returns, by plain functions of integers. No conditions.
-/
import Derived.Test.YtobnoefhfidpmaaRows
import Derived.WalkKit
import Derived.BigQuiet
import Derived.Deep.QuietTactic
import Derived.Lib.Hide
namespace Go.Proofs.Ytobnoefhfidpmaa
open Go.RowKit

def good (s n : Int) : Prop := 1 ≤ n ∧ n ≤ 16 ∧ 0 ≤ s ∧ s ≤ 1099511627776
instance (s n : Int) : Decidable (good s n) := by unfold good; exact inferInstance
def ofV (s n : Int) : Int := if good s n then s % n else 0
def ofE (s n : Int) : Int := if good s n then 0 else 1

theorem ofV_yes {s n : Int} (h : good s n) : ofV s n = s % n := if_pos h
theorem ofE_yes {s n : Int} (h : good s n) : ofE s n = 0 := if_pos h
theorem ofV_no {s n : Int} (h : ¬ good s n) : ofV s n = 0 := if_neg h
theorem ofE_no {s n : Int} (h : ¬ good s n) : ofE s n = 1 := if_neg h

theorem ret2 {a b c d : Int} (h : a = b) (k : c = d) : Ending.returned (.tuple #[.int .i64 a, .int .i64 c]) = .returned (.tuple #[.int .i64 b, .int .i64 d]) := by rw [h, k]

set_option maxHeartbeats 400000 in
theorem of_any (s n : Int) (w : World) :
    Calls Try.prog 7 #[.int .i64 s, .int .i64 n] w fun e w' => e = .returned (.tuple #[.int .i64 (ofV s n), .int .i64 (ofE s n)]) ∧ w = w' := by
  by_cases h1 : 1 ≤ n
  · by_cases h2 : n ≤ 16
    · by_cases h3 : 0 ≤ s
      · by_cases h4 : s ≤ 1099511627776
        · have hg : good s n := ⟨h1, h2, h3, h4⟩
          go_enter Try.func7, Try.ntmps7
          go_wp2
          go_ret2
          exact ⟨ret2 (ofV_yes hg).symm (ofE_yes hg).symm, rfl⟩
        · have hg : ¬ good s n := fun h => h4 h.2.2.2
          go_enter Try.func7, Try.ntmps7
          go_wp2
          go_ret2
          exact ⟨ret2 (ofV_no hg).symm (ofE_no hg).symm, rfl⟩
      · have hg : ¬ good s n := fun h => h3 h.2.2.1
        go_enter Try.func7, Try.ntmps7
        go_wp2
        go_ret2
        exact ⟨ret2 (ofV_no hg).symm (ofE_no hg).symm, rfl⟩
    · have hg : ¬ good s n := fun h => h2 h.2.1
      go_enter Try.func7, Try.ntmps7
      go_wp2
      go_ret2
      exact ⟨ret2 (ofV_no hg).symm (ofE_no hg).symm, rfl⟩
  · have hg : ¬ good s n := fun h => h1 h.1
    go_enter Try.func7, Try.ntmps7
    go_wp2
    go_ret2
    exact ⟨ret2 (ofV_no hg).symm (ofE_no hg).symm, rfl⟩

/-- The other text's 'Of' is the same function. -/
theorem div_mul_bd {s n : Int} (h1 : 1 ≤ n) (h3 : 0 ≤ s) : 0 ≤ s / n * n ∧ s / n * n ≤ s ∧ 0 ≤ s / n ∧ s / n ≤ s := by
  have e := Int.emod_add_mul_ediv s n
  have a := Int.emod_nonneg s (show n ≠ 0 by omega)
  have b := Int.ediv_nonneg h3 (show 0 ≤ n by omega)
  have c : 0 ≤ s / n * n := Int.mul_nonneg b (by omega)
  have d : s / n * n = n * (s / n) := Int.mul_comm _ _
  have f := Int.ediv_le_self n h3
  exact ⟨c, by omega, b, f⟩

theorem sub_div_mul (s n : Int) : s - s / n * n = s % n := by rw [Int.emod_def, Int.mul_comm]

set_option maxHeartbeats 400000 in
theorem rof_any (s n : Int) (w : World) :
    Calls Try.prog 8 #[.int .i64 s, .int .i64 n] w fun e w' => e = .returned (.tuple #[.int .i64 (ofV s n), .int .i64 (ofE s n)]) ∧ w = w' := by
  by_cases h1 : 1 ≤ n
  · by_cases h2 : n ≤ 16
    · by_cases h3 : 0 ≤ s
      · by_cases h4 : s ≤ 1099511627776
        · have hg : good s n := ⟨h1, h2, h3, h4⟩
          obtain ⟨b1, b2, b3, b4⟩ := div_mul_bd h1 h3
          go_enter Try.func8, Try.ntmps8
          go_wp2
          go_ret2
          exact ⟨ret2 ((sub_div_mul s n).trans (ofV_yes hg).symm) (ofE_yes hg).symm, rfl⟩
        · have hg : ¬ good s n := fun h => h4 h.2.2.2
          go_enter Try.func8, Try.ntmps8
          go_wp2
          go_ret2
          exact ⟨ret2 (ofV_no hg).symm (ofE_no hg).symm, rfl⟩
      · have hg : ¬ good s n := fun h => h3 h.2.2.1
        go_enter Try.func8, Try.ntmps8
        go_wp2
        go_ret2
        exact ⟨ret2 (ofV_no hg).symm (ofE_no hg).symm, rfl⟩
    · have hg : ¬ good s n := fun h => h2 h.2.1
      go_enter Try.func8, Try.ntmps8
      go_wp2
      go_ret2
      exact ⟨ret2 (ofV_no hg).symm (ofE_no hg).symm, rfl⟩
  · have hg : ¬ good s n := fun h => h1 h.1
    go_enter Try.func8, Try.ntmps8
    go_wp2
    go_ret2
    exact ⟨ret2 (ofV_no hg).symm (ofE_no hg).symm, rfl⟩

/-! ### Next -/
def dist (s n p : Int) : Int := (p - s) % n
def nextV (s n p : Int) : Int := if good s n ∧ 0 ≤ p ∧ p < n then s + dist s n p else 0
def nextE (s n p : Int) : Int := if good s n then (if 0 ≤ p ∧ p < n then 0 else 4) else 1

theorem nextV_yes {s n p : Int} (h : good s n) (a : 0 ≤ p) (b : p < n) : nextV s n p = s + dist s n p := if_pos ⟨h, a, b⟩
theorem nextE_yes {s n p : Int} (h : good s n) (a : 0 ≤ p) (b : p < n) : nextE s n p = 0 := by unfold nextE; rw [if_pos h, if_pos ⟨a, b⟩]
theorem nextV_off {s n p : Int} (a : ¬ (0 ≤ p ∧ p < n)) : nextV s n p = 0 := if_neg fun h => a h.2
theorem nextE_off {s n p : Int} (h : good s n) (a : ¬ (0 ≤ p ∧ p < n)) : nextE s n p = 4 := by unfold nextE; rw [if_pos h, if_neg a]
theorem nextV_no {s n p : Int} (h : ¬ good s n) : nextV s n p = 0 := if_neg fun k => h k.1
theorem nextE_no {s n p : Int} (h : ¬ good s n) : nextE s n p = 1 := if_neg h

theorem dist_bd {s n p : Int} (h : good s n) : 0 ≤ dist s n p ∧ dist s n p < n := by
  obtain ⟨h1, h2, h3, h4⟩ := h
  exact ⟨Int.emod_nonneg _ (by omega), Int.emod_lt_of_pos _ (by omega)⟩

theorem dist_tells {s n p k : Int} (h : good s n) (a : 0 ≤ p) (b : p < n) (h0 : 0 ≤ k) (h5 : k ≤ dist s n p) : (s + k) % n = p ↔ k = dist s n p := by
  obtain ⟨h1, h2, h3, h4⟩ := h
  unfold dist at *
  have : n = 1 ∨ n = 2 ∨ n = 3 ∨ n = 4 ∨ n = 5 ∨ n = 6 ∨ n = 7 ∨ n = 8 ∨ n = 9 ∨ n = 10 ∨ n = 11 ∨ n = 12 ∨ n = 13 ∨ n = 14 ∨ n = 15 ∨ n = 16 := by omega
  rcases this with rfl | rfl | rfl | rfl | rfl | rfl | rfl | rfl | rfl | rfl | rfl | rfl | rfl | rfl | rfl | rfl <;> omega

theorem mod_bd {s n : Int} (h : good s n) : 0 ≤ s % n ∧ s % n < n := by
  obtain ⟨h1, h2, h3, h4⟩ := h
  exact ⟨Int.emod_nonneg _ (by omega), Int.emod_lt_of_pos _ (by omega)⟩

set_option maxHeartbeats 400000 in
theorem next_any (s n p : Int) (w : World) :
    Calls Try.prog 9 #[.int .i64 s, .int .i64 n, .int .i64 p] w fun e w' => e = .returned (.tuple #[.int .i64 (nextV s n p), .int .i64 (nextE s n p)]) ∧ w = w' := by
  by_cases hg : good s n
  · have hv := ofV_yes hg
    have he := ofE_yes hg
    have hc := of_any s n w
    rw [hv, he] at hc
    clear hv he
    obtain ⟨b1, b2⟩ := mod_bd hg
    obtain ⟨b3, b4⟩ : 0 ≤ (p - s) % n ∧ (p - s) % n < n := dist_bd (p := p) hg
    obtain ⟨h1, h2, h3, h4⟩ := id hg
    by_cases h5 : 0 ≤ p
    · by_cases h6 : p < n
      · go_enter Try.func9, Try.ntmps9
        go_wp2_with (go_at_call 7; refine hc.mono ?_; rintro e w' ⟨rfl, rfl⟩)
        go_ret2
        exact ⟨ret2 (nextV_yes hg h5 h6).symm (nextE_yes hg h5 h6).symm, rfl⟩
      · have ho : ¬ (0 ≤ p ∧ p < n) := fun h => h6 h.2
        go_enter Try.func9, Try.ntmps9
        go_wp2_with (go_at_call 7; refine hc.mono ?_; rintro e w' ⟨rfl, rfl⟩)
        go_ret2
        exact ⟨ret2 (nextV_off ho).symm (nextE_off hg ho).symm, rfl⟩
    · have ho : ¬ (0 ≤ p ∧ p < n) := fun h => h5 h.1
      go_enter Try.func9, Try.ntmps9
      go_wp2_with (go_at_call 7; refine hc.mono ?_; rintro e w' ⟨rfl, rfl⟩)
      go_ret2
      exact ⟨ret2 (nextV_off ho).symm (nextE_off hg ho).symm, rfl⟩
  · have hv := ofV_no hg
    have he := ofE_no hg
    have hc := of_any s n w
    rw [hv, he] at hc
    clear hv he
    go_enter Try.func9, Try.ntmps9
    go_wp2_with (go_at_call 7; refine hc.mono ?_; rintro e w' ⟨rfl, rfl⟩)
    go_ret2
    exact ⟨ret2 (nextV_no hg).symm (nextE_no hg).symm, rfl⟩

set_option maxHeartbeats 400000 in
theorem rnext_any (s n p : Int) (w : World) :
    Calls Try.prog 10 #[.int .i64 s, .int .i64 n, .int .i64 p] w fun e w' => e = .returned (.tuple #[.int .i64 (nextV s n p), .int .i64 (nextE s n p)]) ∧ w = w' := by
  by_cases hg : good s n
  · have hv := ofV_yes hg
    have he := ofE_yes hg
    have hc := rof_any s n w
    rw [hv, he] at hc
    clear hv he
    obtain ⟨b1, b2⟩ := mod_bd hg
    obtain ⟨b3, b4⟩ := dist_bd (p := p) hg
    obtain ⟨h1, h2, h3, h4⟩ := id hg
    by_cases h5 : 0 ≤ p
    · by_cases h6 : p < n
      · go_enter Try.func10, Try.ntmps10
        go_wp2_with (go_at_call 8; refine hc.mono ?_; rintro e w' ⟨rfl, rfl⟩)
        go_loop [10] (fun x => ∃ k : Int, 0 ≤ k ∧ k ≤ dist s n p ∧ x = .int .i64 (s + k)) (fun x => (s + dist s n p - intOf x).toNat)
        case atStart => exact ⟨0, by omega, by omega, by simp⟩
        case round =>
          obtain ⟨k, hk0, hk, rfl⟩ := hrel
          have ht := dist_tells hg h5 h6 hk0 hk
          rw [← sub_div_mul] at ht
          obtain ⟨d1, d2, d3, d4⟩ := div_mul_bd h1 (show 0 ≤ s + k by omega)
          by_cases hx : k = dist s n p
          · have ht' : (s + k - (s + k) / n * n != p) = false := bne_eq_false_iff_eq.2 (ht.2 hx)
            have hz : s + k = nextV s n p := by rw [nextV_yes hg h5 h6, hx]
            have H := Lib.hid hx
            have HZ := Lib.hid hz
            clear ht hx hz
            go_wp2
            go_ret2
            exact ⟨ret2 HZ.out (nextE_yes hg h5 h6).symm, rfl⟩
          · have ht' : (s + k - (s + k) / n * n != p) = true := bne_iff_ne.2 fun h => hx (ht.1 h)
            have hlt : k < dist s n p := by omega
            clear ht hx
            go_wp2
            go_round
            case rel => exact ⟨k + 1, by omega, by omega, by rw [Int.add_assoc]⟩
            case measure => simp [intOf]; omega
      · have ho : ¬ (0 ≤ p ∧ p < n) := fun h => h6 h.2
        go_enter Try.func10, Try.ntmps10
        go_wp2_with (go_at_call 8; refine hc.mono ?_; rintro e w' ⟨rfl, rfl⟩)
        go_ret2
        exact ⟨ret2 (nextV_off ho).symm (nextE_off hg ho).symm, rfl⟩
    · have ho : ¬ (0 ≤ p ∧ p < n) := fun h => h5 h.1
      go_enter Try.func10, Try.ntmps10
      go_wp2_with (go_at_call 8; refine hc.mono ?_; rintro e w' ⟨rfl, rfl⟩)
      go_ret2
      exact ⟨ret2 (nextV_off ho).symm (nextE_off hg ho).symm, rfl⟩
  · have hv := ofV_no hg
    have he := ofE_no hg
    have hc := rof_any s n w
    rw [hv, he] at hc
    clear hv he
    go_enter Try.func10, Try.ntmps10
    go_wp2_with (go_at_call 8; refine hc.mono ?_; rintro e w' ⟨rfl, rfl⟩)
    go_ret2
    exact ⟨ret2 (nextV_no hg).symm (nextE_no hg).symm, rfl⟩

end Go.Proofs.Ytobnoefhfidpmaa
