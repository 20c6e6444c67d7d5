/-
  The walks of slots.New, Clock.Now, Clock.Step, Clock.Turns: what each does to the clock's two cells.
-/
import Derived.Test.YtobnoefhfidpmaaFns
import Derived.RegionCalls
import Derived.Deep.RegionWith
import Derived.IntWalk
namespace Go.Proofs.Ytobnoefhfidpmaa
open Go.RowKit

set_option maxHeartbeats 400000 in
theorem new_no (n : Int) (w : World) (h : ¬ (1 ≤ n ∧ n ≤ 16)) :
    Calls Try.prog 11 #[.int .i64 n] w fun e w' => e = .returned (.tuple #[.pointer none, .int .i64 1]) ∧ w = w' := by
  by_cases h1 : 1 ≤ n
  · have h2 : ¬ n ≤ 16 := fun k => h ⟨h1, k⟩
    clear h
    go_enter Try.func11, Try.ntmps11
    go_wp2
    go_ret2
    exact ⟨rfl, rfl⟩
  · clear h
    go_enter Try.func11, Try.ntmps11
    go_wp2
    go_ret2
    exact ⟨rfl, rfl⟩

set_option maxHeartbeats 400000 in
theorem new_yes (n : Int) (w : World) (h1 : 1 ≤ n) (h2 : n ≤ 16) :
    Calls Try.prog 11 #[.int .i64 n] w fun e w' => e = .returned (.tuple #[.pointer (some ⟨w.heap.size, 0, none⟩), .int .i64 0]) ∧ w.alloc (.cells #[.int .i64 n, .int .i64 0] 46) = w' := by
  go_enter Try.func11, Try.ntmps11
  go_wp2
  go_ret2
  exact ⟨rfl, rfl⟩

set_option maxHeartbeats 400000 in
theorem now_any (b : Nat) (t : Int) (w : World) (hc : w.cell? ⟨b, 1, none⟩ = some (.int .i64 t)) :
    Calls Try.prog 12 #[.pointer (some ⟨b, 0, none⟩)] w fun e w' => e = .returned (.int .i64 t) ∧ w = w' := by
  have hl := run_call_load (P := Try.prog) Try.func18 (by kernel_rfl) (by kernel_rfl) (by kernel_rfl) .i64 (by kernel_rfl) hc
  go_enter Try.func12, Try.ntmps12
  go_wp2
  go_ret
  exact ⟨rfl, rfl⟩

set_option maxHeartbeats 400000 in
theorem add_any (b : Nat) (t : Int) (w : World) (hc : w.cell? ⟨b, 1, none⟩ = some (.int .i64 t)) (hf : w.frozen? ⟨b, 1, none⟩ = false) (h0 : 0 ≤ t) (h1 : t ≤ 1099511627776) :
    Calls Try.prog 17 #[.pointer (some ⟨b, 1, none⟩), .int .i64 1] w fun e w' => e = .returned (.int .i64 (t + 1)) ∧ w.setCell ⟨b, 1, none⟩ (.int .i64 (t + 1)) = w' := by
  have hl := run_call_add (P := Try.prog) Try.func19 (by kernel_rfl) (by kernel_rfl) (by kernel_rfl) .i64 (by kernel_rfl) (y := 1) (s := t + 1) hc hf (by simp [go_sem, IntKind.wrap_i64]; omega)
  go_enter Try.func17, Try.ntmps17
  go_wp2
  go_ret
  exact ⟨rfl, rfl⟩

set_option maxHeartbeats 400000 in
theorem step_any (b : Nat) (n t : Int) (w : World) (hn : w.cell? ⟨b, 0, none⟩ = some (.int .i64 n)) (hc : w.cell? ⟨b, 1, none⟩ = some (.int .i64 t)) (hf : w.frozen? ⟨b, 1, none⟩ = false)
    (h0 : 0 ≤ t) (h1 : t ≤ 1099511627776) (h2 : 1 ≤ n) (h3 : n ≤ 16) :
    Calls Try.prog 13 #[.pointer (some ⟨b, 0, none⟩)] w fun e w' => e = .returned (.int .i64 (t % n)) ∧ (w.setCell ⟨b, 1, none⟩ (.int .i64 (t + 1))).drew = w' := by
  have hz : ¬ n = 0 := by omega
  have e1 : IntKind.i64.wrap t = t := IntWalk.i64_in _ (by omega)
  have e2 : t.tmod n = t % n := Int.tmod_eq_emod_of_nonneg h0
  go_enter Try.func13, Try.ntmps13
  go_wp2
  go_region_with (go_at_call 17; refine (add_any b t _ (by exact hc) (by exact hf) h0 h1).mono ?_; rintro e w' ⟨rfl, rfl⟩)
  all_goals (try go_wp2)
  all_goals (go_ret; exact ⟨rfl, rfl⟩)
def turnsV (t n p : Int) : Int := if 0 ≤ p ∧ p < n then (t + n - 1 - p) / n else 0
theorem turnsV_yes {t n p : Int} (a : 0 ≤ p) (b : p < n) : turnsV t n p = (t + n - 1 - p) / n := if_pos ⟨a, b⟩
theorem turnsV_off {t n p : Int} (a : ¬ (0 ≤ p ∧ p < n)) : turnsV t n p = 0 := if_neg a
theorem ret1 {a b : Int} (h : a = b) : Ending.returned (.int .i64 a) = .returned (.int .i64 b) := by rw [h]

set_option maxHeartbeats 400000 in
theorem turns_any (b : Nat) (n t p : Int) (w : World) (hn : w.cell? ⟨b, 0, none⟩ = some (.int .i64 n)) (hc : w.cell? ⟨b, 1, none⟩ = some (.int .i64 t))
    (h0 : 0 ≤ t) (h1 : t ≤ 1099511627776) (h2 : 1 ≤ n) (h3 : n ≤ 16) :
    Calls Try.prog 14 #[.pointer (some ⟨b, 0, none⟩), .int .i64 p] w fun e w' => e = .returned (.int .i64 (turnsV t n p)) ∧ ∃ m, w' = w.drewN m := by
  by_cases h4 : 0 ≤ p
  · by_cases h5 : p < n
    · have hz : ¬ n = 0 := by omega
      have e1 : IntKind.i64.wrap (t + n) = t + n := IntWalk.i64_in _ (by omega)
      have e2 : IntKind.i64.wrap (t + n - 1) = t + n - 1 := IntWalk.i64_in _ (by omega)
      have e3 : IntKind.i64.wrap (t + n - 1 - p) = t + n - 1 - p := IntWalk.i64_in _ (by omega)
      have e4 : (t + n - 1 - p).tdiv n = (t + n - 1 - p) / n := Int.tdiv_eq_ediv_of_nonneg (by omega)
      have e5 : IntKind.i64.wrap ((t + n - 1 - p) / n) = (t + n - 1 - p) / n := by
        have a := Int.ediv_nonneg (show 0 ≤ t + n - 1 - p by omega) (show 0 ≤ n by omega)
        have c := Int.ediv_le_self n (show 0 ≤ t + n - 1 - p by omega)
        exact IntWalk.i64_in _ (by omega)
      go_enter Try.func14, Try.ntmps14
      go_wp2
      go_quiet ((go_at_call 12; exact Calls.quiet_of_same ((now_any b t _ (by exact hc)).mono fun _ _ h => ⟨h.1, h.2.symm⟩)))
      go_wp2
      go_ret
      exact ⟨ret1 (turnsV_yes h4 h5).symm, _, rfl⟩
    · have ho : ¬ (0 ≤ p ∧ p < n) := fun h => h5 h.2
      go_enter Try.func14, Try.ntmps14
      go_wp2
      go_ret
      exact ⟨ret1 (turnsV_off ho).symm, 0, rfl⟩
  · have ho : ¬ (0 ≤ p ∧ p < n) := fun h => h4 h.1
    go_enter Try.func14, Try.ntmps14
    go_wp2
    go_ret
    exact ⟨ret1 (turnsV_off ho).symm, 0, rfl⟩

end Go.Proofs.Ytobnoefhfidpmaa
