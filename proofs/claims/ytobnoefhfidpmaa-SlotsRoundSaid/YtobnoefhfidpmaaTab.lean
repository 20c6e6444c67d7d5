/-
  The table of sixteen counts as a block of memory; how often a part had its turn, in numbers; the clock's methods at natural numbers.
-/
import Derived.Test.YtobnoefhfidpmaaAwake
namespace Go.Proofs.Ytobnoefhfidpmaa
open Go.RowKit

def tab (f : Nat → Nat) : Array Value := Array.ofFn (n := 16) fun i => .int .i64 (f i.1 : Int)
def Tab (w : World) (b : Nat) (f : Nat → Nat) : Prop := w.heap[b]? = some (.cells (tab f) 35 (0, 0))
def bump (f : Nat → Nat) (q : Nat) : Nat → Nat := fun j => if j = q then f q + 1 else f j

theorem tab_at {f : Nat → Nat} {j : Nat} (h : j < 16) : (tab f)[j]? = some (.int .i64 (f j : Int)) := by
  unfold tab
  rw [Array.getElem?_ofFn, dif_pos h]
theorem Tab.cell {w : World} {b j : Nat} {f : Nat → Nat} (h : Tab w b f) (hj : j < 16) : w.cell? ⟨b, j, none⟩ = some (.int .i64 (f j : Int)) := by
  rw [cell_of_heap h, tab_at hj]
theorem Tab.free {w : World} {b j : Nat} {f : Nat → Nat} (h : Tab w b f) : w.frozen? ⟨b, j, none⟩ = false := free_of_heap h
theorem Tab.lt {w : World} {b : Nat} {f : Nat → Nat} (h : Tab w b f) : b < w.heap.size := by
  unfold Tab at h
  exact (Array.getElem?_eq_some_iff.1 h).1
theorem Tab.drewN {w : World} {b : Nat} {f : Nat → Nat} (h : Tab w b f) (m : Nat) : Tab (w.drewN m) b f := h
theorem Tab.other {w w' : World} {b c : Nat} {f : Nat → Nat} (h : Tab w b f) (o : OnlyAt c w w') (hb : b ≠ c) : Tab w' b f := (o.2.1 b hb).trans h
theorem tab_set (f : Nat → Nat) (q : Nat) (v : Value) (hv : v = .int .i64 ((f q : Int) + 1)) : (tab f).setIfInBounds q v = tab (bump f q) := by
  subst hv
  unfold tab bump
  apply Array.ext
  · simp
  · intro i h1 h2
    by_cases e : q = i
    · subst e; simp
    · have e' : ¬ i = q := fun h => e h.symm
      rw [Array.getElem_setIfInBounds (by simpa using h1), if_neg e]
      simp [e']
theorem Tab.set {w : World} {b q : Nat} {f : Nat → Nat} (h : Tab w b f) : Tab (w.setCell ⟨b, q, none⟩ (.int .i64 ((f q : Int) + 1))) b (bump f q) := by
  unfold Tab
  rw [heap_setCell_same w b q _ _ _ h, tab_set f q _ rfl]
theorem Clock.setOther {w : World} {b c q : Nat} {n t : Int} {v : Value} (h : Clock w b n t) (hb : b ≠ c) : Clock (w.setCell ⟨c, q, none⟩ v) b n t := (heap_setCell_other w ⟨c, q, none⟩ b v hb).trans h
theorem tab_zero : tab (fun _ => 0) = #[.int .i64 0, .int .i64 0, .int .i64 0, .int .i64 0, .int .i64 0, .int .i64 0, .int .i64 0, .int .i64 0, .int .i64 0, .int .i64 0, .int .i64 0, .int .i64 0, .int .i64 0, .int .i64 0, .int .i64 0, .int .i64 0] := by
  rfl

/-! ### how often -/
def cnt (t n j : Nat) : Nat := (t + n - 1 - j) / n

theorem cnt_zero {n j : Nat} (h : j < n) : cnt 0 n j = 0 := Nat.div_eq_of_lt (by omega)
theorem small {n : Nat} (h1 : 1 ≤ n) (h2 : n ≤ 16) : n = 1 ∨ n = 2 ∨ n = 3 ∨ n = 4 ∨ n = 5 ∨ n = 6 ∨ n = 7 ∨ n = 8 ∨ n = 9 ∨ n = 10 ∨ n = 11 ∨ n = 12 ∨ n = 13 ∨ n = 14 ∨ n = 15 ∨ n = 16 := by omega
theorem cnt_succ {t n j : Nat} (h1 : 1 ≤ n) (h2 : n ≤ 16) (hj : j < n) : cnt (t + 1) n j = if j = t % n then cnt t n j + 1 else cnt t n j := by
  unfold cnt
  rcases small h1 h2 with rfl | rfl | rfl | rfl | rfl | rfl | rfl | rfl | rfl | rfl | rfl | rfl | rfl | rfl | rfl | rfl <;> split <;> omega
theorem cnt_near {t n j : Nat} (h1 : 1 ≤ n) (h2 : n ≤ 16) (hj : j < n) : cnt (t + 1) n j = t / n ∨ cnt (t + 1) n j = t / n + 1 := by
  unfold cnt
  rcases small h1 h2 with rfl | rfl | rfl | rfl | rfl | rfl | rfl | rfl | rfl | rfl | rfl | rfl | rfl | rfl | rfl | rfl <;> omega
theorem cnt_is {t n j : Nat} (hj : j < n) : turnsV t n j = ((cnt t n j : Nat) : Int) := by
  rw [turnsV_yes (by omega) (by omega)]
  unfold cnt
  rw [show (t : Int) + n - 1 - j = ((t + n - 1 - j : Nat) : Int) from by omega]
  rfl

/-! ### the methods at natural numbers -/
theorem of_nat (t n q : Nat) (w : World) (h1 : 1 ≤ n) (h2 : n ≤ 16) (h3 : t ≤ 1000000) (hq : t % n = q) :
    Calls Try.prog 7 #[.int .i64 t, .int .i64 n] w fun e w' => e = .returned (.tuple #[.int .i64 q, .int .i64 0]) ∧ w = w' := by
  have hc := of_any t n w
  have hg : good t n := ⟨by omega, by omega, by omega, by omega⟩
  rw [ofV_yes hg, ofE_yes hg, ← Int.natCast_emod, hq] at hc
  exact hc
theorem step_nat (b t n q : Nat) (w : World) (h1 : 1 ≤ n) (h2 : n ≤ 16) (h3 : t ≤ 1000000) (hq : t % n = q) (hk : Clock w b n t) :
    Calls Try.prog 13 #[.pointer (some ⟨b, 0, none⟩)] w fun e w' => e = .returned (.int .i64 q) ∧ Clock w' b n (t + 1 : Nat) ∧ OnlyAt b w w' := by
  have hc := step_inv b n t w hk (by omega) (by omega) (by omega) (by omega)
  rw [← Int.natCast_emod, hq] at hc
  exact hc
theorem turns_nat (b t n j v : Nat) (w : World) (h1 : 1 ≤ n) (h2 : n ≤ 16) (h3 : t ≤ 1000000) (hj : j < n) (hv : cnt t n j = v) (hk : Clock w b n t) :
    Calls Try.prog 14 #[.pointer (some ⟨b, 0, none⟩), .int .i64 j] w fun e w' => e = .returned (.int .i64 v) ∧ ∃ m, w' = w.drewN m := by
  have hc := turns_inv b n t j w hk (by omega) (by omega) (by omega) (by omega)
  rw [cnt_is hj, hv] at hc
  exact hc
theorem turns_none (b t n : Nat) (p : Int) (w : World) (h1 : 1 ≤ n) (h2 : n ≤ 16) (h3 : t ≤ 1000000) (hp : ¬ (0 ≤ p ∧ p < n)) (hk : Clock w b n t) :
    Calls Try.prog 14 #[.pointer (some ⟨b, 0, none⟩), .int .i64 p] w fun e w' => e = .returned (.int .i64 0) ∧ ∃ m, w' = w.drewN m := by
  have hc := turns_inv b n t p w hk (by omega) (by omega) (by omega) (by omega)
  rw [turnsV_off hp] at hc
  exact hc
end Go.Proofs.Ytobnoefhfidpmaa
