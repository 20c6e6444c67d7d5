/-
  The clock as a block of memory; its methods by that word; the walk of awake: it returns true, and lays new blocks alone.
-/
import Derived.Test.YtobnoefhfidpmaaClock
import Derived.RowKit3
namespace Go.Proofs.Ytobnoefhfidpmaa
open Go.RowKit

/-- Block b is a clock of n parts at the step t. -/
def Clock (w : World) (b : Nat) (n t : Int) : Prop := w.heap[b]? = some (.cells #[.int .i64 n, .int .i64 t] 46 (0, 0))
/-- From w to w' block b alone was written. -/
def OnlyAt (b : Nat) (w w' : World) : Prop := w'.heap.size = w.heap.size ∧ (∀ k, k ≠ b → w'.heap[k]? = w.heap[k]?) ∧ ∀ W : World, W.heap.size ≤ b → Grown W w → Grown W w'

theorem cell_of_heap {w : World} {b i : Nat} {cs : Array Value} {t : TypeId} (h : w.heap[b]? = some (.cells cs t (0, 0))) : w.cell? ⟨b, i, none⟩ = cs[i]? := by
  simp [World.cell?, h]
theorem free_of_heap {w : World} {b i : Nat} {cs : Array Value} {t : TypeId} (h : w.heap[b]? = some (.cells cs t (0, 0))) : w.frozen? ⟨b, i, none⟩ = false := by
  simp [World.frozen?, h]

theorem Clock.c0 {w : World} {b : Nat} {n t : Int} (h : Clock w b n t) : w.cell? ⟨b, 0, none⟩ = some (.int .i64 n) := cell_of_heap h
theorem Clock.c1 {w : World} {b : Nat} {n t : Int} (h : Clock w b n t) : w.cell? ⟨b, 1, none⟩ = some (.int .i64 t) := cell_of_heap h
theorem Clock.f1 {w : World} {b : Nat} {n t : Int} (h : Clock w b n t) : w.frozen? ⟨b, 1, none⟩ = false := free_of_heap h
theorem Clock.lt {w : World} {b : Nat} {n t : Int} (h : Clock w b n t) : b < w.heap.size := by
  unfold Clock at h
  exact (Array.getElem?_eq_some_iff.1 h).1
theorem Clock.made (w : World) (n : Int) : Clock (w.alloc (.cells #[.int .i64 n, .int .i64 0] 46)) w.heap.size n 0 := (MapKept.heap_alloc w _).1
theorem Clock.set {w : World} {b : Nat} {n t : Int} (h : Clock w b n t) (u : Int) : Clock (w.setCell ⟨b, 1, none⟩ (.int .i64 u)).drew b n u := by
  show (w.setCell ⟨b, 1, none⟩ (.int .i64 u)).heap[b]? = _
  rw [heap_setCell_same w b 1 _ _ _ h]
  rfl
theorem Clock.drewN {w : World} {b : Nat} {n t : Int} (h : Clock w b n t) (m : Nat) : Clock (w.drewN m) b n t := h
theorem Clock.other {w w' : World} {b c : Nat} {n t : Int} (h : Clock w b n t) (o : OnlyAt c w w') (hb : b ≠ c) : Clock w' b n t := (o.2.1 b hb).trans h

theorem OnlyAt.set (w : World) (b i : Nat) (v : Value) : OnlyAt b w (w.setCell ⟨b, i, none⟩ v).drew :=
  ⟨by simp [World.drew, World.setCell], fun k hk => heap_setCell_other w ⟨b, i, none⟩ k v hk, fun _ hb hg => (hg.setCell hb v).drew⟩

theorem grown_drewN {W w : World} (h : Grown W w) (m : Nat) : Grown W (w.drewN m) := h

set_option maxHeartbeats 400000 in
theorem step_inv (b : Nat) (n t : Int) (w : World) (hk : Clock w b n t) (h0 : 0 ≤ t) (h1 : t ≤ 1099511627776) (h2 : 1 ≤ n) (h3 : n ≤ 16) :
    Calls Try.prog 13 #[.pointer (some ⟨b, 0, none⟩)] w fun e w' => e = .returned (.int .i64 (t % n)) ∧ Clock w' b n (t + 1) ∧ OnlyAt b w w' :=
  (step_any b n t w hk.c0 hk.c1 hk.f1 h0 h1 h2 h3).mono fun _ _ ⟨he, hw⟩ => ⟨he, hw ▸ hk.set _, hw ▸ OnlyAt.set w b 1 _⟩

theorem now_inv (b : Nat) (n t : Int) (w : World) (hk : Clock w b n t) :
    Calls Try.prog 12 #[.pointer (some ⟨b, 0, none⟩)] w fun e w' => e = .returned (.int .i64 t) ∧ w = w' := now_any b t w hk.c1

theorem turns_inv (b : Nat) (n t p : Int) (w : World) (hk : Clock w b n t) (h0 : 0 ≤ t) (h1 : t ≤ 1099511627776) (h2 : 1 ≤ n) (h3 : n ≤ 16) :
    Calls Try.prog 14 #[.pointer (some ⟨b, 0, none⟩), .int .i64 p] w fun e w' => e = .returned (.int .i64 (turnsV t n p)) ∧ ∃ m, w' = w.drewN m := turns_any b n t p w hk.c0 hk.c1 h0 h1 h2 h3

theorem new_inv (n : Int) (w : World) (h1 : 1 ≤ n) (h2 : n ≤ 16) :
    Calls Try.prog 11 #[.int .i64 n] w fun e w' => e = .returned (.tuple #[.pointer (some ⟨w.heap.size, 0, none⟩), .int .i64 0]) ∧ Clock w' w.heap.size n 0 ∧ Grown w w' ∧ w.heap.size + 1 = w'.heap.size :=
  (new_yes n w h1 h2).mono fun _ _ ⟨he, hw⟩ => ⟨he, hw ▸ Clock.made w n, hw ▸ (Grown.refl w).alloc _ _, by rw [← hw]; simp⟩

theorem of_53 (w : World) : Calls Try.prog 7 #[.int .i64 5, .int .i64 3] w fun e w' => e = .returned (.tuple #[.int .i64 2, .int .i64 0]) ∧ w = w' := of_any 5 3 w
theorem next_531 (w : World) : Calls Try.prog 9 #[.int .i64 5, .int .i64 3, .int .i64 1] w fun e w' => e = .returned (.tuple #[.int .i64 7, .int .i64 0]) ∧ w = w' := next_any 5 3 1 w
theorem next_533 (w : World) : Calls Try.prog 9 #[.int .i64 5, .int .i64 3, .int .i64 3] w fun e w' => e = .returned (.tuple #[.int .i64 0, .int .i64 4]) ∧ w = w' := next_any 5 3 3 w

set_option maxHeartbeats 800000 in
theorem awake_any (w : World) : Calls Try.prog 6 #[] w fun e w' => e = .returned (.bool true) ∧ Grown w w' := by
  go_enter Try.func6, Try.ntmps6
  go_wp2_with fail
  refine (of_53 _).mono ?_
  rintro e w' ⟨rfl, rfl⟩
  go_wp2_with fail
  refine (next_531 _).mono ?_
  rintro e w' ⟨rfl, rfl⟩
  go_wp2_with fail
  refine (next_533 _).mono ?_
  rintro e w' ⟨rfl, rfl⟩
  go_wp2_with fail
  refine (new_inv 2 _ (by omega) (by omega)).mono ?_
  rintro e w1 ⟨rfl, k1, g1, z1⟩
  go_wp2_with fail
  refine (step_inv _ 2 0 _ k1 (by omega) (by omega) (by omega) (by omega)).mono ?_
  rintro e w2 ⟨rfl, k2, o2⟩
  go_wp2_with fail
  refine (step_inv _ 2 1 _ k2 (by omega) (by omega) (by omega) (by omega)).mono ?_
  rintro e w3 ⟨rfl, k3, o3⟩
  go_wp2_with fail
  refine (step_inv _ 2 2 _ k3 (by omega) (by omega) (by omega) (by omega)).mono ?_
  rintro e w4 ⟨rfl, k4, o4⟩
  go_wp2_with fail
  refine (now_inv _ 2 3 _ k4).mono ?_
  rintro e w' ⟨rfl, rfl⟩
  go_wp2_with fail
  refine (turns_inv _ 2 3 0 _ k4 (by omega) (by omega) (by omega) (by omega)).mono ?_
  rintro e w' ⟨rfl, m, rfl⟩
  go_wp2_with fail
  refine (turns_inv _ 2 3 1 _ (k4.drewN m) (by omega) (by omega) (by omega) (by omega)).mono ?_
  rintro e w' ⟨rfl, m', rfl⟩
  go_wp2_with fail
  go_ret
  exact ⟨rfl, grown_drewN (grown_drewN (o4.2.2 _ (Nat.le_refl _) (o3.2.2 _ (Nat.le_refl _) (o2.2.2 _ (Nat.le_refl _) g1))) m) m'⟩
end Go.Proofs.Ytobnoefhfidpmaa
