/-
  The walk of awake of layer 15: it returns true, and makes new blocks alone.
-/
import Derived.Test.YtehekapmbipagaaPlans
namespace Go.Proofs.Ytehekapmbipagaa
open Go.RowKit

def Got (n : Int) (m : Nat) (w : World) (e : Ending) (w' : World) : Prop :=
  ∃ g cap, e = .returned (.slice (some ⟨g, 0, none⟩) m cap) ∧ w.heap.size ≤ g ∧ g < w'.heap.size ∧ (∀ i, i < m → w'.cell? ⟨g, i, none⟩ = some (.int .i64 (due n i))) ∧ Below w.heap.size w w'

theorem got_of {n : Int} {m : Nat} (hm : plen n = m) {w w' : World} {e : Ending} (h : Planned n w e w') : Got n m w e w' := by
  obtain ⟨v, rfl, ⟨g, cap, rfl, hlo, hg, hc⟩, hb⟩ := h
  rw [hm] at hc
  rw [hm, planL_length]
  exact ⟨g, cap, rfl, hlo, hg, fun i hi => hc i _ (planL_at hi), hb⟩

theorem plan_got (n : Int) (m : Nat) (hm : plen n = m) (h : timeB n = true) (w : World) : Calls Try.prog 11 #[.int .i64 n] w (Got n m w) := (plan_yes n w h).mono fun _ _ k => got_of hm k
theorem rplan_got (n : Int) (m : Nat) (hm : plen n = m) (h : timeB n = true) (w : World) : Calls Try.prog 12 #[.int .i64 n] w (Got n m w) := (rplan_yes n w h).mono fun _ _ k => got_of hm k

/-- Block b holds a turn. -/
def Blk (w : World) (b : Nat) (x y z : Int) (T : TypeId) : Prop := w.heap[b]? = some (.cells #[.int .i64 x, .int .i64 y, .int .i64 z] T (0, 0))
theorem Blk.c0 {w : World} {b : Nat} {x y z : Int} {T : TypeId} (h : Blk w b x y z T) : w.cell? ⟨b, 0, none⟩ = some (.int .i64 x) := cell_of_heap h
theorem Blk.c1 {w : World} {b : Nat} {x y z : Int} {T : TypeId} (h : Blk w b x y z T) : w.cell? ⟨b, 1, none⟩ = some (.int .i64 y) := cell_of_heap h
theorem Blk.c2 {w : World} {b : Nat} {x y z : Int} {T : TypeId} (h : Blk w b x y z T) : w.cell? ⟨b, 2, none⟩ = some (.int .i64 z) := cell_of_heap h
theorem Blk.f {w : World} {b : Nat} {x y z : Int} {T : TypeId} (h : Blk w b x y z T) (i : Nat) : w.frozen? ⟨b, i, none⟩ = false := free_of_heap h
theorem Blk.lt {w : World} {b : Nat} {x y z : Int} {T : TypeId} (h : Blk w b x y z T) : b < w.heap.size := by unfold Blk at h; exact lt_of_block h
theorem Blk.made (w : World) (x y z : Int) (T : TypeId) : Blk (w.alloc (.cells #[.int .i64 x, .int .i64 y, .int .i64 z] T)) w.heap.size x y z T := heap_alloc_new w _
theorem Blk.alloc {w : World} {b : Nat} {x y z : Int} {T : TypeId} (h : Blk w b x y z T) (o : Obj) : Blk (w.alloc o) b x y z T := (Below.heap_alloc _ _ _ h.lt).trans h
theorem Blk.later {w w' : World} {b : Nat} {x y z : Int} {T : TypeId} (h : Blk w b x y z T) (k : Below w.heap.size w w') : Blk w' b x y z T := (k.block b h.lt).trans h

/-- A later world: what was there is as it was. -/
theorem Below.step {w a b : World} (h : Below w.heap.size w a) (k : Below a.heap.size a b) : Below w.heap.size w b := h.trans (k.mono h.size)
theorem Below.more {w a : World} (h : Below w.heap.size w a) (o : Obj) : Below w.heap.size w (a.alloc o) := h.alloc h.size o

theorem new_5 (w : World) : Calls Try.prog 10 #[.int .i64 5] w fun e w' => e = .returned (.tuple #[.agg #[.int .i64 5, .int .i64 0, .int .i64 5], .int .i64 0]) ∧ Below w.heap.size w w' := new_yes 5 w (by decide)
theorem failed_6 (w : World) : Calls Try.prog 8 #[.agg #[.int .i64 5, .int .i64 0, .int .i64 5], .int .i64 6] w fun e w' => e = .returned (.tuple #[.agg #[.int .i64 5, .int .i64 1, .int .i64 8], .bool false, .int .i64 0]) ∧ Below w.heap.size w w' :=
  failed_at 5 0 5 6 5 1 8 false 0 (by kernel_rfl) w
theorem failed_4 (w : World) : Calls Try.prog 8 #[.agg #[.int .i64 5, .int .i64 0, .int .i64 5], .int .i64 4] w fun e w' => e = .returned (.tuple #[.agg #[.int .i64 0, .int .i64 0, .int .i64 0], .bool false, .int .i64 9]) ∧ Below w.heap.size w w' :=
  failed_at 5 0 5 4 0 0 0 false 9 (by kernel_rfl) w
theorem ready_8 (w : World) : Calls Try.prog 15 #[.agg #[.int .i64 5, .int .i64 1, .int .i64 8], .int .i64 8] w fun e w' => e = .returned (.bool true) ∧ Below w.heap.size w w' := ready_is 5 1 8 8 true (by decide +kernel) w
theorem ready_7 (w : World) : Calls Try.prog 15 #[.agg #[.int .i64 5, .int .i64 1, .int .i64 8], .int .i64 7] w fun e w' => e = .returned (.bool false) ∧ Below w.heap.size w w' := ready_is 5 1 8 7 false (by decide +kernel) w
theorem right_8 (w : World) : Calls Try.prog 13 #[.agg #[.int .i64 5, .int .i64 1, .int .i64 8]] w fun e w' => e = .returned (.bool true) ∧ Below w.heap.size w w' := right_is 5 1 8 true (by decide +kernel) w

set_option maxHeartbeats 1600000 in
theorem awake_any (w : World) : Calls Try.prog 7 #[] w fun e w' => e = .returned (.bool true) ∧ Below w.heap.size w w' := by
  go_enter Try.func7, Try.ntmps7
  go_wp2_with fail
  refine (new_5 _).mono ?_
  rintro e w1 ⟨rfl, b1⟩
  go_wp2_with fail
  have t1 := Blk.made w1 5 0 5 23
  have q1 := Below.more b1 (.cells #[.int .i64 5, .int .i64 0, .int .i64 5] 23)
  refine (failed_6 _).mono ?_
  rintro e w2 ⟨rfl, b2⟩
  have t2 := t1.later b2
  have q2 := Below.step q1 b2
  have c0 := t2.c0
  have c1 := t2.c1
  have c2 := t2.c2
  have hl := t2.lt
  clear b1 b2 t1 q1
  go_wp2_with fail
  have u2 := Blk.made w2 5 1 8 23
  have t3 := t2.alloc (.cells #[.int .i64 5, .int .i64 1, .int .i64 8] 23)
  have q3 := Below.more q2 (.cells #[.int .i64 5, .int .i64 1, .int .i64 8] 23)
  refine (failed_4 _).mono ?_
  rintro e w3 ⟨rfl, b3⟩
  have t4 := (t3.later b3).alloc (.cells #[.int .i64 0, .int .i64 0, .int .i64 0] 23)
  have u4 := (u2.later b3).alloc (.cells #[.int .i64 0, .int .i64 0, .int .i64 0] 23)
  have q4 := Below.more (Below.step q3 b3) (.cells #[.int .i64 0, .int .i64 0, .int .i64 0] 23)
  clear b3 t2 u2 q2 t3 q3 c0 c1 c2 hl
  go_wp2_with fail
  refine (plan_got 0 5 (by decide) (by decide) _).mono ?_
  rintro e w5 ⟨g, cap, rfl, hlo, hg, hcl, b5⟩
  have t5 := t4.later b5
  have u5 := u4.later b5
  have q5 := Below.step q4 b5
  have c4 := hcl 4 (by omega)
  rw [due_4] at c4
  have tc0 := t5.c0
  have tc1 := t5.c1
  have tc2 := t5.c2
  have uc0 := u5.c0
  have uc1 := u5.c1
  have uc2 := u5.c2
  clear hcl b5 t4 u4 q4
  go_wp2_with fail
  refine (ready_8 _).mono ?_
  rintro e w6 ⟨rfl, b6⟩
  have u6 := u5.later b6
  have q6 := Below.step q5 b6
  have vc0 := u6.c0
  have vc1 := u6.c1
  have vc2 := u6.c2
  clear b6 u5 q5 tc0 tc1 tc2 uc0 uc1 uc2 t5
  go_wp2_with fail
  refine (ready_7 _).mono ?_
  rintro e w7 ⟨rfl, b7⟩
  have u7 := u6.later b7
  have q7 := Below.step q6 b7
  have xc0 := u7.c0
  have xc1 := u7.c1
  have xc2 := u7.c2
  clear b7 u6 q6 vc0 vc1 vc2
  go_wp2_with fail
  refine (right_8 _).mono ?_
  rintro e w8 ⟨rfl, b8⟩
  have q8 := Below.step q7 b8
  go_wp2_with fail
  go_ret
  exact ⟨rfl, q8⟩
end Go.Proofs.Ytehekapmbipagaa
