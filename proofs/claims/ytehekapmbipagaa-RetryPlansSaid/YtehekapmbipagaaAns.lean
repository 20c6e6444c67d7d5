/-
  What Failed answers, as a plain function; the two blocks that it makes.
-/
import Derived.Test.YtehekapmbipagaaFns
namespace Go.Proofs.Ytehekapmbipagaa
open Go.RowKit

structure Ans where
  b : Int
  r : Int
  d : Int
  o : Bool
  e : Int

def pw (r : Int) : Int := if r = 0 then 2 else if r = 1 then 4 else if r = 2 then 8 else if r = 3 then 16 else 32
theorem pw_bd (r : Int) : 2 ≤ pw r ∧ pw r ≤ 32 := by
  unfold pw
  repeat' split
  all_goals omega

def ans (b r d n : Int) : Ans :=
  if rightB b r d = false ∨ timeB n = false then ⟨0, 0, 0, false, 1⟩
  else if n < d then ⟨0, 0, 0, false, 9⟩
  else if r = 4 ∨ 40 < n - b ∨ 1099511627776 < n + pw r then ⟨0, 0, 0, true, 0⟩
  else ⟨b, r + 1, n + pw r, false, 0⟩

def ansV (a : Ans) : Value := .tuple #[.agg #[.int .i64 a.b, .int .i64 a.r, .int .i64 a.d], .bool a.o, .int .i64 a.e]

theorem ans_range {b r d n : Int} (h : rightB b r d = false ∨ timeB n = false) : ans b r d n = ⟨0, 0, 0, false, 1⟩ := if_pos h
theorem ans_state {b r d n : Int} (h : rightB b r d = true) (k : timeB n = true) (g : n < d) : ans b r d n = ⟨0, 0, 0, false, 9⟩ := by
  unfold ans
  rw [if_neg (by simp [h, k]), if_pos g]
theorem ans_over {b r d n : Int} (h : rightB b r d = true) (k : timeB n = true) (g : ¬ n < d) (o : r = 4 ∨ 40 < n - b ∨ 1099511627776 < n + pw r) : ans b r d n = ⟨0, 0, 0, true, 0⟩ := by
  unfold ans
  rw [if_neg (by simp [h, k]), if_neg g, if_pos o]
theorem ans_next {b r d n : Int} (h : rightB b r d = true) (k : timeB n = true) (g : ¬ n < d) (o : ¬ (r = 4 ∨ 40 < n - b ∨ 1099511627776 < n + pw r)) : ans b r d n = ⟨b, r + 1, n + pw r, false, 0⟩ := by
  unfold ans
  rw [if_neg (by simp [h, k]), if_neg g, if_neg o]

theorem bcell {W w1 : World} (hb : Below W.heap.size W w1) : (∀ b o, b < W.heap.size → w1.cell? ⟨b, o, none⟩ = W.cell? ⟨b, o, none⟩) ∧ (∀ b o, b < W.heap.size → w1.frozen? ⟨b, o, none⟩ = W.frozen? ⟨b, o, none⟩) :=
  ⟨fun b o h => hb.cell (p := ⟨b, o, none⟩) h, fun b o h => hb.frozen (p := ⟨b, o, none⟩) h⟩

theorem retA {a : Ans} {v : Value} (h : ansV a = v) : Ending.returned v = .returned (ansV a) := by rw [h]

/-- The two new blocks of Failed, read in a later world. -/
structure Held (w w2 : World) (A B : Nat) (b r d : Int) : Prop where
  c0 : w2.cell? ⟨A, 0, none⟩ = some (.int .i64 b)
  c1 : w2.cell? ⟨A, 1, none⟩ = some (.int .i64 r)
  c2 : w2.cell? ⟨A, 2, none⟩ = some (.int .i64 d)
  z0 : w2.cell? ⟨B, 0, none⟩ = some (.int .i64 0)
  z1 : w2.cell? ⟨B, 1, none⟩ = some (.int .i64 0)
  z2 : w2.cell? ⟨B, 2, none⟩ = some (.int .i64 0)
  f1 : w2.frozen? ⟨A, 1, none⟩ = false
  f2 : w2.frozen? ⟨A, 2, none⟩ = false
  g0 : w2.frozen? ⟨B, 0, none⟩ = false
  g1 : w2.frozen? ⟨B, 1, none⟩ = false
  g2 : w2.frozen? ⟨B, 2, none⟩ = false
  bl : Below w.heap.size w w2

theorem held {w w2 : World} {b r d : Int} {T : TypeId}
    (h : Below (w.heap.size + 2) ((w.alloc (.cells #[.int .i64 b, .int .i64 r, .int .i64 d] T)).alloc (.cells #[.int .i64 0, .int .i64 0, .int .i64 0] T)) w2) : Held w w2 w.heap.size (w.heap.size + 1) b r d := by
  have cA : ∀ i, w2.cell? ⟨w.heap.size, i, none⟩ = (#[.int .i64 b, .int .i64 r, .int .i64 d] : Array Value)[i]? := fun i => (h.cell (p := ⟨w.heap.size, i, none⟩) (by simp)).trans (World.cell?_alloc2_first _ _ _ _)
  have cB : ∀ i, w2.cell? ⟨w.heap.size + 1, i, none⟩ = (#[.int .i64 0, .int .i64 0, .int .i64 0] : Array Value)[i]? := fun i => (h.cell (p := ⟨w.heap.size + 1, i, none⟩) (by simp)).trans (World.cell?_alloc2_new _ _ _ _)
  have fA : ∀ i, w2.frozen? ⟨w.heap.size, i, none⟩ = false := fun i => (h.frozen (p := ⟨w.heap.size, i, none⟩) (by simp)).trans (World.frozen?_alloc2_first _ _ _ _)
  have fB : ∀ i, w2.frozen? ⟨w.heap.size + 1, i, none⟩ = false := fun i => (h.frozen (p := ⟨w.heap.size + 1, i, none⟩) (by simp)).trans (World.frozen?_alloc2_new _ _ _ _)
  exact ⟨cA 0, cA 1, cA 2, cB 0, cB 1, cB 2, fA 1, fA 2, fB 0, fB 1, fB 2, (((Below.refl w.heap.size w).alloc (Nat.le_refl _) _).alloc (by simp) _).trans (h.mono (by omega))⟩

end Go.Proofs.Ytehekapmbipagaa
