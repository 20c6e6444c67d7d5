/-
  The argument 'script', a slice of notes, opened to its cells.
-/
import Derived.Test.YtoldipjchcmonaaPair
import Derived.ProofKit
import Derived.OpenShut
import Derived.Carry
import Derived.Deep.Slices
import Derived.Deep.Strs
namespace Go.Proofs.Ytoldipjchcmonaa
open Go.ChangeShapes Go.WideShapes Go.ChangeAt Go.RowKit Go.Deep

theorem cellsOf3 : Try.prog.cellsOf 3 = 1 := by kernel_rfl
theorem cellsOf9 : Try.prog.cellsOf 9 = 1 := by kernel_rfl
theorem cellsOf30 : Try.prog.cellsOf 30 = 3 := by kernel_rfl
theorem cellsOf32 : Try.prog.cellsOf 32 = 4 := by kernel_rfl

theorem wf_i64 {x : Int} (h : (Lit.int .i64 x).wf = true) : -9223372036854775808 ≤ x ∧ x ≤ 9223372036854775807 := by
  have hmin : IntKind.i64.min = -9223372036854775808 := rfl
  have hmax : IntKind.i64.max = 9223372036854775807 := rfl
  simp only [Lit.wf, Bool.and_eq_true, decide_eq_true_eq, hmin, hmax] at h
  exact h

theorem note_cells {H : Type} {enc : TypeId × Value → H} {W : World} {base : Nat} {spare : Nat → Bool} {held : Bool} {n : Nat} {cs : List Value} {x : DataW H × List MemPlace} (hl : cs.length = 4) (h : DataW.trod enc Try.prog W base spare held n 32 cs = some x) :
    ∃ q e, cs = [.int .i64 q, .int .i64 (Ent.s e), .int .i64 (Ent.k e), .string (Ent.w e)] ∧ -9223372036854775808 ≤ q ∧ q ≤ 9223372036854775807 := by
  obtain ⟨y0, y1, m, _, _, h0, h1⟩ := trod_struct2 Try.underlying32 h
  match cs, hl with
  | [v0, v1, v2, v3], _ =>
    simp only [cellsOf3, cellsOf30, List.drop_zero, List.drop_succ_cons, List.take_succ_cons, List.take_zero] at h0 h1
    obtain ⟨z0, z1, z2, m2, _, _, g0, g1, g2⟩ := trod_struct3 Try.underlying30 h1
    simp only [cellsOf3, cellsOf9, List.drop_zero, List.drop_succ_cons, List.take_succ_cons, List.take_zero] at g0 g1 g2
    obtain ⟨q, e0, _, w0⟩ := DataW.trod_int Try.underlying3 h0
    obtain ⟨s, e1, _, w1⟩ := DataW.trod_int Try.underlying3 g0
    obtain ⟨k, e2, _, w2⟩ := DataW.trod_int Try.underlying3 g1
    obtain ⟨t, e3, _, _⟩ := DataW.trod_string Try.underlying9 g2
    simp only [List.cons.injEq, and_true] at e0 e1 e2 e3
    obtain ⟨q0, q1⟩ := wf_i64 w0
    exact ⟨q, ⟨s, k, t⟩, by rw [e0, e1, e2, e3], q0, q1⟩

theorem notes_of {H : Type} {enc : TypeId × Value → H} {W : World} {base : Nat} {held : Bool} {n : Nat} {x : DataW H × List MemPlace} {ao : Option Addr} {len cap : Nat} (h : DataW.trod enc Try.prog W base (fun _ => true) held n 22 [.slice ao len cap] = some x) : Notes W ao len := by
  rcases open_slice Try.underlying22 h with ⟨hcs, _⟩ | ⟨a, len', cap', m, n', D, Pl, hcs, hb, hl, hm, hmm, _, hi⟩
  · simp only [List.cons.injEq, Value.slice.injEq, and_true] at hcs
    obtain ⟨rfl, rfl, rfl⟩ := hcs
    intro i hi
    omega
  · simp only [List.cons.injEq, Value.slice.injEq, and_true] at hcs
    obtain ⟨rfl, rfl, rfl⟩ := hcs
    simp only [if_true] at hmm
    intro i hil
    have hspot : a.spot = none := by
      obtain ⟨cs, hc, ht⟩ := hi 0 (by omega)
      rw [cellsOf32] at hc
      obtain ⟨_, hlen, hat⟩ := World.cells?_some hc
      obtain ⟨q, e, rfl, q0, q1⟩ := note_cells hlen ht
      have c0 := hat 0 (by omega)
      simpa [Addr.add] using World.cell?_spot c0
    obtain ⟨cs, hc, ht⟩ := hi i (by omega)
    rw [cellsOf32] at hc
    obtain ⟨_, hlen, hat⟩ := World.cells?_some hc
    obtain ⟨q, e, rfl, q0, q1⟩ := note_cells hlen ht
    have c0 := hat 0 (by omega)
    have c1 := hat 1 (by omega)
    have c2 := hat 2 (by omega)
    have c3 := hat 3 (by omega)
    rw [add_add] at c0 c1 c2 c3
    obtain ⟨b, off, spot⟩ := a
    simp only at hspot
    subst hspot
    rw [add_plain] at c0 c1 c2 c3
    exact ⟨b, off, q, e, rfl, World.block_lt_of_cell? W _ c0, by simpa using c0, by simpa [Nat.add_assoc] using c1, by simpa [Nat.add_assoc] using c2, by simpa [Nat.add_assoc] using c3, q0, q1⟩
end Go.Proofs.Ytoldipjchcmonaa
