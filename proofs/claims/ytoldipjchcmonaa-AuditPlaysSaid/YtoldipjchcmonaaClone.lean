/-
  The walk of slices.Clone at entries: nil, or a new row of the same cells.
-/
import Derived.Test.YtoldipjchcmonaaFns
namespace Go.Proofs.Ytoldipjchcmonaa
open Go.RowKit

theorem Try.info30 : (Try.prog.info? 30).map (fun i => (i.zero, i.size, i.bytes)) = some (some (.agg #[.int .i64 0, .int .i64 0, .string ⟨#[]⟩]), 3, 32) := by kernel_rfl

set_option maxHeartbeats 400000 in
theorem clone_nil (w : World) : Calls Try.prog 17 #[.slice none 0 0] w fun e w' => e = .returned (.slice none 0 0) ∧ w = w' := by
  have q36 : ∀ (w : World) (a : Option Addr) (n c n' c' : Nat), (binOp .eql 36 (.slice a n c) (.slice none n' c')).run Try.prog w = .ok (.bool a.isNone) w := fun w a n c n' c' => Lib.run_eql_slice_nil w _ _ a n c n' c' Try.underlying36
  go_enter Try.func17, Try.ntmps17
  go_wp2
  go_ret
  exact ⟨rfl, rfl⟩

def Cloned (n : Nat) (xs : List Value) (w : World) (e : Ending) (w' : World) : Prop := ∃ g cap, e = .returned (.slice (some ⟨g, 0, none⟩) n cap) ∧ w'.ownsRow w.heap.size 30 3 (.slice (some ⟨g, 0, none⟩) n cap) n xs ∧ Below w.heap.size w w'

set_option maxHeartbeats 800000 in
theorem clone_some (g off n cap : Nat) (xs : List Value) (w : World) (hn : n ≤ 100000) (hx : xs.length = n * 3) (hc : ∀ i u, xs[i]? = some u → w.cell? ⟨g, off + i, none⟩ = some u) (h1 : ∀ u ∈ xs, u.oneCell' = true) (hz : 0 < n) :
    Calls Try.prog 17 #[.slice (some ⟨g, off, none⟩) n cap] w (Cloned n xs w) := by
  have q36 : ∀ (w : World) (a : Option Addr) (n c n' c' : Nat), (binOp .eql 36 (.slice a n c) (.slice none n' c')).run Try.prog w = .ok (.bool a.isNone) w := fun w a n c n' c' => Lib.run_eql_slice_nil w _ _ a n c n' c' Try.underlying36
  obtain ⟨i0, hi, hz0, hz1, hz2⟩ := info_parts Try.info30
  go_enter Try.func17, Try.ntmps17
  have hown : (w.alloc (.cells #[] 30)).ownsRow w.heap.size 30 3 (.slice (some ⟨w.heap.size, 0, none⟩) 0 0) 0 [] :=
    ⟨rfl, .inr ⟨w.heap.size, 0, #[], rfl, Nat.le_refl _, heap_alloc_new w _, Nat.le_refl _, Nat.zero_le _, rfl, rfl⟩⟩
  have hc' : ∀ j u, xs[j]? = some u → (w.alloc (.cells #[] 30)).cell? ((⟨g, off, none⟩ : Addr).add j) = some u := fun j u hu => by
    have h := hc j u hu
    have hg := World.block_lt_of_cell? w _ h
    rw [Addr.add_lit, World.cell?_alloc_lt _ _ _ (by exact hg)]
    exact h
  have HC := Lib.hid hc'
  have HO := Lib.hid h1
  clear hc hc' h1
  go_wp2_with (at_builtin; refine wpList_append_own _ rfl _ _ 36 rfl w.heap.size 30 i0 (.agg #[.int .i64 0, .int .i64 0, .string ⟨#[]⟩]) 3 32 Try.underlying36 hi hz0 hz1 hz2 rfl (by decide) _ _ _ rfl hown ⟨g, off, none⟩ n cap xs rfl hx HC.out HO.out (by unfold maxLen; omega) (by omega) (by simp) ?_)
  intro v' w1 hown' hgrow _
  obtain ⟨g', cap', rfl⟩ : ∃ g cap, v' = .slice (some ⟨g, 0, none⟩) n cap := by
    rcases hown'.2 with ⟨_, h0⟩ | ⟨g, cap, cur, hv, _⟩
    · omega
    · exact ⟨g, cap, hv⟩
  have hb := ((Below.refl w.heap.size w).alloc (Nat.le_refl _) (.cells #[] 30)).grown hgrow (by simp) (fun k hk => by simp [Value.ownBlock] at hk; omega)
  have HW := Lib.hid hown'
  clear hown' hgrow hown
  go_wp2_with fail
  go_ret
  exact ⟨g', cap', rfl, HW.out, hb⟩
end Go.Proofs.Ytoldipjchcmonaa
