/-
  The walks of Book.Kind and of awake of layer 24.
-/
import Derived.Test.YtoldipjchcmonaaDel
namespace Go.Proofs.Ytoldipjchcmonaa
open Go.RowKit

set_option maxHeartbeats 1600000 in
theorem kind_any (B P : Nat) (c : Nat → Nat) (ls : Nat → List Ent) (F : Nat → Prop) (p kind : Int) (w : World) (h : Book w B P c ls F) (hP : P ≤ 16) :
    Calls Try.prog 13 #[.pointer (some ⟨B, 0, none⟩), .int .i64 p, .int .i64 kind] w fun e w' => e = .returned (.int .i64 (kc kind (lsOf P ls p) : Nat)) ∧ Below w.heap.size w w' := by
  have hlen : (lsOf P ls p).length ≤ 64 := by
    unfold lsOf
    by_cases e : isPart P p = true
    · rw [if_pos e]
      obtain ⟨h0, h1⟩ := isPart_true.1 e
      exact h.2 _ (by omega)
    · rw [if_neg e]; simp
  have hb := (Below.refl w.heap.size w).alloc (Nat.le_refl _) (.cells #[.int .i64 kind] 3)
  have hk : (w.alloc (.cells #[.int .i64 kind] 3)).cell? ⟨w.heap.size, 0, none⟩ = some (.int .i64 kind) := World.cell?_alloc_new (w := w) #[.int .i64 kind] 3 0
  have HB := Lib.hid hb
  have HH := Lib.hid (h.later hb)
  have HC := Lib.hid hk
  clear h hb hk
  obtain ⟨l, hl⟩ : ∃ l, lsOf P ls p = l := ⟨_, rfl⟩
  rw [hl] at hlen ⊢
  have HL := Lib.hid hl
  clear hl
  go_enter Try.func13, Try.ntmps13
  go_wp2_with fail
  refine (list_any B P c ls F p _ HH.out hP).mono ?_
  rintro e w1 ⟨v, rfl, hown, hb1⟩
  rw [HL.out] at hown
  have hc1 := keep1 hb1 HC.out
  have hq := HB.out.trans (hb1.mono (by simp))
  rcases hown.2 with ⟨rfl, h0⟩ | ⟨g, cap, cur, rfl, hg, _⟩
  · have hl0 : l = [] := List.length_eq_zero_iff.1 h0
    subst hl0
    have HQ := Lib.hid hq
    clear hown hb1 hc1 hq
    go_wp2_with fail
    refine (del_nil kind _ w.heap.size _ HQ.out.size).mono ?_
    rintro e w2 ⟨ao, cap, rfl, hb2⟩
    have HF := Lib.hid (HQ.out.trans hb2)
    clear hb2
    go_wp2_with fail
    go_ret
    exact ⟨rfl, HF.out⟩
  · have hgl : w.heap.size < g := by simp at hg; omega
    have HO := Lib.hid (own_base hown)
    have HC1 := Lib.hid hc1
    have HQ := Lib.hid hq
    clear hown hb1 hc1 hq
    go_wp2_with fail
    refine (del_some kind l g cap w.heap.size _ HO.out (by omega) HC1.out hgl).mono ?_
    rintro e w2 ⟨ao, cap', rfl, hb2⟩
    have HF := Lib.hid (HQ.out.trans (hb2.mono (Nat.le_of_lt hgl)))
    clear hb2
    go_wp2_with fail
    go_ret
    exact ⟨rfl, HF.out⟩

def x1 : Ent := ⟨3, 4, ⟨#[120]⟩⟩
def x0 : Ent := ⟨0, 0, ⟨#[]⟩⟩

/-- A list of entries of the call's own: its shape, its cells. -/
theorem listed_cells {w : World} {b : Nat} {v : Value} {l : List Ent} (h : w.ownsRow b 30 3 v l.length (cells3 l)) (hl : 0 < l.length) :
    ∃ g cap, v = .slice (some ⟨g, 0, none⟩) l.length cap ∧ b ≤ g ∧ g < w.heap.size ∧ ∀ i x, l[i]? = some x → w.cell? ⟨g, i * 3, none⟩ = some (.int .i64 x.s) ∧ w.cell? ⟨g, i * 3 + 1, none⟩ = some (.int .i64 x.k) ∧ w.cell? ⟨g, i * 3 + 2, none⟩ = some (.string x.w) := by
  have h' := h
  rcases h.2 with ⟨_, h0⟩ | ⟨g, cap, cur, rfl, hg, hh, _⟩
  · omega
  · refine ⟨g, cap, rfl, hg, lt_of_block hh, fun i x hx => ?_⟩
    obtain ⟨a0, a1, a2⟩ := cells3_at hx
    have hi := (List.getElem?_eq_some_iff.1 hx).1
    exact ⟨(h'.cellAt _ (by omega)).trans a0, (h'.cellAt _ (by omega)).trans a1, (h'.cellAt _ (by omega)).trans a2⟩

theorem note_at (B : Nat) (w : World) (h : Book w B 2 (fun _ => 0) (fun _ => []) (fun k => k = B)) (hB : B < w.heap.size) :
    Calls Try.prog 8 #[.pointer (some ⟨B, 0, none⟩), .int .i64 1, .agg #[.int .i64 3, .int .i64 4, .string ⟨#[120]⟩]] w fun e w' => e = .returned (.int .i64 0) ∧ Noted w B 2 (fun _ => 0) (fun _ => []) (fun k => k = B) 1 x1 w' :=
  note_yes B 2 _ _ _ 1 x1 _ h (fun k e => by rw [e]; exact hB) (by omega) (by omega) (by decide) (by simp)

set_option maxHeartbeats 1600000 in
theorem awake_any (w : World) : Calls Try.prog 6 #[] w fun e w' => e = .returned (.bool true) ∧ Below w.heap.size w w' := by
  go_enter Try.func6, Try.ntmps6
  go_wp2_with fail
  refine (new_yes 2 _ (by omega) (by omega)).mono ?_
  rintro e w1 ⟨rfl, h1, q1, z1⟩
  obtain ⟨B, hB⟩ : ∃ B, B = w.heap.size := ⟨_, rfl⟩
  rw [← hB] at h1 z1 ⊢
  have hwB : w.heap.size ≤ B := Nat.le_of_eq hB.symm
  clear hB
  go_wp2_with fail
  refine (note_at B _ h1 z1).mono ?_
  rintro e w2 ⟨rfl, h2, k2⟩
  have q2 := q1.trans (k2.below (B := w.heap.size) (fun k e => by rw [e]; exact hwB) q1.size)
  have H2 := Lib.hid h2
  have HQ2 := Lib.hid q2
  clear h1 h2 k2 q1 q2
  go_wp2_with fail
  refine (note_none B 2 _ _ _ 2 x0 _ H2.out (by decide)).mono ?_
  rintro e w3 ⟨rfl, b3⟩
  have H3 := Lib.hid (H2.out.later b3)
  have HQ3 := Lib.hid (HQ2.out.trans (b3.mono HQ2.out.size))
  clear b3 H2 HQ2
  go_wp2_with fail
  refine (list_any B 2 _ _ _ 1 _ H3.out (by omega)).mono ?_
  rintro e w4 ⟨v, rfl, hown, b4⟩
  obtain ⟨g, cap, rfl, -, hg, hcl⟩ := listed_cells (l := [x1]) hown (by simp)
  obtain ⟨c0, c1, c2⟩ := hcl 0 x1 rfl
  have d0 : w4.cell? ⟨g, 0, none⟩ = some (.int .i64 3) := c0
  have d1 : w4.cell? ⟨g, 1, none⟩ = some (.int .i64 4) := c1
  have d2 : w4.cell? ⟨g, 2, none⟩ = some (.string ⟨#[120]⟩) := c2
  have H4 := Lib.hid (H3.out.later b4)
  have HQ4 := Lib.hid (HQ3.out.trans (b4.mono HQ3.out.size))
  have hlen : [x1].length = 1 := rfl
  rw [hlen]
  clear hown b4 hcl c0 c1 c2 H3 HQ3 hlen
  go_wp2_with fail
  refine (new_no 0 _ (by omega)).mono ?_
  rintro e w' ⟨rfl, rfl⟩
  go_wp2_with fail
  refine (count_any B 2 _ _ _ 1 _ H4.out (by omega)).mono ?_
  rintro e w' ⟨rfl, rfl⟩
  have e1 : ((cOf 2 (upd (fun _ => 0) 1 (0 + 1)) 1 : Nat) : Int) = 1 := by decide
  rw [e1]
  go_wp2_with fail
  refine (kind_any B 2 _ _ _ 1 4 _ H4.out (by omega)).mono ?_
  rintro e w5 ⟨rfl, b5⟩
  have e2 : ((kc 4 (lsOf 2 (upd (fun _ => []) 1 (last64 ([] ++ [x1]))) 1) : Nat) : Int) = 1 := by rfl
  rw [e2]
  have H5 := Lib.hid (H4.out.later b5)
  have HQ5 := Lib.hid (HQ4.out.trans (b5.mono HQ4.out.size))
  clear b5 e1 e2
  go_wp2_with fail
  refine (count_any B 2 _ _ _ 0 _ H5.out (by omega)).mono ?_
  rintro e w' ⟨rfl, rfl⟩
  have e3 : ((cOf 2 (upd (fun _ => 0) 1 (0 + 1)) 0 : Nat) : Int) = 0 := by decide
  rw [e3]
  go_wp2_with fail
  go_ret
  exact ⟨rfl, HQ5.out⟩
end Go.Proofs.Ytoldipjchcmonaa
