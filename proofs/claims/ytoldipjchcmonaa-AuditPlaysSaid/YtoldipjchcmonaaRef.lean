/-
  The document's answer of layer 24: refAll, refList; the rows of its entries.
-/
import Derived.Test.YtoldipjchcmonaaPair
namespace Go.Proofs.Ytoldipjchcmonaa
open Go.RowKit
set_option linter.unusedSimpArgs false
attribute [local go_sem ↓] Go.wp_at_zero Go.wp_at_succ

structure Rec where
  p : Int
  e : Ent
def Rec.cells (x : Rec) : List Value := [.int .i64 x.p, .int .i64 x.e.s, .int .i64 x.e.k, .string x.e.w]
def cells4 (l : List Rec) : List Value := l.flatMap Rec.cells
theorem cells4_cons (x : Rec) (l : List Rec) : cells4 (x :: l) = x.cells ++ cells4 l := rfl
theorem cells4_append (a b : List Rec) : cells4 (a ++ b) = cells4 a ++ cells4 b := by simp [cells4]
theorem cells4_length (l : List Rec) : (cells4 l).length = l.length * 4 := by
  induction l with
  | nil => rfl
  | cons x l ih => rw [cells4_cons, List.length_append, ih]; simp [Rec.cells]; omega
theorem cells4_at {l : List Rec} {i : Nat} {x : Rec} (h : l[i]? = some x) :
    (cells4 l)[i * 4]? = some (.int .i64 x.p) ∧ (cells4 l)[i * 4 + 1]? = some (.int .i64 x.e.s) ∧ (cells4 l)[i * 4 + 2]? = some (.int .i64 x.e.k) ∧ (cells4 l)[i * 4 + 3]? = some (.string x.e.w) := by
  induction l generalizing i with
  | nil => simp at h
  | cons y l ih =>
    cases i with
    | zero =>
      simp only [List.getElem?_cons_zero, Option.some.injEq] at h
      subst h
      exact ⟨rfl, rfl, rfl, rfl⟩
    | succ i =>
      rw [List.getElem?_cons_succ] at h
      have e := ih h
      have f : ∀ j, (cells4 (y :: l))[(i + 1) * 4 + j]? = (cells4 l)[i * 4 + j]? := fun j => by
        rw [cells4_cons, List.getElem?_append_right (by simp [Rec.cells]; omega)]
        congr 1
        simp [Rec.cells]
        omega
      exact ⟨(f 0).trans e.1, (f 1).trans e.2.1, (f 2).trans e.2.2.1, (f 3).trans e.2.2.2⟩
theorem cells4_one (x : Rec) : cells4 [x] = x.cells := by simp [cells4]
theorem rec_one (x : Rec) : ∀ u ∈ x.cells, u.oneCell' = true := by
  intro u hu
  simp only [Rec.cells, List.mem_cons, List.not_mem_nil, or_false] at hu
  rcases hu with rfl | rfl | rfl | rfl <;> rfl

theorem Try.info35 : (Try.prog.info? 35).map (fun i => (i.zero, i.size, i.bytes)) = some (some (.agg #[.int .i64 0, .int .i64 0, .int .i64 0, .string ⟨#[]⟩]), 4, 40) := by kernel_rfl

theorem rec_news {w : World} {x : Rec} {T : TypeId} : ∀ j u, x.cells[j]? = some u → (w.alloc (.cells #[.int .i64 x.p, .int .i64 x.e.s, .int .i64 x.e.k, .string x.e.w] T)).cell? ((⟨w.heap.size, 0, none⟩ : Addr).add j) = some u := by
  intro j u hu
  rw [Addr.add_lit, Nat.zero_add, World.cell?_alloc_new]
  have e : (#[.int .i64 x.p, .int .i64 x.e.s, .int .i64 x.e.k, .string x.e.w] : Array Value) = x.cells.toArray := rfl
  rw [e]
  simpa using hu

/-- The entries of one part. -/
def fl (q : Int) (l : List Rec) : List Rec := l.filter fun x => x.p == q
theorem fl_snoc_yes {q : Int} {l : List Rec} {x : Rec} (h : x.p = q) : fl q (l ++ [x]) = fl q l ++ [x] := by
  unfold fl
  rw [List.filter_append, List.filter_cons_of_pos (by rw [h]; exact beq_self_eq_true _), List.filter_nil]
theorem fl_snoc_no {q : Int} {l : List Rec} {x : Rec} (h : x.p ≠ q) : fl q (l ++ [x]) = fl q l := by
  unfold fl
  rw [List.filter_append, List.filter_cons_of_neg (by simpa using h), List.filter_nil, List.append_nil]
theorem fl_length (q : Int) (l : List Rec) : (fl q l).length ≤ l.length := List.length_filter_le _ _
theorem take_snocR {l : List Rec} {k : Nat} {x : Rec} (h : l[k]? = some x) : l.take (k + 1) = l.take k ++ [x] := by
  rw [List.take_add_one, h]
  rfl

/-- The value of a row of the document's entries. -/
def Row4 (w : World) (v : Value) (l : List Rec) : Prop := ∃ ao cap, v = .slice ao l.length cap ∧ ∀ i x, l[i]? = some x → ∃ g o, ao = some ⟨g, o, none⟩ ∧ g < w.heap.size ∧
  w.cell? ⟨g, o + i * 4, none⟩ = some (.int .i64 x.p) ∧ w.cell? ⟨g, o + i * 4 + 1, none⟩ = some (.int .i64 x.e.s) ∧ w.cell? ⟨g, o + i * 4 + 2, none⟩ = some (.int .i64 x.e.k) ∧ w.cell? ⟨g, o + i * 4 + 3, none⟩ = some (.string x.e.w)
theorem row4_of {w : World} {b : Nat} {v : Value} {l : List Rec} (h : w.ownsRow b 35 4 v l.length (cells4 l)) : ∃ ao cap, v = .slice ao l.length cap ∧ ∀ i x, l[i]? = some x → ∃ g, ao = some ⟨g, 0, none⟩ ∧ b ≤ g ∧ g < w.heap.size ∧
    w.cell? ⟨g, i * 4, none⟩ = some (.int .i64 x.p) ∧ w.cell? ⟨g, i * 4 + 1, none⟩ = some (.int .i64 x.e.s) ∧ w.cell? ⟨g, i * 4 + 2, none⟩ = some (.int .i64 x.e.k) ∧ w.cell? ⟨g, i * 4 + 3, none⟩ = some (.string x.e.w) := by
  have h' := h
  rcases h.2 with ⟨hv, h0⟩ | ⟨g, cap, cur, rfl, hg, hh, _⟩
  · exact ⟨none, 0, by rw [h0]; exact hv, fun i x hx => by have := (List.getElem?_eq_some_iff.1 hx).1; omega⟩
  · refine ⟨_, cap, rfl, fun i x hx => ?_⟩
    obtain ⟨a0, a1, a2, a3⟩ := cells4_at hx
    have hi := (List.getElem?_eq_some_iff.1 hx).1
    exact ⟨g, rfl, hg, lt_of_block hh, (h'.cellAt _ (by omega)).trans a0, (h'.cellAt _ (by omega)).trans a1, (h'.cellAt _ (by omega)).trans a2, (h'.cellAt _ (by omega)).trans a3⟩

def Alled (q : Int) (all : List Rec) (w : World) (e : Ending) (w' : World) : Prop := ∃ v, e = .returned v ∧ w'.ownsRow w.heap.size 35 4 v (fl q all).length (cells4 (fl q all)) ∧ Below w.heap.size w w'

set_option maxRecDepth 100000 in
set_option maxHeartbeats 4000000 in
theorem all_any (b : Nat) (v : Value) (all : List Rec) (q : Int) (w : World) (h : w.ownsRow b 35 4 v all.length (cells4 all)) (hn : all.length ≤ 10000) :
    Calls Try.prog 12 #[v, .int .i64 q] w (Alled q all w) := by
  obtain ⟨i0, hi, hz0, hz1, hz2⟩ := info_parts Try.info35
  obtain ⟨ao, cap, rfl, hrow⟩ := row4_of h
  have HR := Lib.hid hrow
  have hn' : ((all.length : Nat) : Int) ≤ 10000 := by omega
  clear h hrow
  go_enter Try.func12, Try.ntmps12
  go_wp2_with fail
  go_loopw [5, 6] (fun o i wr => ∃ k : Nat, i = .int .i64 k ∧ k ≤ all.length ∧ wr.ownsRow w.heap.size 35 4 o (fl q (all.take k)).length (cells4 (fl q (all.take k))) ∧ Below w.heap.size w wr) (fun _ i _ => (all.length - intOf i).toNat)
  case atStart => exact ⟨0, rfl, Nat.zero_le _, World.ownsRow_nil _ _ _ _, Below.refl _ _⟩
  case round =>
    obtain ⟨k, rfl, hk, hown, hb⟩ := hrel
    have HO := Lib.hid hown
    have HB := Lib.hid hb
    clear hown hb
    have hk0 : (0 : Int) ≤ k := by omega
    by_cases hlk : (k : Int) < (all.length : Nat)
    · obtain ⟨x, hx⟩ : ∃ x, all[k]? = some x := ⟨all[k], List.getElem?_eq_getElem (by omega)⟩
      have HT := Lib.hid (take_snocR hx)
      obtain ⟨g, rfl, -, hg, c0, c1, c2, c3⟩ := HR.out k x hx
      have d0 := (HB.out.cell (p := ⟨g, _, none⟩) hg).trans c0
      have d1 := (HB.out.cell (p := ⟨g, _, none⟩) hg).trans c1
      have d2 := (HB.out.cell (p := ⟨g, _, none⟩) hg).trans c2
      have d3 := (HB.out.cell (p := ⟨g, _, none⟩) hg).trans c3
      clear hx c0 c1 c2 c3
      by_cases hq : x.p = q
      · subst hq
        have hlf := fl_length x.p (all.take k)
        rw [List.length_take] at hlf
        go_wp2_with (at_builtin; refine wpList_append_lies _ rfl _ _ _ rfl w.heap.size 35 i0 (.agg #[.int .i64 0, .int .i64 0, .int .i64 0, .string ⟨#[]⟩]) 4 40 Try.underlying28 hi hz0 hz1 hz2 rfl (by decide) _ _ (cells4 (fl x.p (all.take k))) rfl (HO.out.alloc _) ⟨wr.heap.size, 0, none⟩ 1 1 x.cells rfl rfl (by exact rec_news) (rec_one x) (by omega) (by unfold maxLen; omega) (by omega) (by have := HB.out.size; simp; omega) (wr.heap.size + 1) (by simp) ?_)
        intro g' cap' w1 hown hgrow hat hlt
        have HO1 := Lib.hid hown
        have HB1 := Lib.hid ((HB.out.alloc HB.out.size (.cells #[.int .i64 x.p, .int .i64 x.e.s, .int .i64 x.e.k, .string x.e.w] 35)).grown hgrow (by have := HB.out.size; simp; omega) (fun g e => (HO.out.lt g e).1))
        clear hown hgrow hat hlt
        go_wp2_with fail
        go_roundw
        case rel =>
          refine ⟨k + 1, by go_num, by omega, ?_, HB1.out⟩
          have ho := HO1.out
          rw [HT.out, fl_snoc_yes rfl, List.length_append, cells4_append, cells4_one]
          exact ho
        case measure => simp [intOf]; omega
      · have hq' : (x.p == q) = false := by simpa using hq
        go_wp2_with fail
        go_roundw
        case rel => exact ⟨k + 1, by go_num, by omega, by rw [HT.out, fl_snoc_no hq]; exact HO.out, HB.out⟩
        case measure => simp [intOf]; omega
    · go_wp2_with fail
      go_ret
      have hkk : k = all.length := by omega
      subst hkk
      have ho := HO.out
      rw [List.take_length] at ho
      exact ⟨_, rfl, ho, HB.out⟩

def last64R (l : List Rec) : List Rec := l.drop (l.length - 64)
def Tailed (q : Int) (all : List Rec) (w : World) (e : Ending) (w' : World) : Prop := ∃ v, e = .returned v ∧ Row4 w' v (last64R (fl q all)) ∧ Below w.heap.size w w'

set_option maxRecDepth 100000 in
set_option maxHeartbeats 4000000 in
theorem reflist_any (b : Nat) (v : Value) (all : List Rec) (q : Int) (w : World) (h : w.ownsRow b 35 4 v all.length (cells4 all)) (hn : all.length ≤ 10000) :
    Calls Try.prog 10 #[v, .int .i64 q] w (Tailed q all w) := by
  have HO := Lib.hid h
  clear h
  go_enter Try.func10, Try.ntmps10
  go_wp2_with fail
  refine (all_any b v all q _ HO.out hn).mono ?_
  rintro e w1 ⟨v1, rfl, hown, hb⟩
  have hlf := fl_length q all
  obtain ⟨f, hf⟩ : ∃ f, fl q all = f := ⟨_, rfl⟩
  unfold Tailed
  rw [hf] at hown hlf
  obtain ⟨ao, cap, rfl, hrow⟩ := row4_of hown
  have hcap : f.length ≤ cap ∧ cap ≤ maxLen := by
    rcases hown.2 with ⟨hv, h0⟩ | ⟨g, cap', cur, hv, _, _, h1, h2, _⟩
    · injection hv with _ e1 e2
      rw [h0, e2]
      exact ⟨Nat.le_refl _, Nat.zero_le _⟩
    · injection hv with _ _ e2
      rw [e2]
      exact ⟨h1, h2⟩
  have hnil : 0 < f.length → ∃ g, ao = some ⟨g, 0, none⟩ := fun h => by
    obtain ⟨x, hx⟩ : ∃ x, f[0]? = some x := ⟨f[0], List.getElem?_eq_getElem h⟩
    obtain ⟨g, hg, _⟩ := hrow 0 x hx
    exact ⟨g, hg⟩
  obtain ⟨hc1, hc2⟩ := hcap
  unfold maxLen at hc2
  have HR := Lib.hid hrow
  have HB := Lib.hid hb
  have HF := Lib.hid hf
  clear hown hrow hb hf
  by_cases h64 : (64 : Int) < (f.length : Nat)
  · obtain ⟨g, rfl⟩ := hnil (by omega)
    clear hnil
    go_wp2_with fail
    go_ret
    refine ⟨_, rfl, ?_, HB.out⟩
    rw [HF.out]
    refine ⟨some ⟨g, (f.length - 64) * 4, none⟩, cap - (f.length - 64), by unfold last64R; rw [List.length_drop]; first | done | rfl | (congr 1; omega), fun i x hx => ?_⟩
    unfold last64R at hx
    rw [List.getElem?_drop] at hx
    obtain ⟨g', hg, _, hl, c⟩ := HR.out _ x hx
    injection hg with hg
    injection hg with hg
    subst hg
    rw [Nat.add_mul] at c
    exact ⟨g, _, rfl, hl, c⟩
  · go_wp2_with fail
    go_ret
    refine ⟨_, rfl, ?_, HB.out⟩
    rw [HF.out]
    unfold last64R
    rw [show f.length - 64 = 0 by omega, List.drop_zero]
    refine ⟨_, _, rfl, fun i x hx => ?_⟩
    obtain ⟨g, hg, _, hl, c⟩ := HR.out i x hx
    exact ⟨g, 0, hg, hl, by simpa using c⟩
end Go.Proofs.Ytoldipjchcmonaa
