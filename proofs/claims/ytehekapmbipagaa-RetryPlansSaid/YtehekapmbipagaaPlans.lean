/-
  The walks of retry.Plan and of the reference's Plan: each returns a new slice of the times 'planL n (plen n)', or nil.
-/
import Derived.Test.YtehekapmbipagaaPlan
import Derived.Deep.LoopGhost
namespace Go.Proofs.Ytehekapmbipagaa
open Go.RowKit

/-- The slice value v, in a block from lo on, reads as xs. -/
def Times (w : World) (v : Value) (xs : List Int) (lo : Nat) : Prop := ∃ g cap, v = .slice (some ⟨g, 0, none⟩) xs.length cap ∧ lo ≤ g ∧ g < w.heap.size ∧ ∀ i x, xs[i]? = some x → w.cell? ⟨g, i, none⟩ = some (.int .i64 x)
def Planned (n : Int) (w : World) (e : Ending) (w' : World) : Prop := ∃ v, e = .returned v ∧ Times w' v (planL n (plen n)) w.heap.size ∧ Below w.heap.size w w'

theorem Times.later {w w' : World} {v : Value} {xs : List Int} {lo : Nat} (h : Times w v xs lo) (hb : Below w.heap.size w w') : Times w' v xs lo := by
  obtain ⟨g, cap, hv, hl, hg, hc⟩ := h
  exact ⟨g, cap, hv, hl, Nat.lt_of_lt_of_le hg hb.size, fun i x hx => (hb.cell (p := ⟨g, i, none⟩) hg).trans (hc i x hx)⟩

theorem times_of {w : World} {v : Value} {xs : List Int} {B : Nat} (h : w.ownsRow B 3 1 v xs.length (xs.map (Value.int .i64))) (hx : 0 < xs.length) : Times w v xs B := by
  have h' := h
  rcases h.2 with ⟨_, h0⟩ | ⟨g, cap, cur, rfl, hg, hh, r⟩
  · omega
  · refine ⟨g, cap, rfl, hg, lt_of_block hh, fun i x hi => ?_⟩
    have hlt : i < xs.length := (List.getElem?_eq_some_iff.1 hi).1
    rw [h'.cellAt i (by omega)]
    simp [hi]

/-- How a round of Plan's loop begins: one more try, or none. -/
def More (n : Int) (T g : Nat) (m : Value) (w : World) : Prop :=
  (m = .bool true ∧ ∃ k : Nat, g + k = 6 ∧ k < plen n ∧ PInv w T n k (due n k) (planL n k)) ∨ (m = .bool false ∧ PInv w T 0 0 0 (planL n (plen n)))

set_option maxHeartbeats 1600000 in
theorem plan_yes (n : Int) (w : World) (h : timeB n = true) : Calls Try.prog 11 #[.int .i64 n] w (Planned n w) := by
  have H := Lib.hid h
  have hn := timeB_true.1 h
  clear h
  have hmf : ∀ (fn : Fn) (first cap : Array Value) (w : World), (Instr.makeFunc fn first cap).run Try.prog w = .ok (.func fn first cap) w := fun _ _ _ _ => rfl
  go_enter Try.func11, Try.ntmps11
  go_wp2_with fail
  refine (new_yes n w H.out).mono ?_
  rintro e w1 ⟨rfl, b1⟩
  go_wp2_with fail
  have p0 : PInv ((w1.alloc (.cells #[.int .i64 n, .int .i64 0, .int .i64 n] 23)).alloc (.cells #[.slice none 0 0] 33)) w1.heap.size n (0 : Nat) (due n 0) (planL n 0) := by
    rw [due_0]
    refine ⟨?_, .slice none 0 0, ?_, ⟨rfl, .inl ⟨rfl, rfl⟩⟩⟩
    · exact (Below.heap_alloc _ _ _ (by simp)).trans (heap_alloc_new w1 _)
    · exact heap_alloc2_new w1 _ _
  have q0 := ((b1.alloc (by have := b1.size; omega) (.cells #[.int .i64 n, .int .i64 0, .int .i64 n] 23)).alloc (by have := b1.size; simp; omega) (.cells #[.slice none 0 0] 33))
  have hs := b1.size
  have hl := (plen_bd n).1
  generalize w1.heap.size = T at *
  go_loopg [7] 6 (fun g m wr => More n T g m wr ∧ Below w.heap.size w wr)
  case atStart => exact ⟨.inl ⟨rfl, 0, rfl, hl, p0⟩, q0⟩
  case round =>
    obtain ⟨hm, hb⟩ := hrel
    clear p0 q0 b1
    rcases hm with ⟨rfl, k, hk, hkp, hi⟩ | ⟨rfl, hi⟩
    · have ha := ans_plan hn.1 hn.2 hkp
      have hk5 := Nat.lt_of_lt_of_le hkp (plen_bd n).2
      have HB := Lib.hid hb
      clear hb
      by_cases hc : k + 1 < plen n
      · rw [if_pos hc] at ha
        have ht := fun w hi => try_any T n k (due n k) (planL n k) w hi (by rw [planL_length]; omega) _ _ _ _ _ ha
        have HT := Lib.hid ht
        have HC := Lib.hid hc
        clear ha ht hc
        go_wp2_with fail
        refine (HT.out _ hi).mono ?_
        rintro e w4 ⟨rfl, hi', hb'⟩
        go_wp2_with fail
        go_roundg (gk - 1)
        case measure => omega
        case rel => exact ⟨.inl ⟨rfl, k + 1, by omega, HC.out, by rw [planL_succ]; exact hi'⟩, HB.out.trans (hb'.mono (by omega))⟩
      · rw [if_neg hc] at ha
        have ht := fun w hi => try_any T n k (due n k) (planL n k) w hi (by rw [planL_length]; omega) _ _ _ _ _ ha
        have HT := Lib.hid ht
        have HC := Lib.hid (show plen n = k + 1 by omega)
        clear ha ht hc
        go_wp2_with fail
        refine (HT.out _ hi).mono ?_
        rintro e w4 ⟨rfl, hi', hb'⟩
        go_wp2_with fail
        go_roundg (gk - 1)
        case measure => omega
        case rel => exact ⟨.inr ⟨rfl, by rw [HC.out, planL_succ]; exact hi'⟩, HB.out.trans (hb'.mono (by omega))⟩
    · obtain ⟨ht, v, ho, hown⟩ := hi
      have cO := cell_of_one ho
      have hz : 0 < (planL n (plen n)).length := by rw [planL_length]; exact hl
      have hv := times_of hown hz
      obtain ⟨g, cap, rfl, hlo, hg, hc⟩ := hv
      have HC := Lib.hid hc
      clear ht ho hown hc hz
      go_wp2_with fail
      go_ret
      exact ⟨_, rfl, ⟨g, cap, rfl, by omega, hg, HC.out⟩, hb⟩

set_option maxHeartbeats 400000 in
theorem plan_no (n : Int) (w : World) (h : timeB n = false) : Calls Try.prog 11 #[.int .i64 n] w fun e w' => e = .returned (.slice none 0 0) ∧ Below w.heap.size w w' := by
  have H := Lib.hid h
  clear h
  go_enter Try.func11, Try.ntmps11
  go_wp2_with fail
  refine (new_no n w H.out).mono ?_
  rintro e w1 ⟨rfl, b1⟩
  go_wp2_with fail
  go_ret
  exact ⟨rfl, b1.alloc b1.size _⟩

set_option maxHeartbeats 400000 in
theorem rplan_no (n : Int) (w : World) (h : timeB n = false) : Calls Try.prog 12 #[.int .i64 n] w fun e w' => e = .returned (.slice none 0 0) ∧ Below w.heap.size w w' := by
  have H := Lib.hid h
  clear h
  go_enter Try.func12, Try.ntmps12
  go_wp2_with fail
  refine (rtime_is n false H.out _).mono ?_
  rintro e w' ⟨rfl, rfl⟩
  go_wp2_with fail
  go_ret
  exact ⟨rfl, Below.refl _ _⟩

/-- How a round of the reference's loop begins. -/
structure RInv (n : Int) (w : World) (T k : Nat) (v : Value) : Prop where
  t : w.heap[T]? = some (.cells #[.int .i64 n, .int .i64 k, .int .i64 (due n k)] 25 (0, 0))
  o : w.ownsRow (T + 1) 3 1 v (planL n k).length ((planL n k).map (Value.int .i64))

set_option maxHeartbeats 1600000 in
theorem rplan_yes (n : Int) (w : World) (h : timeB n = true) : Calls Try.prog 12 #[.int .i64 n] w (Planned n w) := by
  have H := Lib.hid h
  have hn := timeB_true.1 h
  clear h
  obtain ⟨i0, hi, hz0, hz1, hz2⟩ := info_parts Try.info3
  go_enter Try.func12, Try.ntmps12
  go_wp2_with fail
  refine (rtime_is n true H.out _).mono ?_
  rintro e w' ⟨rfl, rfl⟩
  go_wp2_with fail
  have p0 : RInv n (w.alloc (.cells #[.int .i64 n, .int .i64 0, .int .i64 n] 25)) w.heap.size 0 (.slice none 0 0) := by
    refine ⟨?_, ⟨rfl, .inl ⟨rfl, rfl⟩⟩⟩
    rw [due_0]
    exact heap_alloc_new w _
  have q0 := (Below.refl w.heap.size w).alloc (Nat.le_refl _) (.cells #[.int .i64 n, .int .i64 0, .int .i64 n] 25)
  have hl := (plen_bd n).1
  obtain ⟨T, hT⟩ : ∃ T, T = w.heap.size := ⟨_, rfl⟩
  rw [← hT] at p0 q0 ⊢
  go_loopg [3] 6 (fun g v wr => ∃ k : Nat, g + k = 6 ∧ k < plen n ∧ RInv n wr T k v ∧ Below w.heap.size w wr)
  case atStart => exact ⟨0, rfl, hl, p0, hT ▸ q0⟩
  case round =>
    clear p0 q0
    obtain ⟨k, hk, hkp, ⟨ht, hown⟩, hb⟩ := hrel
    have HB := Lib.hid hb
    have HS := Lib.hid hT
    have hTle : w.heap.size ≤ T := by omega
    have hTlt : T < wr.heap.size := lt_of_block ht
    have hk5 := Nat.lt_of_lt_of_le hkp (plen_bd n).2
    have hlen : (planL n k).length ≤ 5 := by rw [planL_length]; omega
    have c0 : wr.cell? ⟨T, 0, none⟩ = some (.int .i64 n) := cell_of_heap ht
    have c1 : wr.cell? ⟨T, 1, none⟩ = some (.int .i64 k) := cell_of_heap ht
    have c2 : wr.cell? ⟨T, 2, none⟩ = some (.int .i64 (due n k)) := cell_of_heap ht
    clear hb hT
    go_wp2_with (at_builtin; refine wpList_append_own _ rfl _ _ 33 rfl (T + 1) 3 i0 (.int .i64 0) 1 8 Try.underlying33 hi hz0 hz1 hz2 rfl (by decide) _ _ _ rfl (hown.alloc _) ⟨wr.heap.size, 0, none⟩ 1 1 [.int .i64 (due n k)] rfl rfl ?c1 ?c2 ?c3 ?c4 ?c5 ?_)
    case c1 =>
      intro j u hj
      match j, hj with
      | 0, hj => simp at hj; subst hj; simp [Addr.add]
    case c2 => intro u hu; simp at hu; subst hu; rfl
    case c3 => unfold maxLen; omega
    case c4 => omega
    case c5 => simp; omega
    intro v' w1 hown' hgrow _
    have hs1 := hgrow.size
    simp only [World.size_alloc] at hs1
    have ht1 : w1.heap[T]? = some (.cells #[.int .i64 n, .int .i64 k, .int .i64 (due n k)] 25 (0, 0)) := (hgrow.block T (by simp; omega) (own_off hown (by omega))).trans ((Below.heap_alloc _ _ _ (by omega)).trans ht)
    have hb1 : Below w.heap.size w w1 := (HB.out.alloc HB.out.size _).grown hgrow (by simp; omega) (fun j hj => by
      rcases hown.2 with ⟨rfl, _⟩ | ⟨g, cap, cur, rfl, hg, _⟩
      · simp [Value.ownBlock] at hj
      · simp only [Value.ownBlock] at hj
        have := Option.some.inj hj
        omega)
    have hown1 : w1.ownsRow (T + 1) 3 1 v' (planL n (k + 1)).length ((planL n (k + 1)).map (Value.int .i64)) := by
      have e : (planL n (k + 1)).length = (planL n k).length + 1 := by rw [planL_length, planL_length]
      rw [e, planL_succ, List.map_append]
      exact hown'
    have HT1 := Lib.hid ht1
    have HW1 := Lib.hid hown1
    have HB1 := Lib.hid hb1
    have d0 : w1.cell? ⟨T, 0, none⟩ = some (.int .i64 n) := cell_of_heap ht1
    have d1 : w1.cell? ⟨T, 1, none⟩ = some (.int .i64 k) := cell_of_heap ht1
    have d2 : w1.cell? ⟨T, 2, none⟩ = some (.int .i64 (due n k)) := cell_of_heap ht1
    have ha := ans_plan hn.1 hn.2 hkp
    clear ht hown c0 c1 c2 hgrow hown' hb1 ht1 hown1
    by_cases hc : k + 1 < plen n
    · rw [if_pos hc] at ha
      have hf := fun w => rfailed_at n k (due n k) (due n k) _ _ _ _ _ ha w
      have HF := Lib.hid hf
      have HC := Lib.hid hc
      clear ha hf hc
      go_wp2_with fail
      refine (HF.out _).mono ?_
      rintro e w3 ⟨rfl, b3⟩
      have ht3 := (b3.block T (by omega)).trans HT1.out
      have hown3 := own_kept HW1.out (fun k hk _ => b3.block k hk)
      have hb3 := HB1.out.trans (b3.mono (by omega))
      have hs3 := b3.size
      have HT3 := Lib.hid ht3
      have HW3 := Lib.hid hown3
      have HB3 := Lib.hid hb3
      have e0 : w3.cell? ⟨T, 0, none⟩ = some (.int .i64 n) := cell_of_heap ht3
      have e1 : w3.cell? ⟨T, 1, none⟩ = some (.int .i64 k) := cell_of_heap ht3
      have e2 : w3.cell? ⟨T, 2, none⟩ = some (.int .i64 (due n k)) := cell_of_heap ht3
      have g0 : w3.frozen? ⟨T, 0, none⟩ = false := free_of_heap ht3
      have g1 : w3.frozen? ⟨T, 1, none⟩ = false := free_of_heap ht3
      have g2 : w3.frozen? ⟨T, 2, none⟩ = false := free_of_heap ht3
      have hT3 : T < w3.heap.size := by omega
      clear b3 ht3 hown3 hb3 d0 d1 d2
      go_wp2_with fail
      go_roundg (gk - 1)
      case measure => omega
      case rel =>
        refine ⟨k + 1, by omega, HC.out, ⟨?_, ?_⟩, ?_⟩
        · exact (Below.heap_alloc _ _ _ (by simp [World.setCell]; omega)).trans (store3 HT3.out)
        · exact own_kept HW3.out fun j hj hj2 => (Below.heap_alloc _ _ _ (by simp [World.setCell]; omega)).trans (set3_other w3 T j _ _ _ (by omega))
        · exact (((HB3.out.setCell (by exact hTle) _).setCell (by exact hTle) _).setCell (by exact hTle) _).alloc (by simp [World.setCell]; omega) _
    · rw [if_neg hc] at ha
      have hf := fun w => rfailed_at n k (due n k) (due n k) _ _ _ _ _ ha w
      have HF := Lib.hid hf
      have HC := Lib.hid (show plen n = k + 1 by omega)
      clear ha hf hc
      go_wp2_with fail
      refine (HF.out _).mono ?_
      rintro e w3 ⟨rfl, b3⟩
      have hown3 := own_kept HW1.out (fun k hk _ => b3.block k hk)
      have hb3 := HB1.out.trans (b3.mono (by omega))
      have hs3 := b3.size
      have HW3 := Lib.hid hown3
      have HB3 := Lib.hid hb3
      clear b3 hown3 hb3 d0 d1 d2
      go_wp2_with fail
      go_ret
      refine ⟨_, rfl, ?_, HB3.out.alloc (by omega) _⟩
      have hz : 0 < (planL n (k + 1)).length := by rw [planL_length]; omega
      obtain ⟨g, cap, hv, hlo, hg, hcl⟩ := times_of (HW3.out.alloc _) hz
      rw [HC.out]
      exact ⟨g, cap, hv, by omega, hg, hcl⟩
end Go.Proofs.Ytehekapmbipagaa
