/-
  The walks of retry.New, of the closure in retry.Plan, of retry.Plan and of the reference's Plan: the times of the tries.
-/
import Derived.Test.YtehekapmbipagaaFailed
import Derived.Test.YtehekapmbipagaaRFailed
import Derived.OneCell
namespace Go.Proofs.Ytehekapmbipagaa
open Go.RowKit

/-! ### the times -/
def due (n : Int) (k : Nat) : Int := n + p2 (k + 1) - 2
def plen (n : Int) : Nat := if 1099511627776 < n + 2 then 1 else if 1099511627776 < n + 6 then 2 else if 1099511627776 < n + 14 then 3 else if 1099511627776 < n + 30 then 4 else 5
def planL (n : Int) (k : Nat) : List Int := (List.range k).map (due n)

theorem planL_length (n : Int) (k : Nat) : (planL n k).length = k := by simp [planL]
theorem planL_succ (n : Int) (k : Nat) : planL n (k + 1) = planL n k ++ [due n k] := by simp [planL, List.range_succ]
theorem planL_at {n : Int} {k i : Nat} (h : i < k) : (planL n k)[i]? = some (due n i) := by simp [planL, h]
theorem plen_bd (n : Int) : 1 ≤ plen n ∧ plen n ≤ 5 := by
  unfold plen
  repeat' split
  all_goals omega
theorem due_0 (n : Int) : due n 0 = n := by unfold due p2; omega
theorem due_1 (n : Int) : due n 1 = n + 2 := by unfold due p2; omega
theorem due_2 (n : Int) : due n 2 = n + 6 := by unfold due p2; omega
theorem due_3 (n : Int) : due n 3 = n + 14 := by unfold due p2; omega
theorem due_4 (n : Int) : due n 4 = n + 30 := by unfold due p2; omega
theorem five {k : Nat} (h : k < 5) : k = 0 ∨ k = 1 ∨ k = 2 ∨ k = 3 ∨ k = 4 := by omega
theorem due_bd {n : Int} {k : Nat} (h : k < 5) : n ≤ due n k ∧ due n k ≤ n + 30 := by
  obtain rfl | rfl | rfl | rfl | rfl := five h
  · rw [due_0]; omega
  · rw [due_1]; omega
  · rw [due_2]; omega
  · rw [due_3]; omega
  · rw [due_4]; omega
theorem due_top {n : Int} {k : Nat} (h : n ≤ 1099511627776) (hk : k < plen n) : due n k ≤ 1099511627776 := by
  have h5 : k < 5 := Nat.lt_of_lt_of_le hk (plen_bd n).2
  unfold plen at hk
  obtain rfl | rfl | rfl | rfl | rfl := five h5
  · rw [due_0]; omega
  · rw [due_1]; repeat' split at hk
    all_goals omega
  · rw [due_2]; repeat' split at hk
    all_goals omega
  · rw [due_3]; repeat' split at hk
    all_goals omega
  · rw [due_4]; repeat' split at hk
    all_goals omega
theorem ans_plan {n : Int} {k : Nat} (h0 : 0 ≤ n) (h1 : n ≤ 1099511627776) (hk : k < plen n) :
    ans n k (due n k) (due n k) = if k + 1 < plen n then ⟨n, (k + 1 : Nat), due n (k + 1), false, 0⟩ else ⟨0, 0, 0, true, 0⟩ := by
  have h5 : k < 5 := Nat.lt_of_lt_of_le hk (plen_bd n).2
  have ht := due_top h1 hk
  have hb := due_bd (n := n) h5
  have hr : rightB n k (due n k) = true := rightB_true.2 (by omega)
  have hm : timeB (due n k) = true := timeB_true.2 (by omega)
  have hs : due n (k + 1) = due n k + p2 (k + 1) := by
    have := p2_succ (k + 1)
    unfold due
    omega
  have hp := p2_pw (r := k) (by omega)
  by_cases hl : k + 1 < plen n
  · rw [if_pos hl]
    have h6 : k + 1 < 5 := Nat.lt_of_lt_of_le hl (plen_bd n).2
    have ht' := due_top h1 hl
    rw [ans_next hr hm (by omega) (by rw [← hp, ← hs]; omega), ← hp, ← hs]
    rfl
  · rw [if_neg hl]
    refine ans_over hr hm (by omega) ?_
    rw [← hp, ← hs]
    by_cases h4 : k = 4
    · exact .inl (by omega)
    · refine .inr (.inr ?_)
      have e : plen n = k + 1 := by omega
      clear hs hp hr hm ht hb
      unfold plen at e
      obtain rfl | rfl | rfl | rfl | rfl := five h5
      · rw [due_1]; repeat' split at e
        all_goals omega
      · rw [due_2]; repeat' split at e
        all_goals omega
      · rw [due_3]; repeat' split at e
        all_goals omega
      · rw [due_4]; repeat' split at e
        all_goals omega
      · omega

set_option maxHeartbeats 400000 in
theorem new_yes (n : Int) (w : World) (h : timeB n = true) :
    Calls Try.prog 10 #[.int .i64 n] w fun e w' => e = .returned (.tuple #[.agg #[.int .i64 n, .int .i64 0, .int .i64 n], .int .i64 0]) ∧ Below w.heap.size w w' := by
  have H := Lib.hid h
  clear h
  go_enter Try.func10, Try.ntmps10
  go_wp2_with fail
  refine (time_is n true H.out _).mono ?_
  rintro e w' ⟨rfl, rfl⟩
  go_wp2_with fail
  refine bodyPost_ret (v := .tuple #[.agg #[.int .i64 n, .int .i64 0, .int .i64 n], .int .i64 0]) (by simp [results, Try.results10, go_sem]) rfl ⟨rfl, ?_⟩
  exact (Below.refl _ _).alloc (Nat.le_refl _) _

set_option maxHeartbeats 400000 in
theorem new_no (n : Int) (w : World) (h : timeB n = false) :
    Calls Try.prog 10 #[.int .i64 n] w fun e w' => e = .returned (.tuple #[.agg #[.int .i64 0, .int .i64 0, .int .i64 0], .int .i64 1]) ∧ Below w.heap.size w w' := by
  have H := Lib.hid h
  clear h
  go_enter Try.func10, Try.ntmps10
  go_wp2_with fail
  refine (time_is n false H.out _).mono ?_
  rintro e w' ⟨rfl, rfl⟩
  go_wp2_with fail
  refine bodyPost_ret (v := .tuple #[.agg #[.int .i64 0, .int .i64 0, .int .i64 0], .int .i64 1]) (by simp [results, Try.results10, go_sem]) rfl ⟨rfl, ?_⟩
  exact (Below.refl _ _).alloc (Nat.le_refl _) _

/-! ### the closure -/
structure PInv (w : World) (T : Nat) (b r d : Int) (xs : List Int) : Prop where
  t : w.heap[T]? = some (.cells #[.int .i64 b, .int .i64 r, .int .i64 d] 23 (0, 0))
  o : ∃ v, w.heap[T + 1]? = some (.cells #[v] 33 (0, 0)) ∧ w.ownsRow (T + 2) 3 1 v xs.length (xs.map (Value.int .i64))

theorem Try.info3 : (Try.prog.info? 3).map (fun i => (i.zero, i.size, i.bytes)) = some (some (.int .i64 0), 1, 8) := by kernel_rfl

theorem cell_of_heap {w : World} {b i : Nat} {cs : Array Value} {t : TypeId} (h : w.heap[b]? = some (.cells cs t (0, 0))) : w.cell? ⟨b, i, none⟩ = cs[i]? := by
  simp [World.cell?, h]
theorem free_of_heap {w : World} {b i : Nat} {cs : Array Value} {t : TypeId} (h : w.heap[b]? = some (.cells cs t (0, 0))) : w.frozen? ⟨b, i, none⟩ = false := by
  simp [World.frozen?, h]

theorem failed_at (b r d n x y z : Int) (o : Bool) (c : Int) (h : ans b r d n = ⟨x, y, z, o, c⟩) (w : World) :
    Calls Try.prog 8 #[.agg #[.int .i64 b, .int .i64 r, .int .i64 d], .int .i64 n] w fun e w' => e = .returned (.tuple #[.agg #[.int .i64 x, .int .i64 y, .int .i64 z], .bool o, .int .i64 c]) ∧ Below w.heap.size w w' := failed_is b r d n _ h w
theorem rfailed_at (b r d n x y z : Int) (o : Bool) (c : Int) (h : ans b r d n = ⟨x, y, z, o, c⟩) (w : World) :
    Calls Try.prog 9 #[.agg #[.int .i64 b, .int .i64 r, .int .i64 d], .int .i64 n] w fun e w' => e = .returned (.tuple #[.agg #[.int .i64 x, .int .i64 y, .int .i64 z], .bool o, .int .i64 c]) ∧ Below w.heap.size w w' := rfailed_is b r d n _ h w

theorem store3 {w : World} {T : Nat} {x y z a b c : Value} {t : TypeId} (h : w.heap[T]? = some (.cells #[x, y, z] t (0, 0))) :
    (((w.setCell ⟨T, 0, none⟩ a).setCell ⟨T, 1, none⟩ b).setCell ⟨T, 2, none⟩ c).heap[T]? = some (.cells #[a, b, c] t (0, 0)) :=
  heap_setCell_same _ T 2 _ _ _ (heap_setCell_same _ T 1 _ _ _ (heap_setCell_same _ T 0 _ _ _ h))

theorem set3_other (w : World) (T k : Nat) (a b c : Value) (h : k ≠ T) :
    (((w.setCell ⟨T, 0, none⟩ a).setCell ⟨T, 1, none⟩ b).setCell ⟨T, 2, none⟩ c).heap[k]? = w.heap[k]? :=
  (heap_setCell_other _ ⟨T, 2, none⟩ k _ h).trans ((heap_setCell_other _ ⟨T, 1, none⟩ k _ h).trans (heap_setCell_other _ ⟨T, 0, none⟩ k _ h))

theorem own_off {w : World} {B : Nat} {v : Value} {n : Nat} {xs : List Value} (h : w.ownsRow B 3 1 v n xs) {k : Nat} (hk : k < B) : some k ≠ v.ownBlock := by
  rcases h.2 with ⟨rfl, _⟩ | ⟨g, cap, cur, rfl, hg, _⟩
  · simp [Value.ownBlock]
  · simp only [Value.ownBlock]
    intro e
    have := Option.some.inj e
    omega

theorem own_kept {w w' : World} {B : Nat} {v : Value} {n : Nat} {xs : List Value} (h : w.ownsRow B 3 1 v n xs) (hb : ∀ k, k < w.heap.size → B ≤ k → w'.heap[k]? = w.heap[k]?) : w'.ownsRow B 3 1 v n xs := by
  obtain ⟨h1, h2⟩ := h
  refine ⟨h1, ?_⟩
  rcases h2 with h2 | ⟨g, cap, cur, hv, hg, hh, r⟩
  · exact .inl h2
  · exact .inr ⟨g, cap, cur, hv, hg, (hb g (lt_of_block hh) hg).trans hh, r⟩

set_option maxHeartbeats 1600000 in
theorem try_any (T : Nat) (b r d : Int) (xs : List Int) (w : World) (h : PInv w T b r d xs) (hx : xs.length ≤ 100) (x y z : Int) (p : Bool) (c : Int) (hA : ans b r d d = ⟨x, y, z, p, c⟩) :
    Calls Try.prog 18 #[.pointer (some ⟨T + 1, 0, none⟩), .pointer (some ⟨T, 0, none⟩)] w fun e w' => e = .returned (.bool (!p)) ∧ PInv w' T x y z (xs ++ [d]) ∧ Below T w w' := by
  obtain ⟨ht, v, ho, hown⟩ := h
  obtain ⟨i0, hi, hz0, hz1, hz2⟩ := info_parts Try.info3
  have HA := Lib.hid hA
  clear hA
  have cO := cell_of_one ho
  have c0 : w.cell? ⟨T, 0, none⟩ = some (.int .i64 b) := cell_of_heap ht
  have c1 : w.cell? ⟨T, 1, none⟩ = some (.int .i64 r) := cell_of_heap ht
  have c2 : w.cell? ⟨T, 2, none⟩ = some (.int .i64 d) := cell_of_heap ht
  have hlt := lt_of_block ho
  go_enter Try.func18, Try.ntmps18
  go_wp2_with (at_builtin; refine wpList_append_own _ rfl _ _ 33 rfl (T + 2) 3 i0 (.int .i64 0) 1 8 Try.underlying33 hi hz0 hz1 hz2 rfl (by decide) _ _ _ rfl (hown.alloc _) ⟨w.heap.size, 0, none⟩ 1 1 [.int .i64 d] rfl rfl ?c1 ?c2 ?c3 ?c4 ?c5 ?_)
  case c1 =>
    intro j u hj
    match j, hj with
    | 0, hj => simp at hj; subst hj; simp [Addr.add]
  case c2 => intro u hu; simp at hu; subst hu; rfl
  case c3 => unfold maxLen; omega
  case c4 => omega
  case c5 => simp; omega
  intro v' w1 hown' hgrow _
  obtain ⟨g, cap, rfl⟩ : ∃ g cap, v' = .slice (some ⟨g, 0, none⟩) (xs.length + 1) cap := by
    rcases hown'.2 with ⟨_, h0⟩ | ⟨g, cap, cur, hv, _⟩
    · omega
    · exact ⟨g, cap, hv⟩
  have hs1 := hgrow.size
  simp only [World.size_alloc] at hs1
  have ht1 : w1.heap[T]? = some (.cells #[.int .i64 b, .int .i64 r, .int .i64 d] 23 (0, 0)) := (hgrow.block T (by simp; omega) (own_off hown (by omega))).trans ((Below.heap_alloc _ _ _ (by omega)).trans ht)
  have ho1 : w1.heap[T + 1]? = some (.cells #[v] 33 (0, 0)) := (hgrow.block (T + 1) (by simp; omega) (own_off hown (by omega))).trans ((Below.heap_alloc _ _ _ (by omega)).trans ho)
  have hb1 : Below T w w1 := ((Below.refl T w).alloc (by omega) _).grown hgrow (by simp; omega) (fun k hk => by
    rcases hown.2 with ⟨rfl, _⟩ | ⟨g, cap, cur, rfl, hg, _⟩
    · simp [Value.ownBlock] at hk
    · simp only [Value.ownBlock] at hk
      have := Option.some.inj hk
      omega)
  have ho2 := one_setCell (u := .slice (some ⟨g, 0, none⟩) (xs.length + 1) cap) ho1
  have ht2 := (Below.heap_setCell w1 ⟨T + 1, 0, none⟩ (.slice (some ⟨g, 0, none⟩) (xs.length + 1) cap) T (by show T ≠ T + 1; omega)).trans ht1
  have hown2 := ownsRow_setCell_other hown' (a := ⟨T + 1, 0, none⟩) (fun e => own_off hown' (k := T + 1) (by omega) e.symm) (.slice (some ⟨g, 0, none⟩) (xs.length + 1) cap)
  have hb2 := hb1.setCell (p := ⟨T + 1, 0, none⟩) (by show T ≤ T + 1; omega) (.slice (some ⟨g, 0, none⟩) (xs.length + 1) cap)
  have hs2 : (w1.setCell ⟨T + 1, 0, none⟩ (.slice (some ⟨g, 0, none⟩) (xs.length + 1) cap)).heap.size = w1.heap.size := by simp [World.setCell]
  have HS2 := Lib.hid hs2
  have HT1 := Lib.hid ht1
  have HT2 := Lib.hid ht2
  have HO2 := Lib.hid ho2
  have HW2 := Lib.hid hown2
  have HB2 := Lib.hid hb2
  have cO1 := cell_of_one ho1
  have fO1 := free_of_one ho1
  have d0 : w1.cell? ⟨T, 0, none⟩ = some (.int .i64 b) := cell_of_heap ht1
  have d1 : w1.cell? ⟨T, 1, none⟩ = some (.int .i64 r) := cell_of_heap ht1
  have d2 : w1.cell? ⟨T, 2, none⟩ = some (.int .i64 d) := cell_of_heap ht1
  clear ht ho hown c0 c1 c2 cO hgrow hown' hb1 ho2 ht2 hown2 hb2 hs2 ht1 ho1
  go_wp2_with fail
  refine (failed_at b r d d x y z p c HA.out _).mono ?_
  rintro e w3 ⟨rfl, b3⟩
  have ht3 := (b3.block T (by rw [HS2.out]; omega)).trans HT2.out
  have ho3 := (b3.block (T + 1) (by rw [HS2.out]; omega)).trans HO2.out
  have hown3 := own_kept HW2.out (fun k hk _ => b3.block k hk)
  have hb3 := HB2.out.trans (b3.mono (by rw [HS2.out]; omega))
  have hs3 : w1.heap.size ≤ w3.heap.size := by have := b3.size; rw [HS2.out] at this; exact this
  have HT3 := Lib.hid ht3
  have HO3 := Lib.hid ho3
  have HW3 := Lib.hid hown3
  have HB3 := Lib.hid hb3
  have e0 : w3.cell? ⟨T, 0, none⟩ = some (.int .i64 b) := cell_of_heap ht3
  have e1 : w3.cell? ⟨T, 1, none⟩ = some (.int .i64 r) := cell_of_heap ht3
  have e2 : w3.cell? ⟨T, 2, none⟩ = some (.int .i64 d) := cell_of_heap ht3
  have g0 : w3.frozen? ⟨T, 0, none⟩ = false := free_of_heap ht3
  have g1 : w3.frozen? ⟨T, 1, none⟩ = false := free_of_heap ht3
  have g2 : w3.frozen? ⟨T, 2, none⟩ = false := free_of_heap ht3
  have hT3 : T < w3.heap.size := by omega
  clear b3 ht3 ho3 hown3 hb3 d0 d1 d2 cO1 fO1
  go_wp2_with fail
  go_ret
  refine ⟨rfl, ⟨?_, .slice (some ⟨g, 0, none⟩) (xs.length + 1) cap, ?_, ?_⟩, ?_⟩
  · exact (Below.heap_alloc _ _ _ (by simp [World.setCell]; omega)).trans (store3 HT3.out)
  · exact (Below.heap_alloc _ _ _ (by simp [World.setCell]; omega)).trans ((set3_other w3 T (T + 1) _ _ _ (by omega)).trans HO3.out)
  · have h : (xs ++ [d]).length = xs.length + 1 := by simp
    rw [h, List.map_append]
    exact own_kept HW3.out fun k hk hk2 => (Below.heap_alloc _ _ _ (by simp [World.setCell]; omega)).trans (set3_other w3 T k _ _ _ (by omega))
  · exact (((HB3.out.setCell (by exact Nat.le_refl _) _).setCell (by exact Nat.le_refl _) _).setCell (by exact Nat.le_refl _) _).alloc (by simp [World.setCell]; omega) _
end Go.Proofs.Ytehekapmbipagaa
