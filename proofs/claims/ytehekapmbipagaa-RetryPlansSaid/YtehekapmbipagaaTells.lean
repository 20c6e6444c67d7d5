/-
  The walk of RetryTells: it returns true, and makes new blocks alone.
-/
import Derived.Test.YtehekapmbipagaaAwake
import Derived.Deep.RegionHeld3
import Derived.Deep.DrawnRows
namespace Go.Proofs.Ytehekapmbipagaa
open Go.RowKit

set_option linter.unusedSimpArgs false
attribute [local go_sem ↓] Go.wp_at_zero Go.wp_at_succ

/-- Four blocks that each hold a turn, in a world later than w4. -/
abbrev S4 (w4 : World) (A M U V : Nat) (b r d x y z : Int) (w' : World) : Prop :=
  Below w4.heap.size w4 w' ∧
  (w'.cell? ⟨A, 0, none⟩ = some (.int .i64 b) ∧ w'.cell? ⟨A, 1, none⟩ = some (.int .i64 r) ∧ w'.cell? ⟨A, 2, none⟩ = some (.int .i64 d)) ∧
  (w'.cell? ⟨M, 0, none⟩ = some (.int .i64 b) ∧ w'.cell? ⟨M, 1, none⟩ = some (.int .i64 r) ∧ w'.cell? ⟨M, 2, none⟩ = some (.int .i64 d)) ∧
  (w'.cell? ⟨U, 0, none⟩ = some (.int .i64 x) ∧ w'.cell? ⟨U, 1, none⟩ = some (.int .i64 y) ∧ w'.cell? ⟨U, 2, none⟩ = some (.int .i64 z)) ∧
  (w'.cell? ⟨V, 0, none⟩ = some (.int .i64 x) ∧ w'.cell? ⟨V, 1, none⟩ = some (.int .i64 y) ∧ w'.cell? ⟨V, 2, none⟩ = some (.int .i64 z))

theorem keep1 {w w' : World} (k : Below w.heap.size w w') {a : Addr} {v : Value} (h : w.cell? a = some v) : w'.cell? a = some v :=
  (k.cell (World.block_lt_of_cell? w a h)).trans h
theorem keepS {w4 w w' : World} {A M U V : Nat} {b r d x y z : Int} (k : Below w.heap.size w w') (h : S4 w4 A M U V b r d x y z w) : S4 w4 A M U V b r d x y z w' :=
  ⟨Below.step h.1 k, ⟨keep1 k h.2.1.1, keep1 k h.2.1.2.1, keep1 k h.2.1.2.2⟩, ⟨keep1 k h.2.2.1.1, keep1 k h.2.2.1.2.1, keep1 k h.2.2.1.2.2⟩,
    ⟨keep1 k h.2.2.2.1.1, keep1 k h.2.2.2.1.2.1, keep1 k h.2.2.2.1.2.2⟩, ⟨keep1 k h.2.2.2.2.1, keep1 k h.2.2.2.2.2.1, keep1 k h.2.2.2.2.2.2⟩⟩
theorem startS {w4 : World} {A M U V : Nat} {b r d x y z : Int} (hA : Blk w4 A b r d 23) (hM : Blk w4 M b r d 25) (hU : Blk w4 U x y z 23) (hV : Blk w4 V x y z 25) : S4 w4 A M U V b r d x y z w4.drew :=
  ⟨(Below.refl _ _).drew, ⟨hA.c0, hA.c1, hA.c2⟩, ⟨hM.c0, hM.c1, hM.c2⟩, ⟨hU.c0, hU.c1, hU.c2⟩, ⟨hV.c0, hV.c1, hV.c2⟩⟩

theorem below_dN {B : Nat} {a w : World} (h : Below B a w) (m : Nat) : Below B a (w.drewN m) := ⟨h.os, h.tape, h.output, h.size, h.block⟩

theorem endS {K : Act → World → Prop} {Q : Exit → Act → World → Prop} {a : Act} {w : World} (S : World → Prop) (h : S w) (k : S w → Exit.then K Q .normal a w) : Exit.then K Q .normal a w := k h

set_option maxRecDepth 100000 in
set_option maxHeartbeats 8000000 in
theorem tells_no (b r d n : Int) (w : World) (ht : timeB n = false) :
    Calls Try.prog 3 #[.agg #[.int .i64 b, .int .i64 r, .int .i64 d], .int .i64 n] w fun e w' => e = .returned (.bool true) ∧ Below w.heap.size w w' := by
  obtain ⟨⟨x, y, z, o, c⟩, hA⟩ : ∃ A, ans b r d n = A := ⟨_, rfl⟩
  have HA := Lib.hid hA
  have HT := Lib.hid ht
  clear hA ht
  go_enter Try.func3, Try.ntmps3
  go_wp2_with fail
  have t1 := Blk.made w b r d 23
  have q1 := Below.more (Below.refl w.heap.size w) (.cells #[.int .i64 b, .int .i64 r, .int .i64 d] 23)
  refine (awake_any _).mono ?_
  rintro e w1 ⟨rfl, b1⟩
  have t2 := t1.later b1
  have q2 := Below.step q1 b1
  generalize w.heap.size = A at t2 ⊢
  have c0 := t2.c0
  have c1 := t2.c1
  have c2 := t2.c2
  have hl := t2.lt
  clear b1 t1 q1
  go_wp2_with fail
  have t3 := t2.alloc (.cells #[.int .i64 b, .int .i64 r, .int .i64 d] 25)
  have m3 := Blk.made w1 b r d 25
  have q3 := Below.more q2 (.cells #[.int .i64 b, .int .i64 r, .int .i64 d] 25)
  generalize w1.heap.size = M at m3 ⊢
  refine (failed_at b r d n x y z o c HA.out _).mono ?_
  rintro e w2 ⟨rfl, b2⟩
  have t4 := t3.later b2
  have m4 := m3.later b2
  have q4 := Below.step q3 b2
  have hm0 := m4.c0
  have hm1 := m4.c1
  have hm2 := m4.c2
  have hml := m4.lt
  clear b2 t2 t3 m3 q2 q3 c0 c1 c2 hl
  go_wp2_with fail
  have u4 := Blk.made w2 x y z 23
  have t5 := t4.alloc (.cells #[.int .i64 x, .int .i64 y, .int .i64 z] 23)
  have m5 := m4.alloc (.cells #[.int .i64 x, .int .i64 y, .int .i64 z] 23)
  have q5 := Below.more q4 (.cells #[.int .i64 x, .int .i64 y, .int .i64 z] 23)
  generalize w2.heap.size = U at u4 ⊢
  refine (rfailed_at b r d n x y z o c HA.out _).mono ?_
  rintro e w3 ⟨rfl, b3⟩
  have t6 := (t5.later b3).alloc (.cells #[.int .i64 x, .int .i64 y, .int .i64 z] 25)
  have m6 := (m5.later b3).alloc (.cells #[.int .i64 x, .int .i64 y, .int .i64 z] 25)
  have u6 := (u4.later b3).alloc (.cells #[.int .i64 x, .int .i64 y, .int .i64 z] 25)
  have v6 := Blk.made w3 x y z 25
  have q6 := Below.more (Below.step q5 b3) (.cells #[.int .i64 x, .int .i64 y, .int .i64 z] 25)
  clear b3 t4 t5 m4 m5 u4 q4 q5 hm0 hm1 hm2 hml
  go_wp2_with fail
  generalize w3.heap.size = V at v6 ⊢
  refine (new_no n _ HT.out).mono ?_
  rintro e w4 ⟨rfl, b4⟩
  have t7 := (t6.later b4).alloc (.cells #[.int .i64 0, .int .i64 0, .int .i64 0] 23)
  have m7 := (m6.later b4).alloc (.cells #[.int .i64 0, .int .i64 0, .int .i64 0] 23)
  have u7 := (u6.later b4).alloc (.cells #[.int .i64 0, .int .i64 0, .int .i64 0] 23)
  have v7 := (v6.later b4).alloc (.cells #[.int .i64 0, .int .i64 0, .int .i64 0] 23)
  have n7 := Blk.made w4 0 0 0 23
  have q7 := Below.more (Below.step q6 b4) (.cells #[.int .i64 0, .int .i64 0, .int .i64 0] 23)
  clear b4 t6 m6 u6 v6 q6
  go_wp2_with fail
  generalize w4.heap.size = N at n7 ⊢
  refine (plan_no n _ HT.out).mono ?_
  rintro e w5 ⟨rfl, b5⟩
  go_wp2_with fail
  refine (rplan_no n _ HT.out).mono ?_
  rintro e w6 ⟨rfl, b6⟩
  have b7 := Below.step b5 b6
  have t8 := t7.later b7
  have m8 := m7.later b7
  have u8 := u7.later b7
  have v8 := v7.later b7
  have n8 := n7.later b7
  have q8 := Below.step q7 b7
  have HS := Lib.hid (startS t8 m8 u8 v8)
  clear b5 b6 b7 t7 m7 u7 v7 n7 q7 t8 m8 u8 v8
  go_wp2_with fail
  cases hr : rightB b r d
  · have HR := Lib.hid hr
    have HD := Lib.hid (show readyB b r d n = false by simp [readyB, hr])
    clear hr
    refine wp_region_held_drew (S := fun w' => S4 w6 A M U V b r d x y z w') (by kernel_rfl) HS.out (fun hHeld => ?_)
    refine wpAnyH_take (i := 0) (v := ?_) (by simp only [List.getElem?_toArray, List.getElem?_cons_succ, List.getElem?_cons_zero]; rfl) (by kernel_rfl) (by kernel_rfl) (by kernel_rfl) (by exact fun _ _ _ h => h) (.inl ⟨by rfl, ?_⟩) (by assumption) ?_
    rotate_left
    · (intro w hSw; (try dsimp only at hSw); go_simp; first | done | with_reducible rfl)
    simp only [Act.put, List.setIfInBounds_toArray, List.set_cons_zero, List.set_cons_succ]
    refine wpAnyH_take (i := 1) (v := ?_) (by simp only [List.getElem?_toArray, List.getElem?_cons_succ, List.getElem?_cons_zero]; rfl) (by kernel_rfl) (by kernel_rfl) (by kernel_rfl) (by exact fun _ _ _ h => h) (.inl ⟨by rfl, ?_⟩) (by assumption) ?_
    rotate_left
    · (intro w hSw; (try dsimp only at hSw); go_simp; first | done | with_reducible rfl)
    simp only [Act.put, List.setIfInBounds_toArray, List.set_cons_zero, List.set_cons_succ]
    refine wpAnyH_take (i := 2) (v := ?_) (by simp only [List.getElem?_toArray, List.getElem?_cons_succ, List.getElem?_cons_zero]; rfl) (by kernel_rfl) (by kernel_rfl) (by kernel_rfl) (by exact fun _ _ _ h => h) (.inl ⟨by rfl, ?_⟩) (by assumption) ?_
    rotate_left
    · (intro w hSw; (try dsimp only at hSw); go_simp; first | done | with_reducible rfl)
    simp only [Act.put, List.setIfInBounds_toArray, List.set_cons_zero, List.set_cons_succ]
    refine wpAnyH_take (i := 3) (v := ?_) (by simp only [List.getElem?_toArray, List.getElem?_cons_succ, List.getElem?_cons_zero]; rfl) (by kernel_rfl) (by kernel_rfl) (by kernel_rfl) (by exact fun _ _ _ h => h) (.inl ⟨by rfl, ?_⟩) (by assumption) ?_
    rotate_left
    · (intro w hSw; (try dsimp only at hSw); go_simp; first | done | with_reducible rfl)
    simp only [Act.put, List.setIfInBounds_toArray, List.set_cons_zero, List.set_cons_succ]
    refine wpAnyH_take (i := 4) (v := ?_) (by simp only [List.getElem?_toArray, List.getElem?_cons_succ, List.getElem?_cons_zero]; rfl) (by kernel_rfl) (by kernel_rfl) (by kernel_rfl) (by exact fun _ _ _ h => h) (.inl ⟨by rfl, ?_⟩) (by assumption) ?_
    rotate_left
    · (intro w hSw; (try dsimp only at hSw); go_simp; first | done | with_reducible rfl)
    simp only [Act.put, List.setIfInBounds_toArray, List.set_cons_zero, List.set_cons_succ]
    refine wpAnyH_take (i := 5) (v := ?_) (by simp only [List.getElem?_toArray, List.getElem?_cons_succ, List.getElem?_cons_zero]; rfl) (by kernel_rfl) (by kernel_rfl) (by kernel_rfl) (by exact fun _ _ _ h => h) (.inl ⟨by rfl, ?_⟩) (by assumption) ?_
    rotate_left
    · (intro w hSw; (try dsimp only at hSw); go_simp; first | done | with_reducible rfl)
    simp only [Act.put, List.setIfInBounds_toArray, List.set_cons_zero, List.set_cons_succ]
    refine wpAnyH_take (i := 6) (v := ?_) (by simp only [List.getElem?_toArray, List.getElem?_cons_succ, List.getElem?_cons_zero]; rfl) (by kernel_rfl) (by kernel_rfl) (by kernel_rfl) (by exact fun _ _ _ h => h) (.inl ⟨by rfl, ?_⟩) (by assumption) ?_
    rotate_left
    · (intro w hSw; (try dsimp only at hSw); go_simp; first | done | with_reducible rfl)
    simp only [Act.put, List.setIfInBounds_toArray, List.set_cons_zero, List.set_cons_succ]
    refine wpAnyH_take (i := 7) (v := ?_) (by simp only [List.getElem?_toArray, List.getElem?_cons_succ, List.getElem?_cons_zero]; rfl) (by kernel_rfl) (by kernel_rfl) (by kernel_rfl) (by exact fun _ _ _ h => h) (.inl ⟨by rfl, ?_⟩) (by assumption) ?_
    rotate_left
    · (intro w hSw; (try dsimp only at hSw); go_simp; first | done | with_reducible rfl)
    simp only [Act.put, List.setIfInBounds_toArray, List.set_cons_zero, List.set_cons_succ]
    refine wpAnyH_take (i := 8) (v := ?_) (by simp only [List.getElem?_toArray, List.getElem?_cons_succ, List.getElem?_cons_zero]; rfl) (by kernel_rfl) (by kernel_rfl) (by kernel_rfl) (by exact fun _ _ _ h => h) (.inl ⟨by rfl, ?_⟩) (by assumption) ?_
    rotate_left
    · (intro w hSw; (try dsimp only at hSw); go_simp; first | done | with_reducible rfl)
    simp only [Act.put, List.setIfInBounds_toArray, List.set_cons_zero, List.set_cons_succ]
    refine wpAnyH_take (i := 9) (v := ?_) (by simp only [List.getElem?_toArray, List.getElem?_cons_succ, List.getElem?_cons_zero]; rfl) (by kernel_rfl) (by kernel_rfl) (by kernel_rfl) (by exact fun _ _ _ h => h) (.inl ⟨by rfl, ?_⟩) (by assumption) ?_
    rotate_left
    · (intro w hSw; (try dsimp only at hSw); go_simp; first | done | with_reducible rfl)
    simp only [Act.put, List.setIfInBounds_toArray, List.set_cons_zero, List.set_cons_succ]
    refine wpAnyH_take (i := 10) (v := ?_) (by simp only [List.getElem?_toArray, List.getElem?_cons_succ, List.getElem?_cons_zero]; rfl) (by kernel_rfl) (by kernel_rfl) (by kernel_rfl) (by exact fun _ _ _ h => h) (.inl ⟨by rfl, ?_⟩) (by assumption) ?_
    rotate_left
    · (intro w hSw; (try dsimp only at hSw); go_simp; first | done | with_reducible rfl)
    simp only [Act.put, List.setIfInBounds_toArray, List.set_cons_zero, List.set_cons_succ]
    refine wpAnyH_take (i := 11) (v := ?_) (by simp only [List.getElem?_toArray, List.getElem?_cons_succ, List.getElem?_cons_zero]; rfl) (by kernel_rfl) (by kernel_rfl) (by kernel_rfl) (by exact fun _ _ _ h => h) (.inl ⟨by rfl, ?_⟩) (by assumption) ?_
    rotate_left
    · (intro w hSw; (try dsimp only at hSw); go_simp; first | done | with_reducible rfl)
    simp only [Act.put, List.setIfInBounds_toArray, List.set_cons_zero, List.set_cons_succ]
    refine wpAnyH_take (i := 12) (v := ?_) (by simp only [List.getElem?_toArray, List.getElem?_cons_succ, List.getElem?_cons_zero]; rfl) (by kernel_rfl) (by kernel_rfl) (by kernel_rfl) (by exact fun _ _ _ h => h) (.inl ⟨by rfl, ?_⟩) (by assumption) ?_
    rotate_left
    · (intro w hSw; (try dsimp only at hSw); go_simp; first | done | with_reducible rfl)
    simp only [Act.put, List.setIfInBounds_toArray, List.set_cons_zero, List.set_cons_succ]
    refine wpAnyH_take (i := 13) (v := ?_) (by simp only [List.getElem?_toArray, List.getElem?_cons_succ, List.getElem?_cons_zero]; rfl) (by kernel_rfl) (by kernel_rfl) (by kernel_rfl) (by exact fun _ _ _ h => h) (.inl ⟨by rfl, ?_⟩) (by assumption) ?_
    rotate_left
    · (intro w hSw; (try dsimp only at hSw); go_simp; first | done | with_reducible rfl)
    simp only [Act.put, List.setIfInBounds_toArray, List.set_cons_zero, List.set_cons_succ]
    refine wpAnyH_take (i := 14) (v := ?_) (by simp only [List.getElem?_toArray, List.getElem?_cons_succ, List.getElem?_cons_zero]; rfl) (by kernel_rfl) (by kernel_rfl) (by kernel_rfl) (by exact fun _ _ _ h => h) (.inl ⟨by rfl, ?_⟩) (by assumption) ?_
    rotate_left
    · (intro w hSw; (try dsimp only at hSw); go_simp; first | done | with_reducible rfl)
    simp only [Act.put, List.setIfInBounds_toArray, List.set_cons_zero, List.set_cons_succ]
    refine wpAnyH_take (i := 16) (v := ?_) (by simp only [List.getElem?_toArray, List.getElem?_cons_succ, List.getElem?_cons_zero]; rfl) (by kernel_rfl) (by kernel_rfl) (by kernel_rfl) (by exact fun _ _ _ h => h) (.inl ⟨by rfl, ?_⟩) (by assumption) ?_
    rotate_left
    · (intro w hSw; (try dsimp only at hSw); go_simp; first | done | with_reducible rfl)
    simp only [Act.put, List.setIfInBounds_toArray, List.set_cons_zero, List.set_cons_succ]
    refine wpAnyH_ready (rs := [15]) (by kernel_rfl) (by simp) ?_
    refine AllReadyH.cons (o := _) (by simp only [List.getElem?_toArray, List.getElem?_cons_succ, List.getElem?_cons_zero]; rfl) (fun K hK => ?_) AllReadyH.nil
    go_simp
    refine (right_is b r d false HR.out _).mono ?_; rintro e w' ⟨rfl, hk⟩
    go_wp2_with fail
    refine hK.out _ _ ?_ (fun hHeld => ?_)
    · exact keepS hk (by assumption)
    clear hK K
    try simp only [Act.put, List.setIfInBounds_toArray, List.set_cons_zero, List.set_cons_succ]
    refine wpAnyH_ready (rs := [17]) (by kernel_rfl) (by simp) ?_
    refine AllReadyH.cons (o := _) (by simp only [List.getElem?_toArray, List.getElem?_cons_succ, List.getElem?_cons_zero]; rfl) (fun K hK => ?_) AllReadyH.nil
    go_simp
    refine (rright_is b r d false HR.out _).mono ?_; rintro e w' ⟨rfl, hk⟩
    go_wp2_with fail
    refine hK.out _ _ ?_ (fun hHeld => ?_)
    · exact keepS hk (by assumption)
    clear hK K
    try simp only [Act.put, List.setIfInBounds_toArray, List.set_cons_zero, List.set_cons_succ]
    refine wpAnyH_take (i := 18) (v := ?_) (by simp only [List.getElem?_toArray, List.getElem?_cons_succ, List.getElem?_cons_zero]; rfl) (by kernel_rfl) (by kernel_rfl) (by kernel_rfl) (by exact fun _ _ _ h => h) (.inl ⟨by rfl, ?_⟩) (by assumption) ?_
    rotate_left
    · (intro w hSw; (try dsimp only at hSw); go_simp; first | done | with_reducible rfl)
    simp only [Act.put, List.setIfInBounds_toArray, List.set_cons_zero, List.set_cons_succ]
    refine wpAnyH_take (i := 19) (v := ?_) (by simp only [List.getElem?_toArray, List.getElem?_cons_succ, List.getElem?_cons_zero]; rfl) (by kernel_rfl) (by kernel_rfl) (by kernel_rfl) (by exact fun _ _ _ h => h) (.inl ⟨by rfl, ?_⟩) (by assumption) ?_
    rotate_left
    · (intro w hSw; (try dsimp only at hSw); go_simp; first | done | with_reducible rfl)
    simp only [Act.put, List.setIfInBounds_toArray, List.set_cons_zero, List.set_cons_succ]
    refine wpAnyH_take (i := 20) (v := ?_) (by simp only [List.getElem?_toArray, List.getElem?_cons_succ, List.getElem?_cons_zero]; rfl) (by kernel_rfl) (by kernel_rfl) (by kernel_rfl) (by exact fun _ _ _ h => h) (.inl ⟨by rfl, ?_⟩) (by assumption) ?_
    rotate_left
    · (intro w hSw; (try dsimp only at hSw); go_simp; first | done | with_reducible rfl)
    simp only [Act.put, List.setIfInBounds_toArray, List.set_cons_zero, List.set_cons_succ]
    refine wpAnyH_take (i := 21) (v := ?_) (by simp only [List.getElem?_toArray, List.getElem?_cons_succ, List.getElem?_cons_zero]; rfl) (by kernel_rfl) (by kernel_rfl) (by kernel_rfl) (by exact fun _ _ _ h => h) (.inl ⟨by rfl, ?_⟩) (by assumption) ?_
    rotate_left
    · (intro w hSw; (try dsimp only at hSw); go_simp; first | done | with_reducible rfl)
    simp only [Act.put, List.setIfInBounds_toArray, List.set_cons_zero, List.set_cons_succ]
    refine wpAnyH_take (i := 22) (v := ?_) (by simp only [List.getElem?_toArray, List.getElem?_cons_succ, List.getElem?_cons_zero]; rfl) (by kernel_rfl) (by kernel_rfl) (by kernel_rfl) (by exact fun _ _ _ h => h) (.inl ⟨by rfl, ?_⟩) (by assumption) ?_
    rotate_left
    · (intro w hSw; (try dsimp only at hSw); go_simp; first | done | with_reducible rfl)
    simp only [Act.put, List.setIfInBounds_toArray, List.set_cons_zero, List.set_cons_succ]
    refine wpAnyH_take (i := 24) (v := ?_) (by simp only [List.getElem?_toArray, List.getElem?_cons_succ, List.getElem?_cons_zero]; rfl) (by kernel_rfl) (by kernel_rfl) (by kernel_rfl) (by exact fun _ _ _ h => h) (.inl ⟨by rfl, ?_⟩) (by assumption) ?_
    rotate_left
    · (intro w hSw; (try dsimp only at hSw); go_simp; first | done | with_reducible rfl)
    simp only [Act.put, List.setIfInBounds_toArray, List.set_cons_zero, List.set_cons_succ]
    refine wpAnyH_ready (rs := [23]) (by kernel_rfl) (by simp) ?_
    refine AllReadyH.cons (o := _) (by simp only [List.getElem?_toArray, List.getElem?_cons_succ, List.getElem?_cons_zero]; rfl) (fun K hK => ?_) AllReadyH.nil
    go_simp
    refine (ready_is b r d n false HD.out _).mono ?_; rintro e w' ⟨rfl, hk⟩
    go_wp2_with fail
    refine hK.out _ _ ?_ (fun hHeld => ?_)
    · exact keepS hk (by assumption)
    clear hK K
    try simp only [Act.put, List.setIfInBounds_toArray, List.set_cons_zero, List.set_cons_succ]
    refine wpAnyH_ready (rs := [25]) (by kernel_rfl) (by simp) ?_
    refine AllReadyH.cons (o := _) (by simp only [List.getElem?_toArray, List.getElem?_cons_succ, List.getElem?_cons_zero]; rfl) (fun K hK => ?_) AllReadyH.nil
    go_simp
    refine (rright_is b r d false HR.out _).mono ?_; rintro e w' ⟨rfl, hk⟩
    go_wp2_with fail
    refine hK.out _ _ ?_ (fun hHeld => ?_)
    · exact keepS hk (by assumption)
    clear hK K
    try simp only [Act.put, List.setIfInBounds_toArray, List.set_cons_zero, List.set_cons_succ]
    refine wpAnyH_take (i := 26) (v := ?_) (by simp only [List.getElem?_toArray, List.getElem?_cons_succ, List.getElem?_cons_zero]; rfl) (by kernel_rfl) (by kernel_rfl) (by kernel_rfl) (by exact fun _ _ _ h => h) (.inl ⟨by rfl, ?_⟩) (by assumption) ?_
    rotate_left
    · (intro w hSw; (try dsimp only at hSw); go_simp; first | done | with_reducible rfl)
    simp only [Act.put, List.setIfInBounds_toArray, List.set_cons_zero, List.set_cons_succ]
    refine wpAnyH_take (i := 27) (v := undef) (by simp only [List.getElem?_toArray, List.getElem?_cons_succ, List.getElem?_cons_zero]; rfl) (by kernel_rfl) (by kernel_rfl) (by kernel_rfl) (by exact fun _ _ _ h => h) (.inr ⟨by rfl, rfl⟩) (by assumption) ?_
    simp only [Act.put, List.setIfInBounds_toArray, List.set_cons_zero, List.set_cons_succ]
    refine wpAnyH_take (i := 28) (v := undef) (by simp only [List.getElem?_toArray, List.getElem?_cons_succ, List.getElem?_cons_zero]; rfl) (by kernel_rfl) (by kernel_rfl) (by kernel_rfl) (by exact fun _ _ _ h => h) (.inr ⟨by rfl, rfl⟩) (by assumption) ?_
    simp only [Act.put, List.setIfInBounds_toArray, List.set_cons_zero, List.set_cons_succ]
    refine wpAnyH_take (i := 29) (v := undef) (by simp only [List.getElem?_toArray, List.getElem?_cons_succ, List.getElem?_cons_zero]; rfl) (by kernel_rfl) (by kernel_rfl) (by kernel_rfl) (by exact fun _ _ _ h => h) (.inr ⟨by rfl, rfl⟩) (by assumption) ?_
    simp only [Act.put, List.setIfInBounds_toArray, List.set_cons_zero, List.set_cons_succ]
    refine wpAnyH_take (i := 30) (v := undef) (by simp only [List.getElem?_toArray, List.getElem?_cons_succ, List.getElem?_cons_zero]; rfl) (by kernel_rfl) (by kernel_rfl) (by kernel_rfl) (by exact fun _ _ _ h => h) (.inr ⟨by rfl, rfl⟩) (by assumption) ?_
    simp only [Act.put, List.setIfInBounds_toArray, List.set_cons_zero, List.set_cons_succ]
    refine wpAnyH_take (i := 31) (v := ?_) (by simp only [List.getElem?_toArray, List.getElem?_cons_succ, List.getElem?_cons_zero]; rfl) (by kernel_rfl) (by kernel_rfl) (by kernel_rfl) (by exact fun _ _ _ h => h) (.inl ⟨by rfl, ?_⟩) (by assumption) ?_
    rotate_left
    · (intro w hSw; (try dsimp only at hSw); go_simp; first | done | with_reducible rfl)
    simp only [Act.put, List.setIfInBounds_toArray, List.set_cons_zero, List.set_cons_succ]
    refine wpAnyH_take (i := 32) (v := ?_) (by simp only [List.getElem?_toArray, List.getElem?_cons_succ, List.getElem?_cons_zero]; rfl) (by kernel_rfl) (by kernel_rfl) (by kernel_rfl) (by exact fun _ _ _ h => h) (.inl ⟨by rfl, ?_⟩) (by assumption) ?_
    rotate_left
    · (intro w hSw; (try dsimp only at hSw); go_simp; first | done | with_reducible rfl)
    simp only [Act.put, List.setIfInBounds_toArray, List.set_cons_zero, List.set_cons_succ]
    refine wpAnyH_take (i := 33) (v := ?_) (by simp only [List.getElem?_toArray, List.getElem?_cons_succ, List.getElem?_cons_zero]; rfl) (by kernel_rfl) (by kernel_rfl) (by kernel_rfl) (by exact fun _ _ _ h => h) (.inl ⟨by rfl, ?_⟩) (by assumption) ?_
    rotate_left
    · (intro w hSw; (try dsimp only at hSw); go_simp; first | done | with_reducible rfl)
    simp only [Act.put, List.setIfInBounds_toArray, List.set_cons_zero, List.set_cons_succ]
    refine wpAnyH_take (i := 34) (v := ?_) (by simp only [List.getElem?_toArray, List.getElem?_cons_succ, List.getElem?_cons_zero]; rfl) (by kernel_rfl) (by kernel_rfl) (by kernel_rfl) (by exact fun _ _ _ h => h) (.inl ⟨by rfl, ?_⟩) (by assumption) ?_
    rotate_left
    · (intro w hSw; (try dsimp only at hSw); go_simp; first | done | with_reducible rfl)
    simp only [Act.put, List.setIfInBounds_toArray, List.set_cons_zero, List.set_cons_succ]
    refine wpAnyH_take (i := 35) (v := ?_) (by simp only [List.getElem?_toArray, List.getElem?_cons_succ, List.getElem?_cons_zero]; rfl) (by kernel_rfl) (by kernel_rfl) (by kernel_rfl) (by exact fun _ _ _ h => h) (.inl ⟨by rfl, ?_⟩) (by assumption) ?_
    rotate_left
    · (intro w hSw; (try dsimp only at hSw); go_simp; first | done | with_reducible rfl)
    simp only [Act.put, List.setIfInBounds_toArray, List.set_cons_zero, List.set_cons_succ]
    refine wpAnyH_take (i := 36) (v := ?_) (by simp only [List.getElem?_toArray, List.getElem?_cons_succ, List.getElem?_cons_zero]; rfl) (by kernel_rfl) (by kernel_rfl) (by kernel_rfl) (by exact fun _ _ _ h => h) (.inl ⟨by rfl, ?_⟩) (by assumption) ?_
    rotate_left
    · (intro w hSw; (try dsimp only at hSw); go_simp; first | done | with_reducible rfl)
    simp only [Act.put, List.setIfInBounds_toArray, List.set_cons_zero, List.set_cons_succ]
    refine wpAnyH_take (i := 37) (v := ?_) (by simp only [List.getElem?_toArray, List.getElem?_cons_succ, List.getElem?_cons_zero]; rfl) (by kernel_rfl) (by kernel_rfl) (by kernel_rfl) (by exact fun _ _ _ h => h) (.inl ⟨by rfl, ?_⟩) (by assumption) ?_
    rotate_left
    · (intro w hSw; (try dsimp only at hSw); go_simp; first | done | with_reducible rfl)
    simp only [Act.put, List.setIfInBounds_toArray, List.set_cons_zero, List.set_cons_succ]
    refine wpAnyH_take (i := 38) (v := ?_) (by simp only [List.getElem?_toArray, List.getElem?_cons_succ, List.getElem?_cons_zero]; rfl) (by kernel_rfl) (by kernel_rfl) (by kernel_rfl) (by exact fun _ _ _ h => h) (.inl ⟨by rfl, ?_⟩) (by assumption) ?_
    rotate_left
    · (intro w hSw; (try dsimp only at hSw); go_simp; first | done | with_reducible rfl)
    simp only [Act.put, List.setIfInBounds_toArray, List.set_cons_zero, List.set_cons_succ]
    refine wpAnyH_take (i := 39) (v := ?_) (by simp only [List.getElem?_toArray, List.getElem?_cons_succ, List.getElem?_cons_zero]; rfl) (by kernel_rfl) (by kernel_rfl) (by kernel_rfl) (by exact fun _ _ _ h => h) (.inl ⟨by rfl, ?_⟩) (by assumption) ?_
    rotate_left
    · (intro w hSw; (try dsimp only at hSw); go_simp; first | done | with_reducible rfl)
    simp only [Act.put, List.setIfInBounds_toArray, List.set_cons_zero, List.set_cons_succ]
    refine wpAnyH_take (i := 40) (v := ?_) (by simp only [List.getElem?_toArray, List.getElem?_cons_succ, List.getElem?_cons_zero]; rfl) (by kernel_rfl) (by kernel_rfl) (by kernel_rfl) (by exact fun _ _ _ h => h) (.inl ⟨by rfl, ?_⟩) (by assumption) ?_
    rotate_left
    · (intro w hSw; (try dsimp only at hSw); go_simp; first | done | with_reducible rfl)
    simp only [Act.put, List.setIfInBounds_toArray, List.set_cons_zero, List.set_cons_succ]
    refine wpAnyH_done (by kernel_rfl) ?_ _
    refine endS (fun w' => S4 w6 A M U V b r d x y z w') (by assumption) (fun hS => ?_)
    have n9 := n8.later hS.1
    have q9 := Below.step q8 hS.1
    have c0 := n9.c0
    have c1 := n9.c1
    have c2 := n9.c2
    have hl := n9.lt
    clear n8 q8 hS HS
    go_wp2_with fail
    go_loop [16] (fun i => i = .int .i64 0) (fun _ => 0)
    case atStart => rfl
    case round =>
      obtain rfl := hrel
      rcases (show n < 0 ∨ (0 ≤ n ∧ 1099511627776 < n) from by have := timeB_false.1 HT.out; omega) with g | ⟨g, g'⟩
      all_goals
        go_wp2_with fail
        go_ret
        exact ⟨rfl, q9⟩
  · have HR := Lib.hid hr
    have HD := Lib.hid (show readyB b r d n = decide (d ≤ n) by simp [readyB, hr])
    clear hr
    go_region_held3 (fun w' => S4 w6 A M U V b r d x y z w') (first | exact HS.out | exact keepS (by assumption) (by assumption))
      (first
        | (go_at_call 13; refine (right_is b r d true HR.out _).mono ?_; rintro e w' ⟨rfl, hk⟩)
        | (go_at_call 14; refine (rright_is b r d true HR.out _).mono ?_; rintro e w' ⟨rfl, hk⟩)
        | (go_at_call 15; refine (ready_is b r d n (decide (d ≤ n)) HD.out _).mono ?_; rintro e w' ⟨rfl, hk⟩))
    refine endS (fun w' => S4 w6 A M U V b r d x y z w') (by assumption) (fun hS => ?_)
    have n9 := n8.later hS.1
    have q9 := Below.step q8 hS.1
    have c0 := n9.c0
    have c1 := n9.c1
    have c2 := n9.c2
    have hl := n9.lt
    clear n8 q8 hS HS
    go_wp2_with fail
    go_loop [16] (fun i => i = .int .i64 0) (fun _ => 0)
    case atStart => rfl
    case round =>
      obtain rfl := hrel
      rcases (show n < 0 ∨ (0 ≤ n ∧ 1099511627776 < n) from by have := timeB_false.1 HT.out; omega) with g | ⟨g, g'⟩
      all_goals
        go_wp2_with fail
        go_ret
        exact ⟨rfl, q9⟩
set_option maxRecDepth 100000 in
set_option maxHeartbeats 8000000 in
theorem tells_yes (b r d n : Int) (w : World) (ht : timeB n = true) :
    Calls Try.prog 3 #[.agg #[.int .i64 b, .int .i64 r, .int .i64 d], .int .i64 n] w fun e w' => e = .returned (.bool true) ∧ Below w.heap.size w w' := by
  obtain ⟨⟨x, y, z, o, c⟩, hA⟩ : ∃ A, ans b r d n = A := ⟨_, rfl⟩
  have HA := Lib.hid hA
  have HT := Lib.hid ht
  have htb := timeB_true.1 ht
  obtain ⟨nb0, nb1⟩ := htb
  obtain ⟨mp, hmp⟩ : ∃ mp, plen n = mp := ⟨_, rfl⟩
  have HM := Lib.hid hmp
  have HM5 := Lib.hid (show mp ≤ 5 from hmp ▸ (plen_bd n).2)
  clear hmp
  clear hA ht
  go_enter Try.func3, Try.ntmps3
  go_wp2_with fail
  have t1 := Blk.made w b r d 23
  have q1 := Below.more (Below.refl w.heap.size w) (.cells #[.int .i64 b, .int .i64 r, .int .i64 d] 23)
  refine (awake_any _).mono ?_
  rintro e w1 ⟨rfl, b1⟩
  have t2 := t1.later b1
  have q2 := Below.step q1 b1
  generalize w.heap.size = A at t2 ⊢
  have c0 := t2.c0
  have c1 := t2.c1
  have c2 := t2.c2
  have hl := t2.lt
  clear b1 t1 q1
  go_wp2_with fail
  have t3 := t2.alloc (.cells #[.int .i64 b, .int .i64 r, .int .i64 d] 25)
  have m3 := Blk.made w1 b r d 25
  have q3 := Below.more q2 (.cells #[.int .i64 b, .int .i64 r, .int .i64 d] 25)
  generalize w1.heap.size = M at m3 ⊢
  refine (failed_at b r d n x y z o c HA.out _).mono ?_
  rintro e w2 ⟨rfl, b2⟩
  have t4 := t3.later b2
  have m4 := m3.later b2
  have q4 := Below.step q3 b2
  have hm0 := m4.c0
  have hm1 := m4.c1
  have hm2 := m4.c2
  have hml := m4.lt
  clear b2 t2 t3 m3 q2 q3 c0 c1 c2 hl
  go_wp2_with fail
  have u4 := Blk.made w2 x y z 23
  have t5 := t4.alloc (.cells #[.int .i64 x, .int .i64 y, .int .i64 z] 23)
  have m5 := m4.alloc (.cells #[.int .i64 x, .int .i64 y, .int .i64 z] 23)
  have q5 := Below.more q4 (.cells #[.int .i64 x, .int .i64 y, .int .i64 z] 23)
  generalize w2.heap.size = U at u4 ⊢
  refine (rfailed_at b r d n x y z o c HA.out _).mono ?_
  rintro e w3 ⟨rfl, b3⟩
  have t6 := (t5.later b3).alloc (.cells #[.int .i64 x, .int .i64 y, .int .i64 z] 25)
  have m6 := (m5.later b3).alloc (.cells #[.int .i64 x, .int .i64 y, .int .i64 z] 25)
  have u6 := (u4.later b3).alloc (.cells #[.int .i64 x, .int .i64 y, .int .i64 z] 25)
  have v6 := Blk.made w3 x y z 25
  have q6 := Below.more (Below.step q5 b3) (.cells #[.int .i64 x, .int .i64 y, .int .i64 z] 25)
  clear b3 t4 t5 m4 m5 u4 q4 q5 hm0 hm1 hm2 hml
  go_wp2_with fail
  generalize w3.heap.size = V at v6 ⊢
  refine (new_yes n _ HT.out).mono ?_
  rintro e w4 ⟨rfl, b4⟩
  have t7 := (t6.later b4).alloc (.cells #[.int .i64 n, .int .i64 0, .int .i64 n] 23)
  have m7 := (m6.later b4).alloc (.cells #[.int .i64 n, .int .i64 0, .int .i64 n] 23)
  have u7 := (u6.later b4).alloc (.cells #[.int .i64 n, .int .i64 0, .int .i64 n] 23)
  have v7 := (v6.later b4).alloc (.cells #[.int .i64 n, .int .i64 0, .int .i64 n] 23)
  have n7 := Blk.made w4 n 0 n 23
  have q7 := Below.more (Below.step q6 b4) (.cells #[.int .i64 n, .int .i64 0, .int .i64 n] 23)
  clear b4 t6 m6 u6 v6 q6
  go_wp2_with fail
  generalize w4.heap.size = N at n7 ⊢
  refine (plan_got n mp HM.out HT.out _).mono ?_
  rintro e w5 ⟨g1, cap1, rfl, -, hg1, hc1, b5⟩
  have HC1 := Lib.hid hc1
  clear hc1
  go_wp2_with fail
  refine (rplan_got n mp HM.out HT.out _).mono ?_
  rintro e w6 ⟨g2, cap2, rfl, -, hg2, hc2, b6⟩
  have hc1' : ∀ i, i < mp → w6.cell? ⟨g1, i, none⟩ = some (.int .i64 (due n i)) := fun i hi => (b6.cell (p := ⟨g1, i, none⟩) hg1).trans (HC1.out i hi)
  have HC := Lib.hid (And.intro hc1' hc2)
  have HG := Lib.hid (And.intro (Nat.lt_of_lt_of_le hg1 b6.size) hg2)
  clear hc1' hc2 hg1 hg2 HC1
  have b7 := Below.step b5 b6
  have t8 := t7.later b7
  have m8 := m7.later b7
  have u8 := u7.later b7
  have v8 := v7.later b7
  have n8 := n7.later b7
  have q8 := Below.step q7 b7
  have HS := Lib.hid (startS t8 m8 u8 v8)
  clear b5 b6 b7 t7 m7 u7 v7 n7 q7 t8 m8 u8 v8
  go_wp2_with fail
  cases hr : rightB b r d
  · have HR := Lib.hid hr
    have HD := Lib.hid (show readyB b r d n = false by simp [readyB, hr])
    clear hr
    refine wp_region_held_drew (S := fun w' => S4 w6 A M U V b r d x y z w') (by kernel_rfl) HS.out (fun hHeld => ?_)
    refine wpAnyH_take (i := 0) (v := ?_) (by simp only [List.getElem?_toArray, List.getElem?_cons_succ, List.getElem?_cons_zero]; rfl) (by kernel_rfl) (by kernel_rfl) (by kernel_rfl) (by exact fun _ _ _ h => h) (.inl ⟨by rfl, ?_⟩) (by assumption) ?_
    rotate_left
    · (intro w hSw; (try dsimp only at hSw); go_simp; first | done | with_reducible rfl)
    simp only [Act.put, List.setIfInBounds_toArray, List.set_cons_zero, List.set_cons_succ]
    refine wpAnyH_take (i := 1) (v := ?_) (by simp only [List.getElem?_toArray, List.getElem?_cons_succ, List.getElem?_cons_zero]; rfl) (by kernel_rfl) (by kernel_rfl) (by kernel_rfl) (by exact fun _ _ _ h => h) (.inl ⟨by rfl, ?_⟩) (by assumption) ?_
    rotate_left
    · (intro w hSw; (try dsimp only at hSw); go_simp; first | done | with_reducible rfl)
    simp only [Act.put, List.setIfInBounds_toArray, List.set_cons_zero, List.set_cons_succ]
    refine wpAnyH_take (i := 2) (v := ?_) (by simp only [List.getElem?_toArray, List.getElem?_cons_succ, List.getElem?_cons_zero]; rfl) (by kernel_rfl) (by kernel_rfl) (by kernel_rfl) (by exact fun _ _ _ h => h) (.inl ⟨by rfl, ?_⟩) (by assumption) ?_
    rotate_left
    · (intro w hSw; (try dsimp only at hSw); go_simp; first | done | with_reducible rfl)
    simp only [Act.put, List.setIfInBounds_toArray, List.set_cons_zero, List.set_cons_succ]
    refine wpAnyH_take (i := 3) (v := ?_) (by simp only [List.getElem?_toArray, List.getElem?_cons_succ, List.getElem?_cons_zero]; rfl) (by kernel_rfl) (by kernel_rfl) (by kernel_rfl) (by exact fun _ _ _ h => h) (.inl ⟨by rfl, ?_⟩) (by assumption) ?_
    rotate_left
    · (intro w hSw; (try dsimp only at hSw); go_simp; first | done | with_reducible rfl)
    simp only [Act.put, List.setIfInBounds_toArray, List.set_cons_zero, List.set_cons_succ]
    refine wpAnyH_take (i := 4) (v := ?_) (by simp only [List.getElem?_toArray, List.getElem?_cons_succ, List.getElem?_cons_zero]; rfl) (by kernel_rfl) (by kernel_rfl) (by kernel_rfl) (by exact fun _ _ _ h => h) (.inl ⟨by rfl, ?_⟩) (by assumption) ?_
    rotate_left
    · (intro w hSw; (try dsimp only at hSw); go_simp; first | done | with_reducible rfl)
    simp only [Act.put, List.setIfInBounds_toArray, List.set_cons_zero, List.set_cons_succ]
    refine wpAnyH_take (i := 5) (v := ?_) (by simp only [List.getElem?_toArray, List.getElem?_cons_succ, List.getElem?_cons_zero]; rfl) (by kernel_rfl) (by kernel_rfl) (by kernel_rfl) (by exact fun _ _ _ h => h) (.inl ⟨by rfl, ?_⟩) (by assumption) ?_
    rotate_left
    · (intro w hSw; (try dsimp only at hSw); go_simp; first | done | with_reducible rfl)
    simp only [Act.put, List.setIfInBounds_toArray, List.set_cons_zero, List.set_cons_succ]
    refine wpAnyH_take (i := 6) (v := ?_) (by simp only [List.getElem?_toArray, List.getElem?_cons_succ, List.getElem?_cons_zero]; rfl) (by kernel_rfl) (by kernel_rfl) (by kernel_rfl) (by exact fun _ _ _ h => h) (.inl ⟨by rfl, ?_⟩) (by assumption) ?_
    rotate_left
    · (intro w hSw; (try dsimp only at hSw); go_simp; first | done | with_reducible rfl)
    simp only [Act.put, List.setIfInBounds_toArray, List.set_cons_zero, List.set_cons_succ]
    refine wpAnyH_take (i := 7) (v := ?_) (by simp only [List.getElem?_toArray, List.getElem?_cons_succ, List.getElem?_cons_zero]; rfl) (by kernel_rfl) (by kernel_rfl) (by kernel_rfl) (by exact fun _ _ _ h => h) (.inl ⟨by rfl, ?_⟩) (by assumption) ?_
    rotate_left
    · (intro w hSw; (try dsimp only at hSw); go_simp; first | done | with_reducible rfl)
    simp only [Act.put, List.setIfInBounds_toArray, List.set_cons_zero, List.set_cons_succ]
    refine wpAnyH_take (i := 8) (v := ?_) (by simp only [List.getElem?_toArray, List.getElem?_cons_succ, List.getElem?_cons_zero]; rfl) (by kernel_rfl) (by kernel_rfl) (by kernel_rfl) (by exact fun _ _ _ h => h) (.inl ⟨by rfl, ?_⟩) (by assumption) ?_
    rotate_left
    · (intro w hSw; (try dsimp only at hSw); go_simp; first | done | with_reducible rfl)
    simp only [Act.put, List.setIfInBounds_toArray, List.set_cons_zero, List.set_cons_succ]
    refine wpAnyH_take (i := 9) (v := ?_) (by simp only [List.getElem?_toArray, List.getElem?_cons_succ, List.getElem?_cons_zero]; rfl) (by kernel_rfl) (by kernel_rfl) (by kernel_rfl) (by exact fun _ _ _ h => h) (.inl ⟨by rfl, ?_⟩) (by assumption) ?_
    rotate_left
    · (intro w hSw; (try dsimp only at hSw); go_simp; first | done | with_reducible rfl)
    simp only [Act.put, List.setIfInBounds_toArray, List.set_cons_zero, List.set_cons_succ]
    refine wpAnyH_take (i := 10) (v := ?_) (by simp only [List.getElem?_toArray, List.getElem?_cons_succ, List.getElem?_cons_zero]; rfl) (by kernel_rfl) (by kernel_rfl) (by kernel_rfl) (by exact fun _ _ _ h => h) (.inl ⟨by rfl, ?_⟩) (by assumption) ?_
    rotate_left
    · (intro w hSw; (try dsimp only at hSw); go_simp; first | done | with_reducible rfl)
    simp only [Act.put, List.setIfInBounds_toArray, List.set_cons_zero, List.set_cons_succ]
    refine wpAnyH_take (i := 11) (v := ?_) (by simp only [List.getElem?_toArray, List.getElem?_cons_succ, List.getElem?_cons_zero]; rfl) (by kernel_rfl) (by kernel_rfl) (by kernel_rfl) (by exact fun _ _ _ h => h) (.inl ⟨by rfl, ?_⟩) (by assumption) ?_
    rotate_left
    · (intro w hSw; (try dsimp only at hSw); go_simp; first | done | with_reducible rfl)
    simp only [Act.put, List.setIfInBounds_toArray, List.set_cons_zero, List.set_cons_succ]
    refine wpAnyH_take (i := 12) (v := ?_) (by simp only [List.getElem?_toArray, List.getElem?_cons_succ, List.getElem?_cons_zero]; rfl) (by kernel_rfl) (by kernel_rfl) (by kernel_rfl) (by exact fun _ _ _ h => h) (.inl ⟨by rfl, ?_⟩) (by assumption) ?_
    rotate_left
    · (intro w hSw; (try dsimp only at hSw); go_simp; first | done | with_reducible rfl)
    simp only [Act.put, List.setIfInBounds_toArray, List.set_cons_zero, List.set_cons_succ]
    refine wpAnyH_take (i := 13) (v := ?_) (by simp only [List.getElem?_toArray, List.getElem?_cons_succ, List.getElem?_cons_zero]; rfl) (by kernel_rfl) (by kernel_rfl) (by kernel_rfl) (by exact fun _ _ _ h => h) (.inl ⟨by rfl, ?_⟩) (by assumption) ?_
    rotate_left
    · (intro w hSw; (try dsimp only at hSw); go_simp; first | done | with_reducible rfl)
    simp only [Act.put, List.setIfInBounds_toArray, List.set_cons_zero, List.set_cons_succ]
    refine wpAnyH_take (i := 14) (v := ?_) (by simp only [List.getElem?_toArray, List.getElem?_cons_succ, List.getElem?_cons_zero]; rfl) (by kernel_rfl) (by kernel_rfl) (by kernel_rfl) (by exact fun _ _ _ h => h) (.inl ⟨by rfl, ?_⟩) (by assumption) ?_
    rotate_left
    · (intro w hSw; (try dsimp only at hSw); go_simp; first | done | with_reducible rfl)
    simp only [Act.put, List.setIfInBounds_toArray, List.set_cons_zero, List.set_cons_succ]
    refine wpAnyH_take (i := 16) (v := ?_) (by simp only [List.getElem?_toArray, List.getElem?_cons_succ, List.getElem?_cons_zero]; rfl) (by kernel_rfl) (by kernel_rfl) (by kernel_rfl) (by exact fun _ _ _ h => h) (.inl ⟨by rfl, ?_⟩) (by assumption) ?_
    rotate_left
    · (intro w hSw; (try dsimp only at hSw); go_simp; first | done | with_reducible rfl)
    simp only [Act.put, List.setIfInBounds_toArray, List.set_cons_zero, List.set_cons_succ]
    refine wpAnyH_ready (rs := [15]) (by kernel_rfl) (by simp) ?_
    refine AllReadyH.cons (o := _) (by simp only [List.getElem?_toArray, List.getElem?_cons_succ, List.getElem?_cons_zero]; rfl) (fun K hK => ?_) AllReadyH.nil
    go_simp
    refine (right_is b r d false HR.out _).mono ?_; rintro e w' ⟨rfl, hk⟩
    go_wp2_with fail
    refine hK.out _ _ ?_ (fun hHeld => ?_)
    · exact keepS hk (by assumption)
    clear hK K
    try simp only [Act.put, List.setIfInBounds_toArray, List.set_cons_zero, List.set_cons_succ]
    refine wpAnyH_ready (rs := [17]) (by kernel_rfl) (by simp) ?_
    refine AllReadyH.cons (o := _) (by simp only [List.getElem?_toArray, List.getElem?_cons_succ, List.getElem?_cons_zero]; rfl) (fun K hK => ?_) AllReadyH.nil
    go_simp
    refine (rright_is b r d false HR.out _).mono ?_; rintro e w' ⟨rfl, hk⟩
    go_wp2_with fail
    refine hK.out _ _ ?_ (fun hHeld => ?_)
    · exact keepS hk (by assumption)
    clear hK K
    try simp only [Act.put, List.setIfInBounds_toArray, List.set_cons_zero, List.set_cons_succ]
    refine wpAnyH_take (i := 18) (v := ?_) (by simp only [List.getElem?_toArray, List.getElem?_cons_succ, List.getElem?_cons_zero]; rfl) (by kernel_rfl) (by kernel_rfl) (by kernel_rfl) (by exact fun _ _ _ h => h) (.inl ⟨by rfl, ?_⟩) (by assumption) ?_
    rotate_left
    · (intro w hSw; (try dsimp only at hSw); go_simp; first | done | with_reducible rfl)
    simp only [Act.put, List.setIfInBounds_toArray, List.set_cons_zero, List.set_cons_succ]
    refine wpAnyH_take (i := 19) (v := ?_) (by simp only [List.getElem?_toArray, List.getElem?_cons_succ, List.getElem?_cons_zero]; rfl) (by kernel_rfl) (by kernel_rfl) (by kernel_rfl) (by exact fun _ _ _ h => h) (.inl ⟨by rfl, ?_⟩) (by assumption) ?_
    rotate_left
    · (intro w hSw; (try dsimp only at hSw); go_simp; first | done | with_reducible rfl)
    simp only [Act.put, List.setIfInBounds_toArray, List.set_cons_zero, List.set_cons_succ]
    refine wpAnyH_take (i := 20) (v := ?_) (by simp only [List.getElem?_toArray, List.getElem?_cons_succ, List.getElem?_cons_zero]; rfl) (by kernel_rfl) (by kernel_rfl) (by kernel_rfl) (by exact fun _ _ _ h => h) (.inl ⟨by rfl, ?_⟩) (by assumption) ?_
    rotate_left
    · (intro w hSw; (try dsimp only at hSw); go_simp; first | done | with_reducible rfl)
    simp only [Act.put, List.setIfInBounds_toArray, List.set_cons_zero, List.set_cons_succ]
    refine wpAnyH_take (i := 21) (v := ?_) (by simp only [List.getElem?_toArray, List.getElem?_cons_succ, List.getElem?_cons_zero]; rfl) (by kernel_rfl) (by kernel_rfl) (by kernel_rfl) (by exact fun _ _ _ h => h) (.inl ⟨by rfl, ?_⟩) (by assumption) ?_
    rotate_left
    · (intro w hSw; (try dsimp only at hSw); go_simp; first | done | with_reducible rfl)
    simp only [Act.put, List.setIfInBounds_toArray, List.set_cons_zero, List.set_cons_succ]
    refine wpAnyH_take (i := 22) (v := ?_) (by simp only [List.getElem?_toArray, List.getElem?_cons_succ, List.getElem?_cons_zero]; rfl) (by kernel_rfl) (by kernel_rfl) (by kernel_rfl) (by exact fun _ _ _ h => h) (.inl ⟨by rfl, ?_⟩) (by assumption) ?_
    rotate_left
    · (intro w hSw; (try dsimp only at hSw); go_simp; first | done | with_reducible rfl)
    simp only [Act.put, List.setIfInBounds_toArray, List.set_cons_zero, List.set_cons_succ]
    refine wpAnyH_take (i := 24) (v := ?_) (by simp only [List.getElem?_toArray, List.getElem?_cons_succ, List.getElem?_cons_zero]; rfl) (by kernel_rfl) (by kernel_rfl) (by kernel_rfl) (by exact fun _ _ _ h => h) (.inl ⟨by rfl, ?_⟩) (by assumption) ?_
    rotate_left
    · (intro w hSw; (try dsimp only at hSw); go_simp; first | done | with_reducible rfl)
    simp only [Act.put, List.setIfInBounds_toArray, List.set_cons_zero, List.set_cons_succ]
    refine wpAnyH_ready (rs := [23]) (by kernel_rfl) (by simp) ?_
    refine AllReadyH.cons (o := _) (by simp only [List.getElem?_toArray, List.getElem?_cons_succ, List.getElem?_cons_zero]; rfl) (fun K hK => ?_) AllReadyH.nil
    go_simp
    refine (ready_is b r d n false HD.out _).mono ?_; rintro e w' ⟨rfl, hk⟩
    go_wp2_with fail
    refine hK.out _ _ ?_ (fun hHeld => ?_)
    · exact keepS hk (by assumption)
    clear hK K
    try simp only [Act.put, List.setIfInBounds_toArray, List.set_cons_zero, List.set_cons_succ]
    refine wpAnyH_ready (rs := [25]) (by kernel_rfl) (by simp) ?_
    refine AllReadyH.cons (o := _) (by simp only [List.getElem?_toArray, List.getElem?_cons_succ, List.getElem?_cons_zero]; rfl) (fun K hK => ?_) AllReadyH.nil
    go_simp
    refine (rright_is b r d false HR.out _).mono ?_; rintro e w' ⟨rfl, hk⟩
    go_wp2_with fail
    refine hK.out _ _ ?_ (fun hHeld => ?_)
    · exact keepS hk (by assumption)
    clear hK K
    try simp only [Act.put, List.setIfInBounds_toArray, List.set_cons_zero, List.set_cons_succ]
    refine wpAnyH_take (i := 26) (v := ?_) (by simp only [List.getElem?_toArray, List.getElem?_cons_succ, List.getElem?_cons_zero]; rfl) (by kernel_rfl) (by kernel_rfl) (by kernel_rfl) (by exact fun _ _ _ h => h) (.inl ⟨by rfl, ?_⟩) (by assumption) ?_
    rotate_left
    · (intro w hSw; (try dsimp only at hSw); go_simp; first | done | with_reducible rfl)
    simp only [Act.put, List.setIfInBounds_toArray, List.set_cons_zero, List.set_cons_succ]
    refine wpAnyH_take (i := 27) (v := undef) (by simp only [List.getElem?_toArray, List.getElem?_cons_succ, List.getElem?_cons_zero]; rfl) (by kernel_rfl) (by kernel_rfl) (by kernel_rfl) (by exact fun _ _ _ h => h) (.inr ⟨by rfl, rfl⟩) (by assumption) ?_
    simp only [Act.put, List.setIfInBounds_toArray, List.set_cons_zero, List.set_cons_succ]
    refine wpAnyH_take (i := 28) (v := undef) (by simp only [List.getElem?_toArray, List.getElem?_cons_succ, List.getElem?_cons_zero]; rfl) (by kernel_rfl) (by kernel_rfl) (by kernel_rfl) (by exact fun _ _ _ h => h) (.inr ⟨by rfl, rfl⟩) (by assumption) ?_
    simp only [Act.put, List.setIfInBounds_toArray, List.set_cons_zero, List.set_cons_succ]
    refine wpAnyH_take (i := 29) (v := undef) (by simp only [List.getElem?_toArray, List.getElem?_cons_succ, List.getElem?_cons_zero]; rfl) (by kernel_rfl) (by kernel_rfl) (by kernel_rfl) (by exact fun _ _ _ h => h) (.inr ⟨by rfl, rfl⟩) (by assumption) ?_
    simp only [Act.put, List.setIfInBounds_toArray, List.set_cons_zero, List.set_cons_succ]
    refine wpAnyH_take (i := 30) (v := undef) (by simp only [List.getElem?_toArray, List.getElem?_cons_succ, List.getElem?_cons_zero]; rfl) (by kernel_rfl) (by kernel_rfl) (by kernel_rfl) (by exact fun _ _ _ h => h) (.inr ⟨by rfl, rfl⟩) (by assumption) ?_
    simp only [Act.put, List.setIfInBounds_toArray, List.set_cons_zero, List.set_cons_succ]
    refine wpAnyH_take (i := 31) (v := ?_) (by simp only [List.getElem?_toArray, List.getElem?_cons_succ, List.getElem?_cons_zero]; rfl) (by kernel_rfl) (by kernel_rfl) (by kernel_rfl) (by exact fun _ _ _ h => h) (.inl ⟨by rfl, ?_⟩) (by assumption) ?_
    rotate_left
    · (intro w hSw; (try dsimp only at hSw); go_simp; first | done | with_reducible rfl)
    simp only [Act.put, List.setIfInBounds_toArray, List.set_cons_zero, List.set_cons_succ]
    refine wpAnyH_take (i := 32) (v := ?_) (by simp only [List.getElem?_toArray, List.getElem?_cons_succ, List.getElem?_cons_zero]; rfl) (by kernel_rfl) (by kernel_rfl) (by kernel_rfl) (by exact fun _ _ _ h => h) (.inl ⟨by rfl, ?_⟩) (by assumption) ?_
    rotate_left
    · (intro w hSw; (try dsimp only at hSw); go_simp; first | done | with_reducible rfl)
    simp only [Act.put, List.setIfInBounds_toArray, List.set_cons_zero, List.set_cons_succ]
    refine wpAnyH_take (i := 33) (v := ?_) (by simp only [List.getElem?_toArray, List.getElem?_cons_succ, List.getElem?_cons_zero]; rfl) (by kernel_rfl) (by kernel_rfl) (by kernel_rfl) (by exact fun _ _ _ h => h) (.inl ⟨by rfl, ?_⟩) (by assumption) ?_
    rotate_left
    · (intro w hSw; (try dsimp only at hSw); go_simp; first | done | with_reducible rfl)
    simp only [Act.put, List.setIfInBounds_toArray, List.set_cons_zero, List.set_cons_succ]
    refine wpAnyH_take (i := 34) (v := ?_) (by simp only [List.getElem?_toArray, List.getElem?_cons_succ, List.getElem?_cons_zero]; rfl) (by kernel_rfl) (by kernel_rfl) (by kernel_rfl) (by exact fun _ _ _ h => h) (.inl ⟨by rfl, ?_⟩) (by assumption) ?_
    rotate_left
    · (intro w hSw; (try dsimp only at hSw); go_simp; first | done | with_reducible rfl)
    simp only [Act.put, List.setIfInBounds_toArray, List.set_cons_zero, List.set_cons_succ]
    refine wpAnyH_take (i := 35) (v := ?_) (by simp only [List.getElem?_toArray, List.getElem?_cons_succ, List.getElem?_cons_zero]; rfl) (by kernel_rfl) (by kernel_rfl) (by kernel_rfl) (by exact fun _ _ _ h => h) (.inl ⟨by rfl, ?_⟩) (by assumption) ?_
    rotate_left
    · (intro w hSw; (try dsimp only at hSw); go_simp; first | done | with_reducible rfl)
    simp only [Act.put, List.setIfInBounds_toArray, List.set_cons_zero, List.set_cons_succ]
    refine wpAnyH_take (i := 36) (v := ?_) (by simp only [List.getElem?_toArray, List.getElem?_cons_succ, List.getElem?_cons_zero]; rfl) (by kernel_rfl) (by kernel_rfl) (by kernel_rfl) (by exact fun _ _ _ h => h) (.inl ⟨by rfl, ?_⟩) (by assumption) ?_
    rotate_left
    · (intro w hSw; (try dsimp only at hSw); go_simp; first | done | with_reducible rfl)
    simp only [Act.put, List.setIfInBounds_toArray, List.set_cons_zero, List.set_cons_succ]
    refine wpAnyH_take (i := 37) (v := ?_) (by simp only [List.getElem?_toArray, List.getElem?_cons_succ, List.getElem?_cons_zero]; rfl) (by kernel_rfl) (by kernel_rfl) (by kernel_rfl) (by exact fun _ _ _ h => h) (.inl ⟨by rfl, ?_⟩) (by assumption) ?_
    rotate_left
    · (intro w hSw; (try dsimp only at hSw); go_simp; first | done | with_reducible rfl)
    simp only [Act.put, List.setIfInBounds_toArray, List.set_cons_zero, List.set_cons_succ]
    refine wpAnyH_take (i := 38) (v := ?_) (by simp only [List.getElem?_toArray, List.getElem?_cons_succ, List.getElem?_cons_zero]; rfl) (by kernel_rfl) (by kernel_rfl) (by kernel_rfl) (by exact fun _ _ _ h => h) (.inl ⟨by rfl, ?_⟩) (by assumption) ?_
    rotate_left
    · (intro w hSw; (try dsimp only at hSw); go_simp; first | done | with_reducible rfl)
    simp only [Act.put, List.setIfInBounds_toArray, List.set_cons_zero, List.set_cons_succ]
    refine wpAnyH_take (i := 39) (v := ?_) (by simp only [List.getElem?_toArray, List.getElem?_cons_succ, List.getElem?_cons_zero]; rfl) (by kernel_rfl) (by kernel_rfl) (by kernel_rfl) (by exact fun _ _ _ h => h) (.inl ⟨by rfl, ?_⟩) (by assumption) ?_
    rotate_left
    · (intro w hSw; (try dsimp only at hSw); go_simp; first | done | with_reducible rfl)
    simp only [Act.put, List.setIfInBounds_toArray, List.set_cons_zero, List.set_cons_succ]
    refine wpAnyH_take (i := 40) (v := ?_) (by simp only [List.getElem?_toArray, List.getElem?_cons_succ, List.getElem?_cons_zero]; rfl) (by kernel_rfl) (by kernel_rfl) (by kernel_rfl) (by exact fun _ _ _ h => h) (.inl ⟨by rfl, ?_⟩) (by assumption) ?_
    rotate_left
    · (intro w hSw; (try dsimp only at hSw); go_simp; first | done | with_reducible rfl)
    simp only [Act.put, List.setIfInBounds_toArray, List.set_cons_zero, List.set_cons_succ]
    refine wpAnyH_done (by kernel_rfl) ?_ _
    refine endS (fun w' => S4 w6 A M U V b r d x y z w') (by assumption) (fun hS => ?_)
    have n9 := n8.later hS.1
    have q9 := Below.step q8 hS.1
    have z9 := hS.1
    have hmz := HM5.out
    have c0 := n9.c0
    have c1 := n9.c1
    have c2 := n9.c2
    have hl := n9.lt
    clear n8 q8 hS HS
    go_wp2_with fail
    go_loopw [16] (fun i wr => ∃ j : Nat, j ≤ mp ∧ i = .int .i64 j ∧ Blk wr N n 0 n 23 ∧ Below w.heap.size w wr ∧ Below w6.heap.size w6 wr) (fun i _ => (mp - intOf i).toNat)
    case atStart => exact ⟨0, Nat.zero_le _, rfl, n9, q9, z9⟩
    case round =>
      obtain ⟨j, hj, rfl, nr, qr, zr⟩ := hrel
      clear n9 q9 z9 c0 c1 c2 hl
      by_cases hlt : (j : Int) < mp
      · have k1 := (zr.cell (p := ⟨g1, j, none⟩) HG.out.1).trans (HC.out.1 j (by omega))
        have k2 := (zr.cell (p := ⟨g2, j, none⟩) HG.out.2).trans (HC.out.2 j (by omega))
        have j0 : (0 : Int) ≤ j := by omega
        go_wp2_with fail
        go_quiet (fail)
        go_wp2_with fail
        go_roundw
        case rel => exact ⟨j + 1, by omega, by go_num, nr, below_dN qr _, below_dN zr _⟩
        case measure => simp [intOf]; omega
      · have c0 := nr.c0
        have c1 := nr.c1
        have c2 := nr.c2
        go_wp2_with fail
        go_ret
        exact ⟨rfl, qr⟩
  · have HR := Lib.hid hr
    have HD := Lib.hid (show readyB b r d n = decide (d ≤ n) by simp [readyB, hr])
    clear hr
    go_region_held3 (fun w' => S4 w6 A M U V b r d x y z w') (first | exact HS.out | exact keepS (by assumption) (by assumption))
      (first
        | (go_at_call 13; refine (right_is b r d true HR.out _).mono ?_; rintro e w' ⟨rfl, hk⟩)
        | (go_at_call 14; refine (rright_is b r d true HR.out _).mono ?_; rintro e w' ⟨rfl, hk⟩)
        | (go_at_call 15; refine (ready_is b r d n (decide (d ≤ n)) HD.out _).mono ?_; rintro e w' ⟨rfl, hk⟩))
    refine endS (fun w' => S4 w6 A M U V b r d x y z w') (by assumption) (fun hS => ?_)
    have n9 := n8.later hS.1
    have q9 := Below.step q8 hS.1
    have z9 := hS.1
    have hmz := HM5.out
    have c0 := n9.c0
    have c1 := n9.c1
    have c2 := n9.c2
    have hl := n9.lt
    clear n8 q8 hS HS
    go_wp2_with fail
    go_loopw [16] (fun i wr => ∃ j : Nat, j ≤ mp ∧ i = .int .i64 j ∧ Blk wr N n 0 n 23 ∧ Below w.heap.size w wr ∧ Below w6.heap.size w6 wr) (fun i _ => (mp - intOf i).toNat)
    case atStart => exact ⟨0, Nat.zero_le _, rfl, n9, q9, z9⟩
    case round =>
      obtain ⟨j, hj, rfl, nr, qr, zr⟩ := hrel
      clear n9 q9 z9 c0 c1 c2 hl
      by_cases hlt : (j : Int) < mp
      · have k1 := (zr.cell (p := ⟨g1, j, none⟩) HG.out.1).trans (HC.out.1 j (by omega))
        have k2 := (zr.cell (p := ⟨g2, j, none⟩) HG.out.2).trans (HC.out.2 j (by omega))
        have j0 : (0 : Int) ≤ j := by omega
        go_wp2_with fail
        go_quiet (fail)
        go_wp2_with fail
        go_roundw
        case rel => exact ⟨j + 1, by omega, by go_num, nr, below_dN qr _, below_dN zr _⟩
        case measure => simp [intOf]; omega
      · have c0 := nr.c0
        have c1 := nr.c1
        have c2 := nr.c2
        go_wp2_with fail
        go_ret
        exact ⟨rfl, qr⟩

theorem tells_any (b r d n : Int) (w : World) :
    Calls Try.prog 3 #[.agg #[.int .i64 b, .int .i64 r, .int .i64 d], .int .i64 n] w fun e w' => e = .returned (.bool true) ∧ Below w.heap.size w w' := by
  cases h : timeB n with
  | false => exact tells_no b r d n w h
  | true => exact tells_yes b r d n w h
end Go.Proofs.Ytehekapmbipagaa
