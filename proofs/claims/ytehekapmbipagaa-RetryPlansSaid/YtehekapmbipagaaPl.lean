/-
  The walk of RetryPlans: it returns true, and makes new blocks alone.
-/
import Derived.Test.YtehekapmbipagaaTells
namespace Go.Proofs.Ytehekapmbipagaa
open Go.RowKit

set_option linter.unusedSimpArgs false
attribute [local go_sem ↓] Go.wp_at_zero Go.wp_at_succ

set_option maxHeartbeats 1600000 in
theorem plans_no (n l : Int) (w : World) (h : n < 0 ∨ (0 ≤ n ∧ l < 0) ∨ (0 ≤ n ∧ 0 ≤ l ∧ 549755813888 < n) ∨ (0 ≤ n ∧ 0 ≤ l ∧ n ≤ 549755813888 ∧ 549755813888 < l)) :
    Calls Try.prog 6 #[.int .i64 n, .int .i64 l] w fun e w' => e = .returned (.bool true) ∧ Below w.heap.size w w' := by
  rcases h with h | ⟨h, h2⟩ | ⟨h, h2, h3⟩ | ⟨h, h2, h3, h4⟩
  all_goals
    go_enter Try.func6, Try.ntmps6
    go_wp2_with fail
    refine (awake_any _).mono ?_
    rintro e w1 ⟨rfl, b1⟩
    go_wp2_with fail
    go_ret
    exact ⟨rfl, b1⟩

/-- The times of a plan, behind its beginning. -/
def dq (k : Int) : Int := if k = 0 then 0 else if k = 1 then 2 else if k = 2 then 6 else if k = 3 then 14 else 30
theorem due_dq (n : Int) {k : Nat} (h : k < 5) : due n k = n + dq k := by
  obtain rfl | rfl | rfl | rfl | rfl := five h
  · rw [due_0, show dq (0 : Nat) = 0 from rfl]; omega
  · rw [due_1, show dq (1 : Nat) = 2 from rfl]
  · rw [due_2, show dq (2 : Nat) = 6 from rfl]
  · rw [due_3, show dq (3 : Nat) = 14 from rfl]
  · rw [due_4, show dq (4 : Nat) = 30 from rfl]

/-- The slice in block g reads as the plan of n. -/
def Reads (w : World) (g : Nat) (n : Int) : Prop := ∀ i : Nat, i < 5 → w.cell? ⟨g, i, none⟩ = some (.int .i64 (n + dq i))
theorem Reads.later {w w' : World} {g B : Nat} {n : Int} (h : Reads w g n) (k : Below B w w') (hg : g < B) : Reads w' g n := fun i hi => (k.cell (p := ⟨g, i, none⟩) hg).trans (h i hi)
theorem reads_of {w : World} {g : Nat} {n : Int} (h : ∀ i, i < 5 → w.cell? ⟨g, i, none⟩ = some (.int .i64 (due n i))) : Reads w g n := fun i hi => by rw [h i hi, due_dq n hi]

theorem ans_last {n : Int} (h0 : 0 ≤ n) (h1 : n ≤ 549755813888) : ans n 4 (n + 30) (n + 30) = ⟨0, 0, 0, true, 0⟩ :=
  ans_over (rightB_true.2 (by omega)) (timeB_true.2 (by omega)) (by omega) (.inl rfl)
theorem ans_first {n : Int} (h0 : 0 ≤ n) (h1 : n ≤ 549755813888) : ans n 0 n n = ⟨n, 1, n + 2, false, 0⟩ := by
  rw [ans_next (rightB_true.2 (by omega)) (timeB_true.2 (by omega)) (by omega) (by have : pw 0 = 2 := rfl
                                                                                   omega)]
  rfl
theorem ans_go {n : Int} (h0 : 0 ≤ n) (h1 : n ≤ 549755813888) {k q p u : Int} (hk : 0 ≤ k ∧ k ≤ 3) (hq : 0 ≤ q ∧ q ≤ 30) (hp : pw k = p) (hp1 : 0 ≤ p ∧ p ≤ 32 ∧ q + p = u) :
    ans n k (n + q) (n + q) = ⟨n, k + 1, n + u, false, 0⟩ := by
  rw [ans_next (rightB_true.2 (by omega)) (timeB_true.2 (by omega)) (by omega) (by omega), hp, Int.add_assoc, hp1.2.2]

/-- What the round of the loop keeps: the turn's block, the plan's cell. -/
abbrev S5 (wz : World) (T : Nat) (x y z : Int) (g i : Nat) (v : Int) (w' : World) : Prop :=
  (Below T wz w' ∧ Blk w' T x y z 23) ∧ (w'.cell? ⟨T, 0, none⟩ = some (.int .i64 x) ∧ w'.cell? ⟨T, 1, none⟩ = some (.int .i64 y) ∧ w'.cell? ⟨T, 2, none⟩ = some (.int .i64 z)) ∧ w'.cell? ⟨g, i, none⟩ = some (.int .i64 v)

theorem mk5 {wz w : World} {T : Nat} {x y z : Int} {g i : Nat} {v : Int} (h : Below T wz w) (k : Blk w T x y z 23) (c : w.cell? ⟨g, i, none⟩ = some (.int .i64 v)) : S5 wz T x y z g i v w :=
  ⟨⟨h, k⟩, ⟨k.c0, k.c1, k.c2⟩, c⟩
theorem keep5 {wz w w' : World} {T : Nat} {x y z : Int} {g i : Nat} {v : Int} (k : Below w.heap.size w w') (h : S5 wz T x y z g i v w) : S5 wz T x y z g i v w' :=
  mk5 (h.1.1.trans (k.mono (Nat.le_of_lt h.1.2.lt))) (h.1.2.later k) (keep1 k h.2.2)
theorem alloc5 {wz w : World} {T : Nat} {x y z : Int} {g i : Nat} {v : Int} {o : Obj} (h : S5 wz T x y z g i v w) : S5 wz T x y z g i v (w.alloc o) :=
  keep5 ((Below.refl w.heap.size w).alloc (Nat.le_refl _) o) h
theorem set5 {wz w : World} {T U : Nat} {x y z : Int} {g i : Nat} {v : Int} {p q r : Value} (hU : T < U) (hg : g < T) (h : S5 wz T x y z g i v w) :
    S5 wz T x y z g i v (((w.setCell ⟨U, 0, none⟩ p).setCell ⟨U, 1, none⟩ q).setCell ⟨U, 2, none⟩ r) := by
  have hb : Below U w (((w.setCell ⟨U, 0, none⟩ p).setCell ⟨U, 1, none⟩ q).setCell ⟨U, 2, none⟩ r) := (((Below.refl U w).setCell (by exact Nat.le_refl _) p).setCell (by exact Nat.le_refl _) q).setCell (by exact Nat.le_refl _) r
  exact mk5 (h.1.1.trans (hb.mono (Nat.le_of_lt hU))) ((hb.block T hU).trans h.1.2) ((hb.cell (p := ⟨g, i, none⟩) (Nat.lt_trans hg hU)).trans h.2.2)

theorem set3_below' {B : Nat} {w a : World} (h : Below B w a) {T : Nat} (hT : B ≤ T) (x y z : Value) : Below B w (((a.setCell ⟨T, 0, none⟩ x).setCell ⟨T, 1, none⟩ y).setCell ⟨T, 2, none⟩ z) :=
  ((h.setCell (by exact hT) _).setCell (by exact hT) _).setCell (by exact hT) _

/-- Behind the region: the world a letter, of which the two blocks are known. -/
theorem endT {K : Act → World → Prop} {Q : Exit → Act → World → Prop} {a : Act} {w wz : World} {T U : Nat} {x y z p q r : Int} {g i : Nat} {v : Int}
    (hS : S5 wz T x y z g i v w) (hU : Blk w U p q r 23) (k : ∀ wv, Below T wz wv → Blk wv T x y z 23 → Blk wv U p q r 23 → Exit.then K Q .normal a wv) : Exit.then K Q .normal a w :=
  k w hS.1.1 hS.1.2 hU

set_option maxRecDepth 100000 in
set_option maxHeartbeats 8000000 in
theorem plans_yes (n l : Int) (w : World) (h0 : 0 ≤ n) (h1 : n ≤ 549755813888) (l0 : 0 ≤ l) (l1 : l ≤ 549755813888) :
    Calls Try.prog 6 #[.int .i64 n, .int .i64 l] w fun e w' => e = .returned (.bool true) ∧ Below w.heap.size w w' := by
  have H := Lib.hid (show timeB n = true from timeB_true.2 (by omega))
  have HL := Lib.hid (show timeB l = true from timeB_true.2 (by omega))
  have H5 := Lib.hid (show plen n = 5 by unfold plen; repeat' split
                                         all_goals omega)
  have HL5 := Lib.hid (show plen l = 5 by unfold plen; repeat' split
                                          all_goals omega)
  go_enter Try.func6, Try.ntmps6
  go_wp2_with fail
  refine (awake_any _).mono ?_
  rintro e w1 ⟨rfl, b1⟩
  go_wp2_with fail
  refine (plan_got n 5 H5.out H.out _).mono ?_
  rintro e w2 ⟨g1, cap1, rfl, -, hg1, hc1, b2⟩
  have r1 := reads_of hc1
  clear hc1
  go_wp2_with fail
  refine (plan_got l 5 HL5.out HL.out _).mono ?_
  rintro e w3 ⟨g2, cap2, rfl, -, hg2, hc2, b3⟩
  have r2 := reads_of hc2
  have r1' := r1.later b3 hg1
  have hg1' := Nat.lt_of_lt_of_le hg1 b3.size
  clear hc2 hg1 r1
  go_wp2_with fail
  refine (new_yes n _ H.out).mono ?_
  rintro e w4 ⟨rfl, b4⟩
  have t5 := Blk.made w4 n 0 (n + dq 0) 23
  have q5 := Below.more (Below.step (Below.step (Below.step b1 b2) b3) b4) (.cells #[.int .i64 n, .int .i64 0, .int .i64 n] 23)
  have r3 := (r1'.later b4 hg1').later ((Below.refl w4.heap.size w4).alloc (Nat.le_refl _) (.cells #[.int .i64 n, .int .i64 0, .int .i64 n] 23)) (Nat.lt_of_lt_of_le hg1' b4.size)
  have r4 := (r2.later b4 hg2).later ((Below.refl w4.heap.size w4).alloc (Nat.le_refl _) (.cells #[.int .i64 n, .int .i64 0, .int .i64 n] 23)) (Nat.lt_of_lt_of_le hg2 b4.size)
  have hgT1 := Nat.lt_of_lt_of_le hg1' b4.size
  have hgT2 := Nat.lt_of_lt_of_le hg2 b4.size
  have hwT : w.heap.size ≤ w4.heap.size := (Below.step (Below.step (Below.step b1 b2) b3) b4).size
  have e0 : n + dq 0 = n := by rw [show dq 0 = 0 from rfl]; omega
  rw [e0] at t5
  have HE0 := Lib.hid e0
  have HEL := Lib.hid (show l + dq 0 = l by rw [show dq 0 = 0 from rfl]; omega)
  clear b1 b2 b3 b4 hg1' hg2 r1' r2 e0
  go_wp2_with fail
  generalize w4.heap.size = T at t5 hgT1 hgT2 hwT ⊢
  generalize hwz : w4.alloc (.cells #[.int .i64 n, .int .i64 0, .int .i64 n] 23) = wz at t5 q5 r3 r4 ⊢
  clear hwz
  go_loopw [9] (fun i wr => ∃ k : Int, i = .int .i64 k ∧ 0 ≤ k ∧ k ≤ 5 ∧ (k ≤ 4 → Blk wr T n k (n + dq k) 23) ∧ Below T wz wr) (fun i _ => (5 - intOf i).toNat)
  case atStart => exact ⟨0, rfl, by omega, by omega, fun _ => by rw [HE0.out]; exact t5, Below.refl _ _⟩
  case round =>
    obtain ⟨k, rfl, hk0, hk5, htr, hbr⟩ := hrel
    have r5 := r3.later hbr hgT1
    have r6 := r4.later hbr hgT2
    by_cases hlt : k ≤ 4
    · have tr := htr hlt
      clear htr r3 r4
      obtain rfl | rfl | rfl | rfl | rfl : k = 0 ∨ k = 1 ∨ k = 2 ∨ k = 3 ∨ k = 4 := by omega
      · have ka := r5 0 (by omega)
        have kb := r6 0 (by omega)
        rw [show n + dq (0 : Nat) = n from HE0.out] at ka
        rw [show l + dq (0 : Nat) = l from HEL.out] at kb
        have tr' : Blk wr T n 0 n 23 := by rw [HE0.out] at tr; exact tr
        have c0 := tr'.c0
        have c1 := tr'.c1
        have c2 := tr'.c2
        have e1 : IntKind.i64.wrap (n - n) = 0 := by rw [IntWalk.i64_in _ (by omega)]; omega
        have e2 : IntKind.i64.wrap (l - l) = 0 := by rw [IntWalk.i64_in _ (by omega)]; omega
        clear r5 r6 tr
        go_wp2_with fail
        go_quiet (fail)
        have HS := Lib.hid (mk5 (wz := wz) (T := T) (w := (wr.drewN nq).drew) (below_dN hbr (nq + 1)) tr' ka)
        have hTl := tr'.lt
        have HA := Lib.hid (ans_first h0 h1)
        go_wp2_with fail
        go_region_held3 (fun w' => S5 wz T n 0 (n) g1 0 (n) w')
          (first
            | exact HS.out
            | exact alloc5 HS.out
            | exact keep5 (by assumption) HS.out
            | exact keep5 (by assumption) (alloc5 HS.out)
            | exact alloc5 (keep5 (by assumption) HS.out)
            | exact set5 hTl hgT1 (keep5 (by assumption) (alloc5 HS.out)))
          (first | (go_at_call 8; refine (failed_at n 0 (n) (n) _ _ _ _ _ HA.out _).mono ?_; rintro e w' ⟨rfl, hk⟩; (try (have ub : Blk w' wr.heap.size 0 0 0 23 := (hk.block wr.heap.size (by show wr.heap.size < (wr.heap.push _).size; simp)).trans (by show (wr.heap.push _)[wr.heap.size]? = _; simp); have u0 := ub.c0; have u1 := ub.c1; have u2 := ub.c2; have v0 := ub.f 0; have v1 := ub.f 1; have v2 := ub.f 2))))
        · refine endT (x := n) (y := 0) (z := n) (p := n) (q := 1) (r := n + 2) (U := w'.heap.size) (g := g1) (i := 0) (v := n) (wz := wz) (T := T) (by assumption) (Blk.made _ _ _ _ _) (fun wv hb ht hu => ?_)
          clear HS
          clear c0 c1 c2 ka kb e1 e2 tr'
          have c0 := ht.c0
          have c1 := ht.c1
          have c2 := ht.c2
          have f0 := ht.f 0
          have f1 := ht.f 1
          have f2 := ht.f 2
          have d0 := hu.c0
          have d1 := hu.c1
          have d2 := hu.c2
          go_wp2_with fail
          go_roundw
          case rel => exact ⟨1, by go_num, by omega, by omega, fun _ => store3 ht, set3_below' hb (Nat.le_refl _) _ _ _⟩
          case measure => simp [intOf]
        · refine endT (x := n) (y := 0) (z := n) (p := n) (q := 1) (r := n + 2) (U := wr.heap.size) (g := g1) (i := 0) (v := n) (wz := wz) (T := T) (by assumption) (store3 ub) (fun wv hb ht hu => ?_)
          clear HS
          clear c0 c1 c2 ka kb e1 e2 tr'
          have c0 := ht.c0
          have c1 := ht.c1
          have c2 := ht.c2
          have f0 := ht.f 0
          have f1 := ht.f 1
          have f2 := ht.f 2
          have d0 := hu.c0
          have d1 := hu.c1
          have d2 := hu.c2
          go_wp2_with fail
          go_roundw
          case rel => exact ⟨1, by go_num, by omega, by omega, fun _ => store3 ht, set3_below' hb (Nat.le_refl _) _ _ _⟩
          case measure => simp [intOf]
      · have ka := r5 1 (by omega)
        have kb := r6 1 (by omega)
        have kp := r5 0 (by omega)
        rw [show dq (1 : Nat) = 2 from rfl] at ka kb
        rw [show n + dq (0 : Nat) = n from HE0.out] at kp
        have tr' : Blk wr T n 1 (n + 2) 23 := tr
        have c0 := tr'.c0
        have c1 := tr'.c1
        have c2 := tr'.c2
        have e1 : IntKind.i64.wrap (n + 2 - n) = 2 := by rw [IntWalk.i64_in _ (by omega)]; omega
        have e2 : IntKind.i64.wrap (l + 2 - l) = 2 := by rw [IntWalk.i64_in _ (by omega)]; omega
        have e3 : decide (n + 2 ≤ n) = false := decide_eq_false (by omega)
        clear r5 r6 tr
        go_wp2_with fail
        go_quiet (fail)
        have HS := Lib.hid (mk5 (wz := wz) (T := T) (w := (wr.drewN nq).drew) (below_dN hbr (nq + 1)) tr' ka)
        have hTl := tr'.lt
        have HA := Lib.hid (ans_go (n := n) h0 h1 (k := 1) (q := 2) (p := 4) (u := 6) (by omega) (by omega) rfl (by omega))
        go_wp2_with fail
        go_region_held3 (fun w' => S5 wz T n 1 (n + 2) g1 1 (n + 2) w')
          (first
            | exact HS.out
            | exact alloc5 HS.out
            | exact keep5 (by assumption) HS.out
            | exact keep5 (by assumption) (alloc5 HS.out)
            | exact alloc5 (keep5 (by assumption) HS.out)
            | exact set5 hTl hgT1 (keep5 (by assumption) (alloc5 HS.out)))
          (first | (go_at_call 8; refine (failed_at n 1 (n + 2) (n + 2) _ _ _ _ _ HA.out _).mono ?_; rintro e w' ⟨rfl, hk⟩; (try (have ub : Blk w' wr.heap.size 0 0 0 23 := (hk.block wr.heap.size (by show wr.heap.size < (wr.heap.push _).size; simp)).trans (by show (wr.heap.push _)[wr.heap.size]? = _; simp); have u0 := ub.c0; have u1 := ub.c1; have u2 := ub.c2; have v0 := ub.f 0; have v1 := ub.f 1; have v2 := ub.f 2))))
        · refine endT (x := n) (y := 1) (z := n + 2) (p := n) (q := 2) (r := n + 6) (U := w'.heap.size) (g := g1) (i := 1) (v := n + 2) (wz := wz) (T := T) (by assumption) (Blk.made _ _ _ _ _) (fun wv hb ht hu => ?_)
          clear HS
          clear c0 c1 c2 ka kb e1 e2 tr'
          have c0 := ht.c0
          have c1 := ht.c1
          have c2 := ht.c2
          have f0 := ht.f 0
          have f1 := ht.f 1
          have f2 := ht.f 2
          have d0 := hu.c0
          have d1 := hu.c1
          have d2 := hu.c2
          go_wp2_with fail
          go_roundw
          case rel => exact ⟨2, by go_num, by omega, by omega, fun _ => store3 ht, set3_below' hb (Nat.le_refl _) _ _ _⟩
          case measure => simp [intOf]
        · refine endT (x := n) (y := 1) (z := n + 2) (p := n) (q := 2) (r := n + 6) (U := wr.heap.size) (g := g1) (i := 1) (v := n + 2) (wz := wz) (T := T) (by assumption) (store3 ub) (fun wv hb ht hu => ?_)
          clear HS
          clear c0 c1 c2 ka kb e1 e2 tr'
          have c0 := ht.c0
          have c1 := ht.c1
          have c2 := ht.c2
          have f0 := ht.f 0
          have f1 := ht.f 1
          have f2 := ht.f 2
          have d0 := hu.c0
          have d1 := hu.c1
          have d2 := hu.c2
          go_wp2_with fail
          go_roundw
          case rel => exact ⟨2, by go_num, by omega, by omega, fun _ => store3 ht, set3_below' hb (Nat.le_refl _) _ _ _⟩
          case measure => simp [intOf]
      · have ka := r5 2 (by omega)
        have kb := r6 2 (by omega)
        have kp := r5 1 (by omega)
        rw [show dq (2 : Nat) = 6 from rfl] at ka kb
        rw [show dq (1 : Nat) = 2 from rfl] at kp
        have tr' : Blk wr T n 2 (n + 6) 23 := tr
        have c0 := tr'.c0
        have c1 := tr'.c1
        have c2 := tr'.c2
        have e1 : IntKind.i64.wrap (n + 6 - n) = 6 := by rw [IntWalk.i64_in _ (by omega)]; omega
        have e2 : IntKind.i64.wrap (l + 6 - l) = 6 := by rw [IntWalk.i64_in _ (by omega)]; omega
        have e3 : decide (n + 6 ≤ n + 2) = false := decide_eq_false (by omega)
        clear r5 r6 tr
        go_wp2_with fail
        go_quiet (fail)
        have HS := Lib.hid (mk5 (wz := wz) (T := T) (w := (wr.drewN nq).drew) (below_dN hbr (nq + 1)) tr' ka)
        have hTl := tr'.lt
        have HA := Lib.hid (ans_go (n := n) h0 h1 (k := 2) (q := 6) (p := 8) (u := 14) (by omega) (by omega) rfl (by omega))
        go_wp2_with fail
        go_region_held3 (fun w' => S5 wz T n 2 (n + 6) g1 2 (n + 6) w')
          (first
            | exact HS.out
            | exact alloc5 HS.out
            | exact keep5 (by assumption) HS.out
            | exact keep5 (by assumption) (alloc5 HS.out)
            | exact alloc5 (keep5 (by assumption) HS.out)
            | exact set5 hTl hgT1 (keep5 (by assumption) (alloc5 HS.out)))
          (first | (go_at_call 8; refine (failed_at n 2 (n + 6) (n + 6) _ _ _ _ _ HA.out _).mono ?_; rintro e w' ⟨rfl, hk⟩; (try (have ub : Blk w' wr.heap.size 0 0 0 23 := (hk.block wr.heap.size (by show wr.heap.size < (wr.heap.push _).size; simp)).trans (by show (wr.heap.push _)[wr.heap.size]? = _; simp); have u0 := ub.c0; have u1 := ub.c1; have u2 := ub.c2; have v0 := ub.f 0; have v1 := ub.f 1; have v2 := ub.f 2))))
        · refine endT (x := n) (y := 2) (z := n + 6) (p := n) (q := 3) (r := n + 14) (U := w'.heap.size) (g := g1) (i := 2) (v := n + 6) (wz := wz) (T := T) (by assumption) (Blk.made _ _ _ _ _) (fun wv hb ht hu => ?_)
          clear HS
          clear c0 c1 c2 ka kb e1 e2 tr'
          have c0 := ht.c0
          have c1 := ht.c1
          have c2 := ht.c2
          have f0 := ht.f 0
          have f1 := ht.f 1
          have f2 := ht.f 2
          have d0 := hu.c0
          have d1 := hu.c1
          have d2 := hu.c2
          go_wp2_with fail
          go_roundw
          case rel => exact ⟨3, by go_num, by omega, by omega, fun _ => store3 ht, set3_below' hb (Nat.le_refl _) _ _ _⟩
          case measure => simp [intOf]
        · refine endT (x := n) (y := 2) (z := n + 6) (p := n) (q := 3) (r := n + 14) (U := wr.heap.size) (g := g1) (i := 2) (v := n + 6) (wz := wz) (T := T) (by assumption) (store3 ub) (fun wv hb ht hu => ?_)
          clear HS
          clear c0 c1 c2 ka kb e1 e2 tr'
          have c0 := ht.c0
          have c1 := ht.c1
          have c2 := ht.c2
          have f0 := ht.f 0
          have f1 := ht.f 1
          have f2 := ht.f 2
          have d0 := hu.c0
          have d1 := hu.c1
          have d2 := hu.c2
          go_wp2_with fail
          go_roundw
          case rel => exact ⟨3, by go_num, by omega, by omega, fun _ => store3 ht, set3_below' hb (Nat.le_refl _) _ _ _⟩
          case measure => simp [intOf]
      · have ka := r5 3 (by omega)
        have kb := r6 3 (by omega)
        have kp := r5 2 (by omega)
        rw [show dq (3 : Nat) = 14 from rfl] at ka kb
        rw [show dq (2 : Nat) = 6 from rfl] at kp
        have tr' : Blk wr T n 3 (n + 14) 23 := tr
        have c0 := tr'.c0
        have c1 := tr'.c1
        have c2 := tr'.c2
        have e1 : IntKind.i64.wrap (n + 14 - n) = 14 := by rw [IntWalk.i64_in _ (by omega)]; omega
        have e2 : IntKind.i64.wrap (l + 14 - l) = 14 := by rw [IntWalk.i64_in _ (by omega)]; omega
        have e3 : decide (n + 14 ≤ n + 6) = false := decide_eq_false (by omega)
        clear r5 r6 tr
        go_wp2_with fail
        go_quiet (fail)
        have HS := Lib.hid (mk5 (wz := wz) (T := T) (w := (wr.drewN nq).drew) (below_dN hbr (nq + 1)) tr' ka)
        have hTl := tr'.lt
        have HA := Lib.hid (ans_go (n := n) h0 h1 (k := 3) (q := 14) (p := 16) (u := 30) (by omega) (by omega) rfl (by omega))
        go_wp2_with fail
        go_region_held3 (fun w' => S5 wz T n 3 (n + 14) g1 3 (n + 14) w')
          (first
            | exact HS.out
            | exact alloc5 HS.out
            | exact keep5 (by assumption) HS.out
            | exact keep5 (by assumption) (alloc5 HS.out)
            | exact alloc5 (keep5 (by assumption) HS.out)
            | exact set5 hTl hgT1 (keep5 (by assumption) (alloc5 HS.out)))
          (first | (go_at_call 8; refine (failed_at n 3 (n + 14) (n + 14) _ _ _ _ _ HA.out _).mono ?_; rintro e w' ⟨rfl, hk⟩; (try (have ub : Blk w' wr.heap.size 0 0 0 23 := (hk.block wr.heap.size (by show wr.heap.size < (wr.heap.push _).size; simp)).trans (by show (wr.heap.push _)[wr.heap.size]? = _; simp); have u0 := ub.c0; have u1 := ub.c1; have u2 := ub.c2; have v0 := ub.f 0; have v1 := ub.f 1; have v2 := ub.f 2))))
        · refine endT (x := n) (y := 3) (z := n + 14) (p := n) (q := 4) (r := n + 30) (U := w'.heap.size) (g := g1) (i := 3) (v := n + 14) (wz := wz) (T := T) (by assumption) (Blk.made _ _ _ _ _) (fun wv hb ht hu => ?_)
          clear HS
          clear c0 c1 c2 ka kb e1 e2 tr'
          have c0 := ht.c0
          have c1 := ht.c1
          have c2 := ht.c2
          have f0 := ht.f 0
          have f1 := ht.f 1
          have f2 := ht.f 2
          have d0 := hu.c0
          have d1 := hu.c1
          have d2 := hu.c2
          go_wp2_with fail
          go_roundw
          case rel => exact ⟨4, by go_num, by omega, by omega, fun _ => store3 ht, set3_below' hb (Nat.le_refl _) _ _ _⟩
          case measure => simp [intOf]
        · refine endT (x := n) (y := 3) (z := n + 14) (p := n) (q := 4) (r := n + 30) (U := wr.heap.size) (g := g1) (i := 3) (v := n + 14) (wz := wz) (T := T) (by assumption) (store3 ub) (fun wv hb ht hu => ?_)
          clear HS
          clear c0 c1 c2 ka kb e1 e2 tr'
          have c0 := ht.c0
          have c1 := ht.c1
          have c2 := ht.c2
          have f0 := ht.f 0
          have f1 := ht.f 1
          have f2 := ht.f 2
          have d0 := hu.c0
          have d1 := hu.c1
          have d2 := hu.c2
          go_wp2_with fail
          go_roundw
          case rel => exact ⟨4, by go_num, by omega, by omega, fun _ => store3 ht, set3_below' hb (Nat.le_refl _) _ _ _⟩
          case measure => simp [intOf]
      · have ka := r5 4 (by omega)
        have kb := r6 4 (by omega)
        have kp := r5 3 (by omega)
        rw [show dq (4 : Nat) = 30 from rfl] at ka kb
        rw [show dq (3 : Nat) = 14 from rfl] at kp
        have tr' : Blk wr T n 4 (n + 30) 23 := tr
        have c0 := tr'.c0
        have c1 := tr'.c1
        have c2 := tr'.c2
        have e1 : IntKind.i64.wrap (n + 30 - n) = 30 := by rw [IntWalk.i64_in _ (by omega)]; omega
        have e2 : IntKind.i64.wrap (l + 30 - l) = 30 := by rw [IntWalk.i64_in _ (by omega)]; omega
        have e3 : decide (n + 30 ≤ n + 14) = false := decide_eq_false (by omega)
        clear r5 r6 tr
        go_wp2_with fail
        go_quiet (fail)
        have HS := Lib.hid (mk5 (wz := wz) (T := T) (w := (wr.drewN nq).drew) (below_dN hbr (nq + 1)) tr' ka)
        have hTl := tr'.lt
        have HA := Lib.hid (ans_last h0 h1)
        go_wp2_with fail
        go_region_held3 (fun w' => S5 wz T n 4 (n + 30) g1 4 (n + 30) w')
          (first
            | exact HS.out
            | exact alloc5 HS.out
            | exact keep5 (by assumption) HS.out
            | exact keep5 (by assumption) (alloc5 HS.out)
            | exact alloc5 (keep5 (by assumption) HS.out)
            | exact set5 hTl hgT1 (keep5 (by assumption) (alloc5 HS.out)))
          (first | (go_at_call 8; refine (failed_at n 4 (n + 30) (n + 30) _ _ _ _ _ HA.out _).mono ?_; rintro e w' ⟨rfl, hk⟩; (try (have ub : Blk w' wr.heap.size 0 0 0 23 := (hk.block wr.heap.size (by show wr.heap.size < (wr.heap.push _).size; simp)).trans (by show (wr.heap.push _)[wr.heap.size]? = _; simp); have u0 := ub.c0; have u1 := ub.c1; have u2 := ub.c2; have v0 := ub.f 0; have v1 := ub.f 1; have v2 := ub.f 2))))
        · refine endT (x := n) (y := 4) (z := n + 30) (p := 0) (q := 0) (r := 0) (U := w'.heap.size) (g := g1) (i := 4) (v := n + 30) (wz := wz) (T := T) (by assumption) (Blk.made _ _ _ _ _) (fun wv hb ht hu => ?_)
          clear HS
          clear c0 c1 c2 ka kb e1 e2 tr'
          have c0 := ht.c0
          have c1 := ht.c1
          have c2 := ht.c2
          have f0 := ht.f 0
          have f1 := ht.f 1
          have f2 := ht.f 2
          have d0 := hu.c0
          have d1 := hu.c1
          have d2 := hu.c2
          go_wp2_with fail
          go_roundw
          case rel => exact ⟨5, by go_num, by omega, by omega, fun h => absurd h (by omega), set3_below' hb (Nat.le_refl _) _ _ _⟩
          case measure => simp [intOf]
        · refine endT (x := n) (y := 4) (z := n + 30) (p := 0) (q := 0) (r := 0) (U := wr.heap.size) (g := g1) (i := 4) (v := n + 30) (wz := wz) (T := T) (by assumption) (store3 ub) (fun wv hb ht hu => ?_)
          clear HS
          clear c0 c1 c2 ka kb e1 e2 tr'
          have c0 := ht.c0
          have c1 := ht.c1
          have c2 := ht.c2
          have f0 := ht.f 0
          have f1 := ht.f 1
          have f2 := ht.f 2
          have d0 := hu.c0
          have d1 := hu.c1
          have d2 := hu.c2
          go_wp2_with fail
          go_roundw
          case rel => exact ⟨5, by go_num, by omega, by omega, fun h => absurd h (by omega), set3_below' hb (Nat.le_refl _) _ _ _⟩
          case measure => simp [intOf]
    · have hke : k = 5 := by omega
      subst hke
      clear htr
      go_wp2_with fail
      go_ret
      exact ⟨rfl, q5.trans (hbr.mono hwT)⟩
end Go.Proofs.Ytehekapmbipagaa
