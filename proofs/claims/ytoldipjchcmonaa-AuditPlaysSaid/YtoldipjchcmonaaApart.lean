/-
  The walk of AuditApart: it returns true, and makes new blocks alone.
-/
import Derived.Test.YtoldipjchcmonaaPair
import Derived.Laws.StructEq
namespace Go.Proofs.Ytoldipjchcmonaa
open Go.RowKit
set_option linter.unusedSimpArgs false
attribute [local go_sem ↓] Go.wp_at_zero Go.wp_at_succ

/-- A note of the script lies in the world. -/
abbrev SN (b o : Nat) (q : Int) (x : Ent) (w : World) : Prop := w.cell? ⟨b, o, none⟩ = some (.int .i64 q) ∧ w.cell? ⟨b, o + 1, none⟩ = some (.int .i64 x.s) ∧ w.cell? ⟨b, o + 2, none⟩ = some (.int .i64 x.k) ∧ w.cell? ⟨b, o + 3, none⟩ = some (.string x.w)
theorem SN.below {w w' : World} {b o : Nat} {q : Int} {x : Ent} (h : SN b o q x w) (hb : b < w.heap.size) (hw : Below w.heap.size w w') : SN b o q x w' :=
  ⟨(hw.cell (p := ⟨b, _, none⟩) hb).trans h.1, (hw.cell (p := ⟨b, _, none⟩) hb).trans h.2.1, (hw.cell (p := ⟨b, _, none⟩) hb).trans h.2.2.1, (hw.cell (p := ⟨b, _, none⟩) hb).trans h.2.2.2⟩

theorem Shape.later {w w' : World} {v : Value} {l : List Ent} {lo : Nat} (h : Shape w v l lo) (hb : Below w.heap.size w w') : Shape w' v l lo := by
  obtain ⟨ao, cap, hv, h⟩ := h
  refine ⟨ao, cap, hv, fun i x hx => ?_⟩
  obtain ⟨g, ha, hl, hg, c0, c1, c2⟩ := h i x hx
  exact ⟨g, ha, hl, Nat.lt_of_lt_of_le hg hb.size, (hb.cell (p := ⟨g, _, none⟩) hg).trans c0, (hb.cell (p := ⟨g, _, none⟩) hg).trans c1, (hb.cell (p := ⟨g, _, none⟩) hg).trans c2⟩

theorem below_drewN (w : World) (n : Nat) : Below w.heap.size w (w.drewN n) := by
  induction n with
  | zero => exact Below.refl _ _
  | succ n ih => exact ih.drew

/-- A row of the call's own, as far as it is written: its block is there. -/
def Row (w : World) (ao : Option Addr) (n lo : Nat) : Prop := n = 0 ∨ ∃ g cs, ao = some ⟨g, 0, none⟩ ∧ lo ≤ g ∧ w.heap[g]? = some (.cells cs 30 (0, 0)) ∧ n * 3 ≤ cs.size
theorem row_of {w : World} {b : Nat} {v : Value} {l : List Ent} (h : w.ownsRow b 30 3 v l.length (cells3 l)) : ∃ ao cap, v = .slice ao l.length cap ∧ Row w ao l.length b := by
  rcases h.2 with ⟨hv, h0⟩ | ⟨g, cap, cur, hv, hg, hh, hc, _, hs, _⟩
  · exact ⟨none, 0, by rw [h0]; exact hv, .inl h0⟩
  · exact ⟨_, cap, hv, .inr ⟨g, cur, rfl, hg, hh, by rw [hs]; exact Nat.mul_le_mul_right 3 hc⟩⟩
theorem Row.at {w : World} {ao : Option Addr} {n lo j : Nat} (h : Row w ao n lo) (hj : j < n) : ∃ g v, ao = some ⟨g, 0, none⟩ ∧ lo ≤ g ∧ w.cell? ⟨g, j * 3 + 1, none⟩ = some v ∧ w.frozen? ⟨g, j * 3 + 1, none⟩ = false := by
  rcases h with h | ⟨g, cs, ha, hg, hh, hs⟩
  · omega
  · exact ⟨g, cs[j * 3 + 1]'(by omega), ha, hg, by rw [cell_of_heap hh]; exact Array.getElem?_eq_getElem (by omega), free_of_heap hh⟩
theorem Row.set {w : World} {g n lo i : Nat} {v : Value} (h : Row w (some ⟨g, 0, none⟩) n lo) : Row (w.setCell ⟨g, i, none⟩ v) (some ⟨g, 0, none⟩) n lo := by
  rcases h with h | ⟨g', cs, ha, hg, hh, hs⟩
  · exact .inl h
  · injection ha with ha
    injection ha with ha
    subst ha
    exact .inr ⟨g, _, rfl, hg, heap_setCell_same w g i _ _ _ hh, by simpa using hs⟩
theorem Same.short {W w : World} {A B p c n hi : Nat} {l : List Ent} (h : Same W w A B p c l n hi) (hp : p < 16) : l.length ≤ 64 := by
  obtain ⟨cA, lA, FA, cB, lB, FB, h, ca, cb, la, lb⟩ := h
  rw [← la]
  exact h.a.2 p hp

theorem Both.drew {W w : World} {A B p n hi : Nat} (h : Both W w A B p n hi) : Both W w.drew A B p n hi := h.later (Below.refl _ _).drew

set_option maxRecDepth 100000 in
set_option maxHeartbeats 1600000 in
theorem apart_far (ao : Option Addr) (len cap : Nat) (p : Int) (w : World) (h : 200 < len ∨ p < 0 ∨ 2 < p) :
    Calls Try.prog 4 #[.slice ao len cap, .int .i64 p] w fun e w' => e = .returned (.bool true) ∧ Below w.heap.size w w' := by
  by_cases h1 : (200 : Int) < len
  · go_enter Try.func4, Try.ntmps4
    go_wp2_with fail
    refine (awake_any _).mono ?_
    rintro e w1 ⟨rfl, b1⟩
    go_wp2_with fail
    go_ret
    exact ⟨rfl, b1⟩
  · have h1' : (len : Int) ≤ 200 := by omega
    clear h1
    by_cases h2 : p < 0
    · go_enter Try.func4, Try.ntmps4
      go_wp2_with fail
      refine (awake_any _).mono ?_
      rintro e w1 ⟨rfl, b1⟩
      go_wp2_with fail
      go_ret
      exact ⟨rfl, b1⟩
    · have h3 : 2 < p := by omega
      have h2' : 0 ≤ p := by omega
      clear h2
      go_enter Try.func4, Try.ntmps4
      go_wp2_with fail
      refine (awake_any _).mono ?_
      rintro e w1 ⟨rfl, b1⟩
      go_wp2_with fail
      go_ret
      exact ⟨rfl, b1⟩

set_option maxRecDepth 100000 in
set_option maxHeartbeats 8000000 in
theorem apart_near (ao : Option Addr) (len cap p : Nat) (w : World) (h : len ≤ 200) (hp : p ≤ 2) (hk : Notes w ao len) :
    Calls Try.prog 4 #[.slice ao len cap, .int .i64 p] w fun e w' => e = .returned (.bool true) ∧ Below w.heap.size w w' := by
  have h' : (len : Int) ≤ 200 := by omega
  have hp0 : (0 : Int) ≤ p := by omega
  have hp2 : (p : Int) ≤ 2 := by omega
  have HK := Lib.hid hk
  clear hk
  go_enter Try.func4, Try.ntmps4
  go_wp2_with fail
  refine (awake_any _).mono ?_
  rintro e w1 ⟨rfl, b1⟩
  go_wp2_with fail
  refine (new_yes 3 _ (by omega) (by omega)).mono ?_
  rintro e w2 ⟨rfl, h2, b2, z2⟩
  have H2 := Lib.hid h2
  clear h2
  go_wp2_with fail
  refine (new_yes 3 _ (by omega) (by omega)).mono ?_
  rintro e w3 ⟨rfl, h3, b3, z3⟩
  have HB := Lib.hid (both_made (p := p) rfl rfl b1 H2.out b2 z2 h3 b3 z3)
  clear h3 b3 z3 H2 b2 z2 b1
  generalize w1.heap.size = A at HB ⊢
  generalize w2.heap.size = B at HB ⊢
  go_wp2_with fail
  go_loopw [9, 10, 11] (fun o was i wr => ∃ (k : Nat) (oa : Option Addr) (ol oc : Nat), i = .int .i64 k ∧ k ≤ len ∧ o = .slice oa ol oc ∧ was = .int .i64 (ol : Nat) ∧ Both w wr A B p (2 * k) wr.heap.size) (fun _ _ i _ => (len - intOf i).toNat)
  case atStart => exact ⟨0, none, 0, 0, rfl, Nat.zero_le _, rfl, rfl, HB.out⟩
  case round =>
    clear HB
    obtain ⟨k, oa, ol, oc, rfl, hk, rfl, rfl, hbo⟩ := hrel
    have HB := Lib.hid hbo
    clear hbo
    have hk0 : (0 : Int) ≤ k := by omega
    by_cases hlk : (k : Int) < len
    · obtain ⟨kb, ko, q, x, rfl, hkb, c0, c1, c2, c3, q0, q1⟩ := HK.out k (by omega)
      have hsn : SN kb (ko + k * 4) q x w := ⟨c0, c1, c2, c3⟩
      have HS0 := Lib.hid hsn
      have HS := Lib.hid (hsn.below hkb HB.out.below)
      clear hsn c0 c1 c2 c3
      by_cases hbig : (1000 : Int) < x.w.size
      · obtain ⟨c0, c1, c2, c3⟩ := HS.out
        go_wp2_with fail
        go_ret
        exact ⟨rfl, HB.out.below⟩
      · obtain ⟨c0, c1, c2, c3⟩ := HS.out
        have hsm : (x.w.size : Int) ≤ 1000 := by omega
        clear hbig
        go_wp2_with fail
        go_region_held3 (fun w' => SN kb (ko + k * 4) q x w')
          (first | exact HS.out | exact hsx')
          (first | (go_at_call 8; refine (note_first w A B p (2 * k) _ q x _ (by exact HB.out.drew) (by omega) (by omega)).mono ?_; rintro e w' ⟨r, rfl, hne, heq⟩; have hbw : Below w.heap.size w w' := (if e : q = (p : Int) then (heq e).below else (hne e).below); have hsx' : SN kb (ko + k * 4) q x w' := HS0.out.below hkb hbw))
        clear HS c0 c1 c2 c3
        have HS := Lib.hid hsx'
        have HNE := Lib.hid hne
        have HEQ := Lib.hid heq
        clear hsx' hne heq hbw
        by_cases hq : q = (p : Int)
        · obtain ⟨c0, c1, c2, c3⟩ := HS.out
          have HH := Lib.hid (HEQ.out hq)
          clear HNE HEQ
          go_wp2_with fail
          refine (note_second w A B p (2 * k + 1) _ x _ HH.out (by omega) (by omega)).mono ?_
          rintro e w5 ⟨r5, rfl, hb5⟩
          have HB5 := Lib.hid hb5
          clear hb5 HH c0 c1 c2 c3
          by_cases hm : ((k : Int) == (len : Int) / 2) = true
          · go_wp2_with fail
            obtain ⟨c, l, hsa⟩ := HB5.out
            have HL := Lib.hid hsa
            clear hsa
            refine (list_first w A B p _ _ c l _ HL.out (by omega)).mono ?_
            rintro e w6 ⟨v, rfl, hown, hb6⟩
            obtain ⟨oa', oc', rfl, hrow⟩ := row_of hown
            have hl64 := HL.out.short (by omega)
            have HB6 := Lib.hid (HB5.out.later hb6)
            have HR := Lib.hid hrow
            clear hown hb6 hrow HL
            generalize w5.heap.size = hi at HB6 HR ⊢
            clear HB5 HS
            go_wp2_with fail
            go_loopw [12] (fun j wr => ∃ j' : Nat, j = .int .i64 j' ∧ j' ≤ l.length ∧ Row wr oa' l.length hi ∧ Both w wr A B p (2 * k + 2) hi) (fun j _ => (l.length - intOf j).toNat)
            case atStart => exact ⟨0, rfl, Nat.zero_le _, HR.out, HB6.out⟩
            case round =>
              clear HR HB6
              obtain ⟨j, rfl, hj, hrow, hbo⟩ := hrel
              have HR := Lib.hid hrow
              have HB6 := Lib.hid hbo
              clear hrow hbo
              have hj0 : (0 : Int) ≤ j := by omega
              by_cases hlj : (j : Int) < (l.length : Nat)
              · obtain ⟨g, v, rfl, hg, hc, hf⟩ := HR.out.at (j := j) (by omega)
                go_wp2_with fail
                go_roundw
                case rel => exact ⟨j + 1, by go_num, by omega, HR.out.set, HB6.out.set hg⟩
                case measure => simp [intOf]; omega
              · go_wp2_with fail
                go_roundw
                case rel => exact ⟨k + 1, _, _, _, by go_num, by omega, rfl, rfl, HB6.out.up (by omega) HB6.out.le (Nat.le_refl _)⟩
                case measure => simp [intOf]; omega
          · have hm' : ((k : Int) == (len : Int) / 2) = false := by simpa using hm
            clear hm
            go_wp2_with fail
            go_roundw
            case rel => exact ⟨k + 1, _, _, _, by go_num, by omega, rfl, rfl, HB5.out.up (by omega) (Nat.le_refl _) (Nat.le_refl _)⟩
            case measure => simp [intOf]; omega
        · obtain ⟨c0, c1, c2, c3⟩ := HS.out
          have HB5 := Lib.hid ((HNE.out hq).up (m := 2 * k + 2) (by omega) (Nat.le_refl _) (Nat.le_refl _))
          clear HNE HEQ
          by_cases hm : ((k : Int) == (len : Int) / 2) = true
          · go_wp2_with fail
            obtain ⟨c, l, hsa⟩ := HB5.out
            have HL := Lib.hid hsa
            clear hsa
            refine (list_first w A B p _ _ c l _ HL.out (by omega)).mono ?_
            rintro e w6 ⟨v, rfl, hown, hb6⟩
            obtain ⟨oa', oc', rfl, hrow⟩ := row_of hown
            have hl64 := HL.out.short (by omega)
            have HB6 := Lib.hid (HB5.out.later hb6)
            have HR := Lib.hid hrow
            clear hown hb6 hrow HL
            generalize w'.heap.size = hi at HB6 HR ⊢
            clear HB5 HS
            go_wp2_with fail
            go_loopw [12] (fun j wr => ∃ j' : Nat, j = .int .i64 j' ∧ j' ≤ l.length ∧ Row wr oa' l.length hi ∧ Both w wr A B p (2 * k + 2) hi) (fun j _ => (l.length - intOf j).toNat)
            case atStart => exact ⟨0, rfl, Nat.zero_le _, HR.out, HB6.out⟩
            case round =>
              clear HR HB6
              obtain ⟨j, rfl, hj, hrow, hbo⟩ := hrel
              have HR := Lib.hid hrow
              have HB6 := Lib.hid hbo
              clear hrow hbo
              have hj0 : (0 : Int) ≤ j := by omega
              by_cases hlj : (j : Int) < (l.length : Nat)
              · obtain ⟨g, v, rfl, hg, hc, hf⟩ := HR.out.at (j := j) (by omega)
                go_wp2_with fail
                go_roundw
                case rel => exact ⟨j + 1, by go_num, by omega, HR.out.set, HB6.out.set hg⟩
                case measure => simp [intOf]; omega
              · go_wp2_with fail
                go_roundw
                case rel => exact ⟨k + 1, _, _, _, by go_num, by omega, rfl, rfl, HB6.out.up (by omega) HB6.out.le (Nat.le_refl _)⟩
                case measure => simp [intOf]; omega
          · have hm' : ((k : Int) == (len : Int) / 2) = false := by simpa using hm
            clear hm
            go_wp2_with fail
            go_roundw
            case rel => exact ⟨k + 1, _, _, _, by go_num, by omega, rfl, rfl, HB5.out.up (by omega) (Nat.le_refl _) (Nat.le_refl _)⟩
            case measure => simp [intOf]; omega
    · obtain ⟨c, l, hsa⟩ := HB.out
      have hl64 := hsa.short (by omega)
      have HL := Lib.hid hsa
      clear hsa HB
      go_wp2_with fail
      refine (list_first w A B p _ _ c l _ HL.out (by omega)).mono ?_
      rintro e w6 ⟨vx, rfl, hx, bx⟩
      have HL6 := Lib.hid (HL.out.later bx)
      have HX := Lib.hid hx
      clear hx bx HL
      go_wp2_with fail
      refine (list_second w A B p _ _ c l _ HL6.out (by omega)).mono ?_
      rintro e w7 ⟨vy, rfl, hy, hb7⟩
      have HL7 := Lib.hid (HL6.out.later hb7)
      have hx7 := shape_of (own_same HX.out fun g hg => hb7.block g (own_lt HX.out hg))
      have hy7 := shape_of hy
      obtain ⟨xa, xc, rfl, _⟩ := hx7
      obtain ⟨ya, yc, rfl, _⟩ := hy7
      have HX7 := Lib.hid (shape_of (own_same HX.out fun g hg => hb7.block g (own_lt HX.out hg)))
      have HY7 := Lib.hid (shape_of hy)
      clear HX HL6 hy hb7
      go_wp2_with fail
      refine (count_first w A B p _ _ c l _ HL7.out (by omega)).mono ?_
      rintro e w8 ⟨rfl, rfl⟩
      go_wp2_with fail
      refine (count_second w A B p _ _ c l _ HL7.out (by omega)).mono ?_
      rintro e w8 ⟨rfl, rfl⟩
      go_wp2_with fail
      go_loopw [15] (fun i wr => ∃ j : Nat, i = .int .i64 j ∧ j ≤ l.length ∧ Below w7.heap.size w7 wr) (fun i _ => (l.length - intOf i).toNat)
      case atStart => exact ⟨0, rfl, Nat.zero_le _, Below.refl _ _⟩
      case round =>
        obtain ⟨j, rfl, hj, hbw⟩ := hrel
        have HW := Lib.hid hbw
        clear hbw
        have hj0 : (0 : Int) ≤ j := by omega
        by_cases hlj : (j : Int) < (l.length : Nat)
        · obtain ⟨x, hx⟩ : ∃ x, l[j]? = some x := ⟨l[j], List.getElem?_eq_getElem (by omega)⟩
          obtain ⟨_, _, e1, hX⟩ := HX7.out.later HW.out
          obtain ⟨_, _, e2, hY⟩ := HY7.out.later HW.out
          injection e1 with e1 _ e1c
          injection e2 with e2 _ e2c
          subst e1 e1c e2 e2c
          obtain ⟨g, rfl, -, hg, c0, c1, c2⟩ := hX j x hx
          obtain ⟨g', rfl, -, hg', d0, d1, d2⟩ := hY j x hx
          clear hx hX hY
          go_wp2_with fail
          go_quiet (fail)
          go_wp2_with fail
          go_roundw
          case rel => exact ⟨j + 1, by go_num, by omega, HW.out.trans ((below_drewN _ _).mono HW.out.size)⟩
          case measure => simp [intOf]; omega
        · go_wp2_with fail
          go_ret
          exact ⟨rfl, (HL7.out.later HW.out).below⟩
end Go.Proofs.Ytoldipjchcmonaa
