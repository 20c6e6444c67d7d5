/-
  The walks of slices.DeleteFunc (at entries, by the closure of Book.Kind) and of Book.Kind.
-/
import Derived.Test.YtoldipjchcmonaaKind
namespace Go.Proofs.Ytoldipjchcmonaa
open Go.RowKit

theorem keep1 {w w' : World} (k : Below w.heap.size w w') {a : Addr} {v : Value} (h : w.cell? a = some v) : w'.cell? a = some v :=
  (k.cell (World.block_lt_of_cell? w a h)).trans h

/-- From entry q on the row holds what it held. -/
def Rest (w : World) (g cap : Nat) (l : List Ent) (q : Nat) : Prop :=
  ∃ cur : Array Value, w.heap[g]? = some (.cells cur 30 (0, 0)) ∧ cur.size = cap * 3 ∧ ∀ t, q * 3 ≤ t → t < l.length * 3 → cur[t]? = (cells3 l)[t]?

theorem Rest.of_own {w : World} {g cap : Nat} {l : List Ent} (h : w.ownsRow 0 30 3 (.slice (some ⟨g, 0, none⟩) l.length cap) l.length (cells3 l)) (q : Nat) : Rest w g cap l q ∧ l.length ≤ cap ∧ cap ≤ maxLen := by
  rcases h.2 with ⟨hv, _⟩ | ⟨g', cap', cur, hv, _, hh, h1, h2, h3, h4⟩
  · cases hv
  · injection hv with e1 _ e3
    injection e1 with e1
    injection e1 with e1
    subst e1 e3
    refine ⟨⟨cur, hh, h3, fun t _ ht => ?_⟩, h1, h2⟩
    rw [← h4, List.getElem?_take, if_pos ht, Array.getElem?_toList]
theorem Rest.same {w w' : World} {g cap : Nat} {l : List Ent} {q : Nat} (h : Rest w g cap l q) (hb : w'.heap[g]? = w.heap[g]?) : Rest w' g cap l q := by
  obtain ⟨cur, h1, h2, h3⟩ := h
  exact ⟨cur, hb.trans h1, h2, h3⟩
theorem Rest.next {w : World} {g cap : Nat} {l : List Ent} {q : Nat} (h : Rest w g cap l q) : Rest w g cap l (q + 1) := by
  obtain ⟨cur, h1, h2, h3⟩ := h
  exact ⟨cur, h1, h2, fun t a b => h3 t (by omega) b⟩
theorem Rest.lt {w : World} {g cap : Nat} {l : List Ent} {q : Nat} (h : Rest w g cap l q) : g < w.heap.size := by
  obtain ⟨cur, h1, _⟩ := h
  exact lt_of_block h1
theorem Rest.cells {w : World} {g cap : Nat} {l : List Ent} {q : Nat} (h : Rest w g cap l q) {x : Ent} (hx : l[q]? = some x) :
    w.cell? ⟨g, q * 3, none⟩ = some (.int .i64 x.s) ∧ w.cell? ⟨g, q * 3 + 1, none⟩ = some (.int .i64 x.k) ∧ w.cell? ⟨g, q * 3 + 2, none⟩ = some (.string x.w) := by
  obtain ⟨cur, h1, h2, h3⟩ := h
  obtain ⟨a0, a1, a2⟩ := cells3_at hx
  have hq : q < l.length := (List.getElem?_eq_some_iff.1 hx).1
  exact ⟨(cell_of_heap h1).trans ((h3 _ (by omega) (by omega)).trans a0), (cell_of_heap h1).trans ((h3 _ (by omega) (by omega)).trans a1), (cell_of_heap h1).trans ((h3 _ (by omega) (by omega)).trans a2)⟩
theorem Rest.some {w : World} {g cap : Nat} {l : List Ent} {q : Nat} (h : Rest w g cap l q) {t : Nat} (ht : t < cap * 3) : (∃ u, w.cell? ⟨g, t, none⟩ = some u) ∧ w.frozen? ⟨g, t, none⟩ = false := by
  obtain ⟨cur, h1, h2, _⟩ := h
  exact ⟨⟨cur[t], (cell_of_heap h1).trans (Array.getElem?_eq_getElem (by omega))⟩, free_of_heap h1⟩
theorem Rest.set {w : World} {g cap : Nat} {l : List Ent} {q i : Nat} (h : Rest w g cap l q) (hi : i + 1 ≤ q) (a b c : Value) :
    Rest (((w.setCell ⟨g, i * 3, none⟩ a).setCell ⟨g, i * 3 + 1, none⟩ b).setCell ⟨g, i * 3 + 2, none⟩ c) g cap l (q + 1) := by
  obtain ⟨cur, h1, h2, h3⟩ := h
  refine ⟨_, heap_setCell_same _ g (i * 3 + 2) _ _ _ (heap_setCell_same _ g (i * 3 + 1) _ _ _ (heap_setCell_same _ g (i * 3) _ _ _ h1)), by simpa using h2, fun t ht1 ht2 => ?_⟩
  rw [Array.getElem?_setIfInBounds_ne (by omega), Array.getElem?_setIfInBounds_ne (by omega), Array.getElem?_setIfInBounds_ne (by omega)]
  exact h3 t (by omega) ht2

theorem below_setCells (b : Nat) : ∀ (vs : List Value) (o : Nat) (w : World), Below b w (w.setCells b o vs)
  | [], _, w => Below.refl b w
  | v :: r, o, w => ((Below.refl b w).setCell (p := ⟨b, o, none⟩) (by exact Nat.le_refl _) v).trans (below_setCells b r (o + 1) _)

theorem zero30 (w : World) : (zeroValue 30).run Try.prog w = .ok (.agg #[.int .i64 0, .int .i64 0, .string ⟨#[]⟩]) w := by kernel_rfl
theorem zeros_one (n : Nat) : ∀ v ∈ (Builtin.zeroCells #[.int .i64 0, .int .i64 0, .string ⟨#[]⟩] n).toList, v.oneCell' = true := by
  intro v hv
  unfold Builtin.zeroCells at hv
  rw [Array.mem_toList_iff, Array.mem_map] at hv
  obtain ⟨i, _, rfl⟩ := hv
  have h3 : i % (#[.int .i64 0, .int .i64 0, .string ⟨#[]⟩] : Array Value).size < 3 := Nat.mod_lt _ (by simp)
  generalize i % (#[.int .i64 0, .int .i64 0, .string ⟨#[]⟩] : Array Value).size = m at h3
  obtain rfl | rfl | rfl : m = 0 ∨ m = 1 ∨ m = 2 := by omega
  all_goals rfl
theorem zeros_length (n : Nat) : (Builtin.zeroCells #[.int .i64 0, .int .i64 0, .string ⟨#[]⟩] n).toList.length = n * 3 := by
  simp [Builtin.zeroCells]

/-- The built-in clear writes its block alone. -/
theorem run_clear3 (w : World) (ty : TypeId) (b o n c : Nat) (hn : 0 < n) (hc : ∀ j, j < n * 3 → (w.cell? ⟨b, o + j, none⟩).isSome = true) (hf : ∀ j, j < n * 3 → w.frozen? ⟨b, o + j, none⟩ = false) :
    ∃ w', (Builtin.clear_ #[36] ty #[.slice (some ⟨b, o, none⟩) n c]).run Try.prog w = .ok (.tuple #[]) w' ∧ Below b w w' := by
  have hst := run_storeCells_cells (P := Try.prog) b o (Builtin.zeroCells #[.int .i64 0, .int .i64 0, .string ⟨#[]⟩] n).toList 0 w (by rw [zeros_length]; simpa using hc) (by rw [zeros_length]; simpa using hf) (zeros_one n)
  simp only [Nat.add_zero] at hst
  refine ⟨_, ?_, below_setCells b (Builtin.zeroCells #[.int .i64 0, .int .i64 0, .string ⟨#[]⟩] n).toList o w⟩
  obtain ⟨m, rfl⟩ : ∃ m, n = m + 1 := ⟨n - 1, by omega⟩
  have hz : (Value.agg #[.int .i64 0, .int .i64 0, .string ⟨#[]⟩]).cells = #[.int .i64 0, .int .i64 0, .string ⟨#[]⟩] := rfl
  simp [Builtin.clear_, run_underlying Try.underlying36, hz, hst]

def Deleted (kind : Int) (l : List Ent) (lo : Nat) (w : World) (e : Ending) (w' : World) : Prop := ∃ ao cap, e = .returned (.slice ao (kc kind l) cap) ∧ Below lo w w'

set_option maxHeartbeats 400000 in
theorem del_nil (kind : Int) (f : Value) (lo : Nat) (w : World) (hlo : lo ≤ w.heap.size) :
    Calls Try.prog 20 #[.slice none 0 0, f] w (Deleted kind [] lo w) := by
  go_enter Try.func20, Try.ntmps20
  go_wp2_with fail
  refine (index_nil kind f _).mono ?_
  rintro e w' ⟨⟨rfl, -⟩ | ⟨n, rfl, hn, -⟩, hb⟩
  · go_wp2_with fail
    go_ret
    exact ⟨none, 0, rfl, ⟨hb.os, hb.tape, hb.output, hb.size, fun k hk => hb.block k (by omega)⟩⟩
  · simp at hn

set_option maxRecDepth 100000 in
set_option maxHeartbeats 4000000 in
theorem del_some (kind : Int) (l : List Ent) (g cap b : Nat) (w : World) (hown : w.ownsRow 0 30 3 (.slice (some ⟨g, 0, none⟩) l.length cap) l.length (cells3 l)) (hn : l.length ≤ 100000) (hc : w.cell? ⟨b, 0, none⟩ = some (.int .i64 kind)) (hbg : b < g) :
    Calls Try.prog 20 #[.slice (some ⟨g, 0, none⟩) l.length cap, .func (Fn.func 19) #[] #[.pointer (some ⟨b, 0, none⟩)]] w (Deleted kind l g w) := by
  have hgl := own_lt hown (g := g) rfl
  have HN := Lib.hid hown
  have HC := Lib.hid hc
  obtain ⟨-, hcap, hcap2⟩ := Rest.of_own hown 0
  unfold maxLen at hcap2
  clear hown hc
  go_enter Try.func20, Try.ntmps20
  go_wp2_with fail
  refine (index_some kind l g cap b _ HN.out hn HC.out).mono ?_
  rintro e w1 ⟨⟨rfl, hall⟩ | ⟨n, rfl, hnl, hkn⟩, hb⟩
  · have HA := Lib.hid hall
    have HB := Lib.hid hb
    clear hall hb
    go_wp2_with fail
    go_ret
    exact ⟨some ⟨g, 0, none⟩, cap, by rw [HA.out]; rfl, HB.out.mono (Nat.le_of_lt hgl)⟩
  · have hr1 := (Rest.of_own HN.out (n + 1)).1.same (hb.block g hgl)
    have HK := Lib.hid hkn
    have HB := Lib.hid (hb.mono (Nat.le_of_lt hgl))
    have HR := Lib.hid hr1
    have hn0 : (0 : Int) ≤ n := by omega
    have hn1 : (n : Int) ≤ 100000 := by omega
    have hnz : ((n : Int) == -1) = false := by rw [beq_eq_false_iff_ne]; omega
    clear hkn hb hr1
    go_wp2_with fail
    go_loopw [5, 6] (fun i j wr => ∃ q : Nat, q ≤ l.length ∧ j = .int .i64 q ∧ i = .int .i64 (kc kind (l.take q) : Nat) ∧ kc kind (l.take q) + 1 ≤ q ∧ Rest wr g cap l q ∧ Below g w wr) (fun _ j _ => (l.length - intOf j).toNat)
    case atStart => exact ⟨n + 1, by omega, by go_num, by rw [HK.out], by rw [HK.out]; omega, HR.out, HB.out⟩
    case round =>
      obtain ⟨q, hq, rfl, rfl, hkq, hr, hbr⟩ := hrel
      obtain ⟨m, hm⟩ : ∃ m, kc kind (l.take q) = m := ⟨_, rfl⟩
      rw [hm] at hkq ⊢
      have HM := Lib.hid hm
      have HR2 := Lib.hid hr
      have HB2 := Lib.hid hbr
      clear hm hr hbr
      by_cases hlt : (q : Int) < l.length
      · obtain ⟨x, hx⟩ : ∃ x, l[q]? = some x := ⟨l[q], List.getElem?_eq_getElem (by omega)⟩
        obtain ⟨c0, c1, c2⟩ := HR2.out.cells hx
        have hcw := (HB2.out.cell (p := ⟨b, 0, none⟩) hbg).trans HC.out
        have hgw := HR2.out.lt
        have HW := Lib.hid ((Below.refl wr.heap.size wr).alloc (Nat.le_refl _) (.cells #[.int .i64 x.s, .int .i64 x.k, .string x.w] 30))
        have HCW := Lib.hid (keep1 HW.out hcw)
        have HV := Lib.hid (XB.made wr x)
        have hsn := kc_snoc kind (l.take q) x
        rw [← take_snoc l q hx, HM.out] at hsn
        have hq0 : (0 : Int) ≤ q := by omega
        have hq1 : (q : Int) ≤ 100000 := by omega
        have hm0 : (0 : Int) ≤ m := by omega
        have hm1 : (m : Int) < l.length := by omega
        have hm2 : (m : Int) ≤ 100000 := by omega
        clear hx hcw
        cases hy : isK kind x
        · rw [hy, if_neg (by simp)] at hsn
          have HS := Lib.hid hsn
          have HY := Lib.hid hy
          clear hsn hy
          go_wp2_with fail
          refine (clos_is x kind b false HY.out _ HCW.out).mono ?_
          rintro e w4 ⟨rfl, hb4⟩
          have hb5 : Below g wr w4 := (HW.out.mono (Nat.le_of_lt hgw)).trans (hb4.mono (by simp; omega))
          have hs4 : w4.heap[g]? = wr.heap[g]? := (hb4.block g (by simp; omega)).trans (HW.out.block g hgw)
          have HB5 := Lib.hid hb5
          have HS4 := Lib.hid hs4
          clear hb4 hb5 hs4
          go_wp2_with fail
          go_roundw
          case rel => exact ⟨q + 1, by omega, by go_num, by rw [HS.out]; rfl, by rw [HS.out]; omega, (HR2.out.same HS4.out).next, HB2.out.trans HB5.out⟩
          case measure => simp [intOf]; omega
        · rw [hy, if_pos rfl] at hsn
          have HS := Lib.hid hsn
          have HY := Lib.hid hy
          clear hsn hy
          go_wp2_with fail
          refine (clos_is x kind b true HY.out _ HCW.out).mono ?_
          rintro e w4 ⟨rfl, hb4⟩
          have hb5 : Below g wr w4 := (HW.out.mono (Nat.le_of_lt hgw)).trans (hb4.mono (by simp; omega))
          have hs4 : w4.heap[g]? = wr.heap[g]? := (hb4.block g (by simp; omega)).trans (HW.out.block g hgw)
          have hv4 : XB w4 wr.heap.size x := (hb4.block wr.heap.size (by simp)).trans HV.out
          have r4 := HR2.out.same hs4
          obtain ⟨⟨u0, d0⟩, e0⟩ := r4.some (t := m * 3) (by omega)
          obtain ⟨⟨u1, d1⟩, e1⟩ := r4.some (t := m * 3 + 1) (by omega)
          obtain ⟨⟨u2, d2⟩, e2⟩ := r4.some (t := m * 3 + 2) (by omega)
          have v0 := hv4.c0
          have v1 := hv4.c1
          have v2 := hv4.c2
          have HB5 := Lib.hid hb5
          have HR4 := Lib.hid r4
          clear hb4 hb5 hs4 hv4 r4
          go_wp2_with fail
          go_roundw
          case rel => exact ⟨q + 1, by omega, by go_num, by rw [HS.out]; go_num, by rw [HS.out]; omega, HR4.out.set hkq _ _ _, ((HB2.out.trans HB5.out).setCell (by exact Nat.le_refl _) _ |>.setCell (by exact Nat.le_refl _) _ |>.setCell (by exact Nat.le_refl _) _)⟩
          case measure => simp [intOf]; omega
      · have hql : q = l.length := by omega
        have hme : m = kc kind l := by
          have h := HM.out
          rw [hql, List.take_length] at h
          exact h.symm
        have HQ := Lib.hid hql
        have HE := Lib.hid hme
        have hm0 : (0 : Int) ≤ m := by omega
        have hm1 : (m : Int) < l.length := by omega
        have hm3 : (m : Int) < cap := by omega
        have hm4 : m < cap := by omega
        obtain ⟨w9, hcl, hb9⟩ := run_clear3 wr 0 g (m * 3) (l.length - m) (cap - m) (by omega) (fun j hj => by
          obtain ⟨⟨u, hu⟩, _⟩ := HR2.out.some (t := m * 3 + j) (by omega)
          rw [hu]
          rfl) (fun j hj => (HR2.out.some (t := m * 3 + j) (by omega)).2)
        have HB9 := Lib.hid (HB2.out.trans hb9)
        clear hql hme hb9
        go_wp2_with (simp only [hcl])
        go_ret
        exact ⟨some ⟨g, 0, none⟩, cap, by rw [← HE.out]; rfl, HB9.out⟩
end Go.Proofs.Ytoldipjchcmonaa
