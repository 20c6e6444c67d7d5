/-
  The walks of the closure in Book.Kind, slices.IndexFunc, slices.DeleteFunc (at entries, by that closure) and of Book.Kind: how many are of a kind.
-/
import Derived.Test.YtoldipjchcmonaaList
import Derived.Deep.LoopGhost
namespace Go.Proofs.Ytoldipjchcmonaa
open Go.RowKit

def isK (kind : Int) (x : Ent) : Bool := x.k == kind
/-- How many are of a kind. -/
def kc (kind : Int) (l : List Ent) : Nat := l.countP (isK kind)
theorem kc_nil (kind : Int) : kc kind [] = 0 := rfl
theorem kc_le (kind : Int) (l : List Ent) : kc kind l ≤ l.length := List.countP_le_length
theorem kc_snoc (kind : Int) (l : List Ent) (x : Ent) : kc kind (l ++ [x]) = kc kind l + if isK kind x = true then 1 else 0 := by
  unfold kc
  rw [List.countP_append, List.countP_cons, List.countP_nil, Nat.zero_add]
theorem take_snoc (l : List Ent) (k : Nat) {x : Ent} (h : l[k]? = some x) : l.take (k + 1) = l.take k ++ [x] := by
  rw [List.take_add_one, h]
  rfl

def EV (x : Ent) : Value := .agg #[.int .i64 x.s, .int .i64 x.k, .string x.w]

set_option maxHeartbeats 400000 in
theorem clos_any (x : Ent) (kind : Int) (b : Nat) (w : World) (hc : w.cell? ⟨b, 0, none⟩ = some (.int .i64 kind)) :
    Calls Try.prog 19 #[.agg #[.int .i64 x.s, .int .i64 x.k, .string x.w], .pointer (some ⟨b, 0, none⟩)] w fun e w' => e = .returned (.bool (!isK kind x)) ∧ Below w.heap.size w w' := by
  have hb := World.block_lt_of_cell? w _ hc
  go_enter Try.func19, Try.ntmps19
  go_wp2
  go_ret
  exact ⟨retb (by unfold isK; rfl), (Below.refl _ _).alloc (Nat.le_refl _) _⟩
theorem clos_is (x : Ent) (kind : Int) (b : Nat) (y : Bool) (hy : isK kind x = y) (w : World) (hc : w.cell? ⟨b, 0, none⟩ = some (.int .i64 kind)) :
    Calls Try.prog 19 #[.agg #[.int .i64 x.s, .int .i64 x.k, .string x.w], .pointer (some ⟨b, 0, none⟩)] w fun e w' => e = .returned (.bool (!y)) ∧ Below w.heap.size w w' := hy ▸ clos_any x kind b w hc

/-- The closure's value. -/
def clo (b : Nat) : Value := .func (Fn.func 19) #[] #[.pointer (some ⟨b, 0, none⟩)]

def Indexed (kind : Int) (l : List Ent) (w : World) (e : Ending) (w' : World) : Prop :=
  ((e = .returned (.int .i64 (-1)) ∧ kc kind l = l.length) ∨ (∃ n : Nat, e = .returned (.int .i64 (n : Int)) ∧ n < l.length ∧ kc kind (l.take (n + 1)) = n)) ∧ Below w.heap.size w w'

set_option maxHeartbeats 400000 in
theorem index_nil (kind : Int) (f : Value) (w : World) :
    Calls Try.prog 23 #[.slice none 0 0, f] w (Indexed kind [] w) := by
  go_enter Try.func23, Try.ntmps23
  go_wp2_with fail
  go_loop [8] (fun i => i = .int .i64 0) (fun _ => 0)
  case atStart => rfl
  case round =>
    obtain rfl := hrel
    go_wp2_with fail
    go_ret
    exact ⟨.inl ⟨rfl, rfl⟩, Below.refl _ _⟩

set_option maxHeartbeats 1600000 in
theorem index_some (kind : Int) (l : List Ent) (g cap b : Nat) (w : World) (hown : w.ownsRow 0 30 3 (.slice (some ⟨g, 0, none⟩) l.length cap) l.length (cells3 l)) (hn : l.length ≤ 100000) (hc : w.cell? ⟨b, 0, none⟩ = some (.int .i64 kind)) :
    Calls Try.prog 23 #[.slice (some ⟨g, 0, none⟩) l.length cap, .func (Fn.func 19) #[] #[.pointer (some ⟨b, 0, none⟩)]] w (Indexed kind l w) := by
  have HN := Lib.hid hown
  have HC := Lib.hid hc
  have hgl := own_lt hown (g := g) rfl
  clear hown hc
  go_enter Try.func23, Try.ntmps23
  go_wp2_with fail
  go_loopw [8] (fun i wr => ∃ k : Nat, k ≤ l.length ∧ i = .int .i64 k ∧ kc kind (l.take k) = k ∧ Below w.heap.size w wr) (fun i _ => (l.length - intOf i).toNat)
  case atStart => exact ⟨0, Nat.zero_le _, rfl, rfl, Below.refl _ _⟩
  case round =>
    obtain ⟨k, hk, rfl, hkc, hb⟩ := hrel
    have HK := Lib.hid hkc
    have HB := Lib.hid hb
    clear hkc hb
    by_cases hlt : (k : Int) < l.length
    · obtain ⟨x, hx⟩ : ∃ x, l[k]? = some x := ⟨l[k], List.getElem?_eq_getElem (by omega)⟩
      obtain ⟨a0, a1, a2⟩ := cells3_at hx
      have c0 : wr.cell? ⟨g, k * 3, none⟩ = some (.int .i64 x.s) := (HB.out.cell (p := ⟨g, k * 3, none⟩) hgl).trans ((HN.out.cellAt _ (by omega)).trans a0)
      have c1 : wr.cell? ⟨g, k * 3 + 1, none⟩ = some (.int .i64 x.k) := (HB.out.cell (p := ⟨g, k * 3 + 1, none⟩) hgl).trans ((HN.out.cellAt _ (by omega)).trans a1)
      have c2 : wr.cell? ⟨g, k * 3 + 2, none⟩ = some (.string x.w) := (HB.out.cell (p := ⟨g, k * 3 + 2, none⟩) hgl).trans ((HN.out.cellAt _ (by omega)).trans a2)
      have hcw := (HB.out.cell (p := ⟨b, 0, none⟩) (World.block_lt_of_cell? w _ HC.out)).trans HC.out
      have HW := Lib.hid hcw
      have hk0 : (0 : Int) ≤ k := by omega
      have hk1 : (k : Int) ≤ 100000 := by omega
      have htk := take_snoc l k hx
      have hsn := kc_snoc kind (l.take k) x
      rw [← htk, HK.out] at hsn
      have HX := Lib.hid hx
      clear a0 a1 a2 hcw hx htk
      cases hy : isK kind x
      · rw [hy, if_neg (by simp)] at hsn
        have HS := Lib.hid hsn
        have HY := Lib.hid hy
        clear hsn hy
        go_wp2_with fail
        refine (clos_is x kind b false HY.out _ HW.out).mono ?_
        rintro e w' ⟨rfl, hb'⟩
        go_wp2_with fail
        go_ret
        exact ⟨.inr ⟨k, rfl, by omega, by rw [HS.out]; rfl⟩, HB.out.trans (hb'.mono HB.out.size)⟩
      · rw [hy, if_pos rfl] at hsn
        have HS := Lib.hid hsn
        have HY := Lib.hid hy
        clear hsn hy
        go_wp2_with fail
        refine (clos_is x kind b true HY.out _ HW.out).mono ?_
        rintro e w' ⟨rfl, hb'⟩
        go_wp2_with fail
        go_roundw
        case rel => exact ⟨k + 1, by omega, by go_num, HS.out, HB.out.trans (hb'.mono HB.out.size)⟩
        case measure => simp [intOf]; omega
    · have hke : k = l.length := by omega
      have HE := Lib.hid hke
      clear hke
      go_wp2_with fail
      go_ret
      refine ⟨.inl ⟨rfl, ?_⟩, HB.out⟩
      have h := HK.out
      rw [HE.out, List.take_length] at h
      exact h
end Go.Proofs.Ytoldipjchcmonaa
