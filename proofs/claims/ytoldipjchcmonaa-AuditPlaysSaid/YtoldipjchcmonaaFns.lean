/-
  The walks of audit.New, there, Count, slices.Clone.
-/
import Derived.Test.YtoldipjchcmonaaBook
import Derived.WalkSpells
import Derived.Laws.AppendOwnNone
namespace Go.Proofs.Ytoldipjchcmonaa
open Go.RowKit

set_option maxHeartbeats 400000 in
theorem new_no (n : Int) (w : World) (h : ¬ (1 ≤ n ∧ n ≤ 16)) :
    Calls Try.prog 7 #[.int .i64 n] w fun e w' => e = .returned (.tuple #[.pointer none, .int .i64 1]) ∧ w = w' := by
  by_cases h1 : n < 1
  · clear h
    go_enter Try.func7, Try.ntmps7
    go_wp2
    go_ret2
    exact ⟨rfl, rfl⟩
  · have h2 : 16 < n := by omega
    clear h
    go_enter Try.func7, Try.ntmps7
    go_wp2
    go_ret2
    exact ⟨rfl, rfl⟩

theorem book_zero (P : Nat) : bookCells P (fun _ => 0) (fun _ => .slice none 0 0) = #[.int .i64 (P : Int), .int .i64 0, .int .i64 0, .int .i64 0, .int .i64 0, .int .i64 0, .int .i64 0, .int .i64 0, .int .i64 0, .int .i64 0, .int .i64 0, .int .i64 0, .int .i64 0, .int .i64 0, .int .i64 0, .int .i64 0, .int .i64 0,
    .slice none 0 0, .slice none 0 0, .slice none 0 0, .slice none 0 0, .slice none 0 0, .slice none 0 0, .slice none 0 0, .slice none 0 0, .slice none 0 0, .slice none 0 0, .slice none 0 0, .slice none 0 0, .slice none 0 0, .slice none 0 0, .slice none 0 0, .slice none 0 0] := by
  kernel_rfl

set_option maxHeartbeats 400000 in
theorem new_yes (n : Nat) (w : World) (h1 : 1 ≤ n) (h2 : n ≤ 16) :
    Calls Try.prog 7 #[.int .i64 n] w fun e w' => e = .returned (.tuple #[.pointer (some ⟨w.heap.size, 0, none⟩), .int .i64 0]) ∧ Book w' w.heap.size n (fun _ => 0) (fun _ => []) (fun k => k = w.heap.size) ∧ Below w.heap.size w w' ∧ w.heap.size < w'.heap.size := by
  have hb := Book.made w n
  rw [book_zero] at hb
  have HB := Lib.hid hb
  have g1 : (1 : Int) ≤ n := by omega
  have g2 : (n : Int) ≤ 16 := by omega
  clear hb
  go_enter Try.func7, Try.ntmps7
  go_wp2
  go_ret2
  exact ⟨rfl, HB.out, (Below.refl _ _).alloc (Nat.le_refl _) _, by simp⟩

def isPart (P : Nat) (p : Int) : Bool := decide (0 ≤ p) && decide (p < P)
theorem isPart_true {P : Nat} {p : Int} : isPart P p = true ↔ 0 ≤ p ∧ p < P := by simp [isPart]
theorem retb {a b : Bool} (h : a = b) : Ending.returned (.bool a) = .returned (.bool b) := by rw [h]

set_option maxHeartbeats 400000 in
theorem there_any (B P : Nat) (p : Int) (w : World) (hc : w.cell? ⟨B, 0, none⟩ = some (.int .i64 (P : Int))) :
    Calls Try.prog 14 #[.pointer (some ⟨B, 0, none⟩), .int .i64 p] w fun e w' => e = .returned (.bool (isPart P p)) ∧ w = w' := by
  by_cases h1 : 0 ≤ p
  · go_enter Try.func14, Try.ntmps14
    go_wp2
    go_ret
    exact ⟨retb (by simp [isPart, h1]), rfl⟩
  · go_enter Try.func14, Try.ntmps14
    go_wp2
    go_ret
    exact ⟨retb (by simp [isPart]; omega), rfl⟩
theorem there_is (B P : Nat) (p : Int) (x : Bool) (hx : isPart P p = x) (w : World) (hc : w.cell? ⟨B, 0, none⟩ = some (.int .i64 (P : Int))) :
    Calls Try.prog 14 #[.pointer (some ⟨B, 0, none⟩), .int .i64 p] w fun e w' => e = .returned (.bool x) ∧ w = w' := hx ▸ there_any B P p w hc

set_option maxHeartbeats 400000 in
theorem load_any (B o n : Nat) (w : World) (hc : w.cell? ⟨B, o, none⟩ = some (.int .i64 (n : Int))) :
    Calls Try.prog 18 #[.pointer (some ⟨B, o, none⟩)] w fun e w' => e = .returned (.int .i64 (n : Int)) ∧ w = w' := by
  have hl := run_call_load (P := Try.prog) Try.func22 (by kernel_rfl) (by kernel_rfl) (by kernel_rfl) .i64 (by kernel_rfl) hc
  go_enter Try.func18, Try.ntmps18
  go_wp2
  go_ret
  exact ⟨rfl, rfl⟩

set_option maxHeartbeats 400000 in
theorem add_any (B o n : Nat) (w : World) (hc : w.cell? ⟨B, o, none⟩ = some (.int .i64 (n : Int))) (hf : w.frozen? ⟨B, o, none⟩ = false) (h1 : n ≤ 1000000) :
    Calls Try.prog 15 #[.pointer (some ⟨B, o, none⟩), .int .i64 1] w fun e w' => e = .returned (.int .i64 ((n + 1 : Nat) : Int)) ∧ w.setCell ⟨B, o, none⟩ (.int .i64 ((n + 1 : Nat) : Int)) = w' := by
  have hl := run_call_add (P := Try.prog) Try.func21 (by kernel_rfl) (by kernel_rfl) (by kernel_rfl) .i64 (by kernel_rfl) (y := 1) (s := ((n + 1 : Nat) : Int)) hc hf (by simp [go_sem, IntKind.wrap_i64]; omega)
  go_enter Try.func15, Try.ntmps15
  go_wp2
  go_ret
  exact ⟨rfl, rfl⟩

def cntV (P : Nat) (c : Nat → Nat) (p : Int) : Int := if isPart P p = true then (c p.toNat : Int) else 0

set_option maxHeartbeats 400000 in
theorem count_no (B P : Nat) (c : Nat → Nat) (ls : Nat → List Ent) (F : Nat → Prop) (p : Int) (w : World) (h : Book w B P c ls F) (hp : isPart P p = false) :
    Calls Try.prog 11 #[.pointer (some ⟨B, 0, none⟩), .int .i64 p] w fun e w' => e = .returned (.int .i64 0) ∧ w = w' := by
  obtain ⟨⟨vs, h⟩, _⟩ := h
  have HC := Lib.hid h.parts
  have HP := Lib.hid hp
  clear h hp
  go_enter Try.func11, Try.ntmps11
  go_wp2_with fail
  refine (there_is B P p false HP.out _ HC.out).mono ?_
  rintro e w' ⟨rfl, rfl⟩
  go_wp2_with fail
  go_ret
  exact ⟨rfl, rfl⟩

set_option maxHeartbeats 400000 in
theorem count_yes (B P : Nat) (c : Nat → Nat) (ls : Nat → List Ent) (F : Nat → Prop) (p : Nat) (w : World) (h : Book w B P c ls F) (hP : P ≤ 16) (hp : p < P) :
    Calls Try.prog 11 #[.pointer (some ⟨B, 0, none⟩), .int .i64 p] w fun e w' => e = .returned (.int .i64 (c p : Int)) ∧ w = w' := by
  obtain ⟨⟨vs, h⟩, _⟩ := h
  have HC := Lib.hid h.parts
  have hp0 : (0 : Int) ≤ p := by omega
  have hp1 : (p : Int) < 16 := by omega
  have HP := Lib.hid (isPart_true.2 (show (0 : Int) ≤ p ∧ (p : Int) < P by omega))
  have hc := h.cnt (p := p) (by omega)
  have HV := Lib.hid hc
  clear h hc
  go_enter Try.func11, Try.ntmps11
  go_wp2_with fail
  refine (there_is B P p true HP.out _ HC.out).mono ?_
  rintro e w' ⟨rfl, rfl⟩
  go_wp2_with fail
  refine (load_any B (1 + p) (c p) _ HV.out).mono ?_
  rintro e w' ⟨rfl, rfl⟩
  go_wp2_with fail
  go_ret
  exact ⟨rfl, rfl⟩
end Go.Proofs.Ytoldipjchcmonaa
