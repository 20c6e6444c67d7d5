/-
  The walk of Book.List: a new row of the part's entries.
-/
import Derived.Test.YtoldipjchcmonaaNote
namespace Go.Proofs.Ytoldipjchcmonaa
open Go.RowKit

def Listed (l : List Ent) (w : World) (e : Ending) (w' : World) : Prop := ∃ v, e = .returned v ∧ w'.ownsRow w.heap.size 30 3 v l.length (cells3 l) ∧ Below w.heap.size w w'
def lsOf (P : Nat) (ls : Nat → List Ent) (p : Int) : List Ent := if isPart P p = true then ls p.toNat else []
def cOf (P : Nat) (c : Nat → Nat) (p : Int) : Nat := if isPart P p = true then c p.toNat else 0

set_option maxHeartbeats 800000 in
theorem list_no (B P : Nat) (c : Nat → Nat) (ls : Nat → List Ent) (F : Nat → Prop) (p : Int) (w : World) (h : Book w B P c ls F) (hp : isPart P p = false) :
    Calls Try.prog 9 #[.pointer (some ⟨B, 0, none⟩), .int .i64 p] w (Listed [] w) := by
  obtain ⟨⟨vs, h⟩, _⟩ := h
  have HC := Lib.hid h.parts
  have HP := Lib.hid hp
  clear h hp
  go_enter Try.func9, Try.ntmps9
  go_wp2_with fail
  refine (there_is B P p false HP.out _ HC.out).mono ?_
  rintro e w' ⟨rfl, rfl⟩
  go_wp2_with fail
  go_ret
  exact ⟨_, rfl, ⟨rfl, .inl ⟨rfl, rfl⟩⟩, Below.refl _ _⟩

set_option maxHeartbeats 800000 in
theorem list_yes (B P : Nat) (c : Nat → Nat) (ls : Nat → List Ent) (F : Nat → Prop) (p : Nat) (w : World) (h : Book w B P c ls F) (hP : P ≤ 16) (hp : p < P) :
    Calls Try.prog 9 #[.pointer (some ⟨B, 0, none⟩), .int .i64 p] w (Listed (ls p) w) := by
  obtain ⟨⟨vs, h⟩, hs⟩ := h
  have HC := Lib.hid h.parts
  have hp0 : (0 : Int) ≤ p := by omega
  have hp1 : (p : Int) < 16 := by omega
  have HP := Lib.hid (isPart_true.2 (show (0 : Int) ≤ p ∧ (p : Int) < P by omega))
  have cv := h.row (p := p) (by omega)
  have hown := h.own p (by omega)
  have hnz := h.nz p (by omega)
  have hs' := hs p (by omega)
  rcases hown.2 with ⟨hv, h0⟩ | ⟨g, cap, cur, hv, _⟩
  · have hl0 : ls p = [] := List.length_eq_zero_iff.1 h0
    rw [hv] at cv
    have HL := Lib.hid hl0
    clear h hs hown hnz hv h0 hl0 hs'
    go_enter Try.func9, Try.ntmps9
    go_wp2_with fail
    refine (there_is B P p true HP.out _ HC.out).mono ?_
    rintro e w' ⟨rfl, rfl⟩
    go_wp2_with fail
    refine (clone_nil _).mono ?_
    rintro e w' ⟨rfl, rfl⟩
    go_wp2_with fail
    go_ret
    exact ⟨_, rfl, ⟨by rw [HL.out]; rfl, .inl ⟨rfl, by rw [HL.out]; rfl⟩⟩, Below.refl _ _⟩
  · have hpos : 0 < (ls p).length := by
      rcases Nat.eq_zero_or_pos (ls p).length with e | e
      · have := hnz (List.length_eq_zero_iff.1 e)
        rw [hv] at this
        cases this
      · exact e
    rw [hv] at cv hown
    have HN := Lib.hid hown
    have HZ := Lib.hid hpos
    have HS := Lib.hid hs'
    clear h hs hown hnz hv hpos hs'
    go_enter Try.func9, Try.ntmps9
    go_wp2_with fail
    refine (there_is B P p true HP.out _ HC.out).mono ?_
    rintro e w' ⟨rfl, rfl⟩
    go_wp2_with fail
    refine (clone_some g 0 (ls p).length cap (cells3 (ls p)) _ (by have := HS.out; omega) (cells3_length _) (fun i u hu => by rw [Nat.zero_add, HN.out.cellAt i (by have := (List.getElem?_eq_some_iff.1 hu).1; rw [cells3_length] at this; exact this)]; exact hu) (cells3_one _) HZ.out).mono ?_
    rintro e w' ⟨g', cap', rfl, hown', hb⟩
    have HW := Lib.hid hown'
    clear hown'
    go_wp2_with fail
    go_ret
    exact ⟨_, rfl, HW.out, hb⟩

theorem list_any (B P : Nat) (c : Nat → Nat) (ls : Nat → List Ent) (F : Nat → Prop) (p : Int) (w : World) (h : Book w B P c ls F) (hP : P ≤ 16) :
    Calls Try.prog 9 #[.pointer (some ⟨B, 0, none⟩), .int .i64 p] w (Listed (lsOf P ls p) w) := by
  unfold lsOf
  cases hp : isPart P p with
  | false => rw [if_neg (by simp)]; exact list_no B P c ls F p w h hp
  | true =>
    rw [if_pos rfl]
    obtain ⟨h0, h1⟩ := isPart_true.1 hp
    obtain ⟨q, rfl⟩ := Int.eq_ofNat_of_zero_le h0
    exact list_yes B P c ls F q w h hP (by omega)
theorem count_any (B P : Nat) (c : Nat → Nat) (ls : Nat → List Ent) (F : Nat → Prop) (p : Int) (w : World) (h : Book w B P c ls F) (hP : P ≤ 16) :
    Calls Try.prog 11 #[.pointer (some ⟨B, 0, none⟩), .int .i64 p] w fun e w' => e = .returned (.int .i64 ((cOf P c p : Nat) : Int)) ∧ w = w' := by
  unfold cOf
  cases hp : isPart P p with
  | false => rw [if_neg (by simp)]; exact count_no B P c ls F p w h hp
  | true =>
    rw [if_pos rfl]
    obtain ⟨h0, h1⟩ := isPart_true.1 hp
    obtain ⟨q, rfl⟩ := Int.eq_ofNat_of_zero_le h0
    exact count_yes B P c ls F q w h hP (by omega)
end Go.Proofs.Ytoldipjchcmonaa
