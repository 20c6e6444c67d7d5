/-
  A book beside the list of all that was noted: what each call of the law does to the two.
-/
import Derived.Test.YtoldipjchcmonaaRef
import Derived.Test.YtoldipjchcmonaaApart
namespace Go.Proofs.Ytoldipjchcmonaa
open Go.RowKit

def ents (l : List Rec) : List Ent := l.map Rec.e
theorem ents_length (l : List Rec) : (ents l).length = l.length := List.length_map _
theorem ents_snoc (l : List Rec) (x : Rec) : ents (l ++ [x]) = ents l ++ [x.e] := by simp [ents]
theorem last64_ents (l : List Rec) : last64 (ents l) = ents (last64R l) := by
  unfold last64 last64R ents
  rw [List.length_map, List.map_drop]

def cA (all : List Rec) (p : Nat) : Nat := (fl (p : Int) all).length
def lA (all : List Rec) (p : Nat) : List Ent := last64 (ents (fl (p : Int) all))
theorem cA_nil : cA [] = fun _ => 0 := rfl
theorem lA_nil : lA [] = fun _ => [] := rfl
theorem cA_snoc (all : List Rec) (p : Nat) (x : Ent) : upd (cA all) p (cA all p + 1) = cA (all ++ [⟨(p : Int), x⟩]) := by
  funext q
  by_cases e : q = p
  · subst e
    rw [upd_same]
    unfold cA
    rw [fl_snoc_yes (q := (q : Int)) (x := ⟨(q : Int), x⟩) rfl, List.length_append]
    rfl
  · rw [upd_other _ _ e]
    unfold cA
    rw [fl_snoc_no (by simp only; omega)]
theorem lA_snoc (all : List Rec) (p : Nat) (x : Ent) : upd (lA all) p (last64 (lA all p ++ [x])) = lA (all ++ [⟨(p : Int), x⟩]) := by
  funext q
  by_cases e : q = p
  · subst e
    rw [upd_same]
    unfold lA
    rw [fl_snoc_yes (q := (q : Int)) (x := ⟨(q : Int), x⟩) rfl, ents_snoc, last64_last64]
  · rw [upd_other _ _ e]
    unfold lA
    rw [fl_snoc_no (by simp only; omega)]

theorem fl_none {P : Nat} {all : List Rec} {q : Int} (h : ∀ x ∈ all, 0 ≤ x.p ∧ x.p < (P : Int)) (hq : isPart P q = false) : fl q all = [] := by
  unfold fl
  rw [List.filter_eq_nil_iff]
  intro x hx e
  have := h x hx
  rw [beq_iff_eq.1 e] at this
  rw [isPart_true.2 this] at hq
  cases hq
theorem ls_all {P : Nat} {all : List Rec} (q : Int) (h : ∀ x ∈ all, 0 ≤ x.p ∧ x.p < (P : Int)) : lsOf P (lA all) q = last64 (ents (fl q all)) := by
  unfold lsOf
  cases hq : isPart P q with
  | false => rw [if_neg (by simp), fl_none h hq]; rfl
  | true =>
    rw [if_pos rfl]
    obtain ⟨h0, h1⟩ := isPart_true.1 hq
    obtain ⟨n, rfl⟩ := Int.eq_ofNat_of_zero_le h0
    rfl
theorem c_all {P : Nat} {all : List Rec} (q : Int) (h : ∀ x ∈ all, 0 ≤ x.p ∧ x.p < (P : Int)) : cOf P (cA all) q = (fl q all).length := by
  unfold cOf
  cases hq : isPart P q with
  | false => rw [if_neg (by simp), fl_none h hq]; rfl
  | true =>
    rw [if_pos rfl]
    obtain ⟨h0, h1⟩ := isPart_true.1 hq
    obtain ⟨n, rfl⟩ := Int.eq_ofNat_of_zero_le h0
    rfl

/-- The book, all that was noted, and the row 'v' of the latter. -/
def Play (W w : World) (B P : Nat) (all : List Rec) (v : Value) : Prop := ∃ F, Book w B P (cA all) (lA all) F ∧ (∀ k, F k → W.heap.size ≤ k ∧ k < w.heap.size) ∧ Below W.heap.size W w ∧
  w.ownsRow W.heap.size 35 4 v all.length (cells4 all) ∧ (∀ g, v.ownBlock = some g → ¬ F g) ∧ ∀ x ∈ all, 0 ≤ x.p ∧ x.p < (P : Int)

theorem Play.later {W w w' : World} {B P : Nat} {all : List Rec} {v : Value} (h : Play W w B P all v) (hb : Below w.heap.size w w') : Play W w' B P all v := by
  obtain ⟨F, h1, h2, h3, h4, h5, h6⟩ := h
  exact ⟨F, h1.later hb, fun k f => ⟨(h2 k f).1, Nat.lt_of_lt_of_le (h2 k f).2 hb.size⟩, h3.trans (hb.mono h3.size), own_same h4 fun g hg => hb.block g (own_lt h4 hg), h5, h6⟩
theorem Play.below {W w : World} {B P : Nat} {all : List Rec} {v : Value} (h : Play W w B P all v) : Below W.heap.size W w := by
  obtain ⟨F, h1, h2, h3, _⟩ := h
  exact h3
theorem play_made {W w w' : World} {B P : Nat} (hB : B = w.heap.size) (h1 : Below W.heap.size W w) (h : Book w' B P (fun _ => 0) (fun _ => []) (fun k => k = B)) (h2 : Below w.heap.size w w') (h3 : w.heap.size < w'.heap.size) : Play W w' B P [] (.slice none 0 0) :=
  ⟨_, h, fun k e => by rw [e, hB]; exact ⟨h1.size, h3⟩, h1.trans (h2.mono h1.size), World.ownsRow_nil _ _ _ _, fun g e => by simp [Value.ownBlock] at e, fun x hx => by cases hx⟩

/-- The copy of a note that the round works on. -/
def XN (w : World) (X : Nat) (q : Int) (x : Ent) : Prop := w.heap[X]? = some (.cells #[.int .i64 q, .int .i64 x.s, .int .i64 x.k, .string x.w] 32 (0, 0))
theorem XN.c0 {w : World} {X : Nat} {q : Int} {x : Ent} (h : XN w X q x) : w.cell? ⟨X, 0, none⟩ = some (.int .i64 q) := cell_of_heap h
theorem XN.c1 {w : World} {X : Nat} {q : Int} {x : Ent} (h : XN w X q x) : w.cell? ⟨X, 1, none⟩ = some (.int .i64 x.s) := cell_of_heap h
theorem XN.c2 {w : World} {X : Nat} {q : Int} {x : Ent} (h : XN w X q x) : w.cell? ⟨X, 2, none⟩ = some (.int .i64 x.k) := cell_of_heap h
theorem XN.c3 {w : World} {X : Nat} {q : Int} {x : Ent} (h : XN w X q x) : w.cell? ⟨X, 3, none⟩ = some (.string x.w) := cell_of_heap h
theorem XN.lt {w : World} {X : Nat} {q : Int} {x : Ent} (h : XN w X q x) : X < w.heap.size := by unfold XN at h; exact lt_of_block h
theorem XN.made (w : World) (q : Int) (x : Ent) : XN (w.alloc (.cells #[.int .i64 q, .int .i64 x.s, .int .i64 x.k, .string x.w] 32)) w.heap.size q x := heap_alloc_new w _

/-- Ready for the note: the book's world with the copy laid behind it. -/
def Set (W w : World) (B P : Nat) (all : List Rec) (v : Value) (X : Nat) (q : Int) (x : Ent) : Prop := ∃ F, Book w B P (cA all) (lA all) F ∧ (∀ k, F k → W.heap.size ≤ k ∧ k < X) ∧ Below W.heap.size W w ∧
  w.ownsRow W.heap.size 35 4 v all.length (cells4 all) ∧ (∀ g, v.ownBlock = some g → ¬ F g) ∧ (∀ y ∈ all, 0 ≤ y.p ∧ y.p < (P : Int)) ∧ XN w X q x
theorem Play.set {W w : World} {B P : Nat} {all : List Rec} {v : Value} (h : Play W w B P all v) (q : Int) (x : Ent) : Set W (w.alloc (.cells #[.int .i64 q, .int .i64 x.s, .int .i64 x.k, .string x.w] 32)) B P all v w.heap.size q x := by
  have hb := (Below.refl w.heap.size w).alloc (Nat.le_refl _) (.cells #[.int .i64 q, .int .i64 x.s, .int .i64 x.k, .string x.w] 32)
  obtain ⟨F, h1, h2, h3, h4, h5, h6⟩ := h
  exact ⟨F, h1.later hb, h2, h3.trans (hb.mono h3.size), own_same h4 fun g hg => hb.block g (own_lt h4 hg), h5, h6, XN.made w q x⟩
theorem Set.play {W w : World} {B P X : Nat} {all : List Rec} {v : Value} {q : Int} {x : Ent} (h : Set W w B P all v X q x) : Play W w B P all v := by
  obtain ⟨F, h1, h2, h3, h4, h5, h6, h7⟩ := h
  exact ⟨F, h1, fun k f => ⟨(h2 k f).1, Nat.lt_trans (h2 k f).2 h7.lt⟩, h3, h4, h5, h6⟩
theorem Set.xn {W w : World} {B P X : Nat} {all : List Rec} {v : Value} {q : Int} {x : Ent} (h : Set W w B P all v X q x) : XN w X q x := by
  obtain ⟨F, h1, h2, h3, h4, h5, h6, h7⟩ := h
  exact h7
theorem Set.later {W w w' : World} {B P X : Nat} {all : List Rec} {v : Value} {q : Int} {x : Ent} (h : Set W w B P all v X q x) (hb : Below w.heap.size w w') : Set W w' B P all v X q x := by
  obtain ⟨F, h1, h2, h3, h4, h5, h6, h7⟩ := h
  exact ⟨F, h1.later hb, h2, h3.trans (hb.mono h3.size), own_same h4 fun g hg => hb.block g (own_lt h4 hg), h5, h6, (hb.block X h7.lt).trans h7⟩

/-- The book has the note, the list has it not yet. -/
def Mid (W w : World) (B P : Nat) (all : List Rec) (v : Value) (X : Nat) (q : Nat) (x : Ent) : Prop := ∃ F, Book w B P (cA (all ++ [⟨(q : Int), x⟩])) (lA (all ++ [⟨(q : Int), x⟩])) F ∧ (∀ k, F k → W.heap.size ≤ k ∧ k < w.heap.size) ∧ Below W.heap.size W w ∧
  w.ownsRow W.heap.size 35 4 v all.length (cells4 all) ∧ (∀ g, v.ownBlock = some g → ¬ F g) ∧ (∀ y ∈ all, 0 ≤ y.p ∧ y.p < (P : Int)) ∧ XN w X q x
theorem Mid.xn {W w : World} {B P X q : Nat} {all : List Rec} {v : Value} {x : Ent} (h : Mid W w B P all v X q x) : XN w X q x := by
  obtain ⟨F, h1, h2, h3, h4, h5, h6, h7⟩ := h
  exact h7
theorem Mid.own {W w : World} {B P X q : Nat} {all : List Rec} {v : Value} {x : Ent} (h : Mid W w B P all v X q x) : w.ownsRow W.heap.size 35 4 v all.length (cells4 all) := by
  obtain ⟨F, h1, h2, h3, h4, h5, h6, h7⟩ := h
  exact h4
theorem Mid.below {W w : World} {B P X q : Nat} {all : List Rec} {v : Value} {x : Ent} (h : Mid W w B P all v X q x) : Below W.heap.size W w := by
  obtain ⟨F, h1, h2, h3, h4, h5, h6, h7⟩ := h
  exact h3

theorem note_outside (W : World) (B P : Nat) (all : List Rec) (v : Value) (X : Nat) (q : Int) (x : Ent) (w : World) (h : Set W w B P all v X q x) (hq : isPart P q = false) :
    Calls Try.prog 8 #[.pointer (some ⟨B, 0, none⟩), .int .i64 q, .agg #[.int .i64 x.s, .int .i64 x.k, .string x.w]] w fun e w' => e = .returned (.int .i64 4) ∧ Set W w' B P all v X q x := by
  have h' := h
  obtain ⟨F, h1, h2, h3, h4, h5, h6, h7⟩ := h
  exact (note_none B P _ _ F q x w h1 hq).mono fun _ _ ⟨he, hb⟩ => ⟨he, h'.later hb⟩
theorem note_longer (W : World) (B P : Nat) (all : List Rec) (v : Value) (X : Nat) (q : Int) (x : Ent) (w : World) (h : Set W w B P all v X q x) (hq : isPart P q = true) (hx : 200 < x.w.size) :
    Calls Try.prog 8 #[.pointer (some ⟨B, 0, none⟩), .int .i64 q, .agg #[.int .i64 x.s, .int .i64 x.k, .string x.w]] w fun e w' => e = .returned (.int .i64 3) ∧ Set W w' B P all v X q x := by
  have h' := h
  obtain ⟨F, h1, h2, h3, h4, h5, h6, h7⟩ := h
  exact (note_long B P _ _ F q x w h1 hq hx).mono fun _ _ ⟨he, hb⟩ => ⟨he, h'.later hb⟩
theorem note_taken (W : World) (B P : Nat) (all : List Rec) (v : Value) (X : Nat) (q : Nat) (x : Ent) (w : World) (h : Set W w B P all v X q x) (hP : P ≤ 16) (hq : q < P) (hx : x.w.size ≤ 200) (hn : all.length ≤ 100000) :
    Calls Try.prog 8 #[.pointer (some ⟨B, 0, none⟩), .int .i64 q, .agg #[.int .i64 x.s, .int .i64 x.k, .string x.w]] w fun e w' => e = .returned (.int .i64 0) ∧ Mid W w' B P all v X q x := by
  obtain ⟨F, h1, h2, h3, h4, h5, h6, h7⟩ := h
  have hX := h7.lt
  refine (note_yes B P _ _ F q x w h1 (fun k f => Nat.lt_trans (h2 k f).2 hX) hP hq hx (by have := fl_length (q : Int) all; unfold cA; omega)).mono fun _ w' ⟨he, hb, hk⟩ => ⟨he, _, by rw [← cA_snoc, ← lA_snoc]; exact hb, ?_, h3.trans (hk.below (fun k f => (h2 k f).1) h3.size), ?_, ?_, h6, (hk.block X hX fun f => Nat.lt_irrefl _ (h2 X f).2).trans h7⟩
  · intro k f
    rcases f with f | f
    · exact ⟨(h2 k f).1, Nat.lt_of_lt_of_le (Nat.lt_trans (h2 k f).2 hX) hk.size⟩
    · exact ⟨Nat.le_trans h3.size f.1, f.2⟩
  · exact own_same h4 fun g hg => hk.block g (own_lt h4 hg) (h5 g hg)
  · intro g hg f
    rcases f with f | f
    · exact h5 g hg f
    · have := own_lt h4 hg
      omega

theorem Mid.done {W w w1 : World} {B P X q g cap : Nat} {all : List Rec} {v : Value} {x : Ent} {o : Obj} (h : Mid W w B P all v X q x) (hq : q < P) (hown : w1.ownsRow W.heap.size 35 4 (.slice (some ⟨g, 0, none⟩) (all.length + 1) cap) (all.length + 1) (cells4 all ++ Rec.cells ⟨(q : Int), x⟩))
    (hg : (w.alloc o).grownBy w1 v.ownBlock) (hat : v.ownBlock = some g ∨ g = w.heap.size + 1) : Play W w1 B P (all ++ [⟨(q : Int), x⟩]) (.slice (some ⟨g, 0, none⟩) (all.length + 1) cap) := by
  obtain ⟨F, h1, h2, h3, h4, h5, h6, h7⟩ := h
  have hs := hg.size
  have hs' : w.heap.size + 1 ≤ w1.heap.size := by simpa using hs
  have hb := (Below.refl w.heap.size w).alloc (Nat.le_refl _) o
  refine ⟨F, h1.same fun k f hk => (hg.block k (by simp; omega) fun e => h5 k e.symm f).trans (hb.block k hk), fun k f => ⟨(h2 k f).1, by have := (h2 k f).2; omega⟩,
    (h3.trans (hb.mono h3.size)).grown hg (Nat.le_trans h3.size hb.size) (fun k e => (h4.lt k e).1), ?_, ?_, ?_⟩
  · rw [List.length_append, cells4_append, cells4_one]
    exact hown
  · intro g' e f
    simp only [Value.ownBlock, Option.some.injEq] at e
    subst e
    rcases hat with e | e
    · exact h5 g e f
    · have := (h2 g f).2
      omega
  · intro y hy
    rw [List.mem_append, List.mem_singleton] at hy
    rcases hy with hy | rfl
    · exact h6 y hy
    · exact ⟨by simp, by simp only; omega⟩

theorem list_play (W : World) (B P : Nat) (all : List Rec) (v : Value) (q : Int) (l : List Rec) (w : World) (h : Play W w B P all v) (hP : P ≤ 16) (hl : last64R (fl q all) = l) :
    Calls Try.prog 9 #[.pointer (some ⟨B, 0, none⟩), .int .i64 q] w fun e w' => Listed (ents l) w e w' ∧ Play W w' B P all v := by
  subst hl
  have h' := h
  obtain ⟨F, h1, h2, h3, h4, h5, h6⟩ := h
  have := list_any B P _ _ F q w h1 hP
  rw [ls_all q h6, last64_ents] at this
  exact this.mono fun _ _ hl => ⟨hl, by obtain ⟨_, _, _, hb⟩ := hl; exact h'.later hb⟩
theorem count_play (W : World) (B P : Nat) (all : List Rec) (v : Value) (q : Int) (n : Nat) (w : World) (h : Play W w B P all v) (hP : P ≤ 16) (hn : (fl q all).length = n) :
    Calls Try.prog 11 #[.pointer (some ⟨B, 0, none⟩), .int .i64 q] w fun e w' => e = .returned (.int .i64 (n : Int)) ∧ w = w' := by
  subst hn
  obtain ⟨F, h1, h2, h3, h4, h5, h6⟩ := h
  have := count_any B P _ _ F q w h1 hP
  rw [c_all q h6] at this
  exact this
theorem kind_play (W : World) (B P : Nat) (all : List Rec) (v : Value) (q kind : Int) (l : List Rec) (w : World) (h : Play W w B P all v) (hP : P ≤ 16) (hl : last64R (fl q all) = l) :
    Calls Try.prog 13 #[.pointer (some ⟨B, 0, none⟩), .int .i64 q, .int .i64 kind] w fun e w' => e = .returned (.int .i64 (kc kind (ents l) : Nat)) ∧ Play W w' B P all v := by
  subst hl
  have h' := h
  obtain ⟨F, h1, h2, h3, h4, h5, h6⟩ := h
  have := kind_any B P _ _ F q kind w h1 hP
  rw [ls_all q h6, last64_ents] at this
  exact this.mono fun _ _ ⟨he, hb⟩ => ⟨he, h'.later hb⟩
theorem reflist_play (W : World) (B P : Nat) (all : List Rec) (v : Value) (q : Int) (l : List Rec) (w : World) (h : Play W w B P all v) (hn : all.length ≤ 10000) (hl : last64R (fl q all) = l) :
    Calls Try.prog 10 #[v, .int .i64 q] w fun e w' => ∃ u, e = .returned u ∧ Row4 w' u l ∧ Below w.heap.size w w' := by
  subst hl
  obtain ⟨F, h1, h2, h3, h4, h5, h6⟩ := h
  exact reflist_any _ v all q w h4 hn
theorem refall_play (W : World) (B P : Nat) (all : List Rec) (v : Value) (q : Int) (n : Nat) (w : World) (h : Play W w B P all v) (hn : all.length ≤ 10000) (hl : (fl q all).length = n) :
    Calls Try.prog 12 #[v, .int .i64 q] w fun e w' => ∃ ao cap, e = .returned (.slice ao n cap) ∧ Below w.heap.size w w' := by
  subst hl
  obtain ⟨F, h1, h2, h3, h4, h5, h6⟩ := h
  refine (all_any _ v all q w h4 hn).mono fun _ _ ⟨u, he, hown, hb⟩ => ?_
  obtain ⟨ao, cap, rfl, _⟩ := row4_of hown
  exact ⟨ao, cap, he, hb⟩

theorem Row4.later {w w' : World} {v : Value} {l : List Rec} (h : Row4 w v l) (hb : Below w.heap.size w w') : Row4 w' v l := by
  obtain ⟨ao, cap, hv, h⟩ := h
  refine ⟨ao, cap, hv, fun i x hx => ?_⟩
  obtain ⟨g, o, ha, hg, c0, c1, c2, c3⟩ := h i x hx
  exact ⟨g, o, ha, Nat.lt_of_lt_of_le hg hb.size, (hb.cell (p := ⟨g, _, none⟩) hg).trans c0, (hb.cell (p := ⟨g, _, none⟩) hg).trans c1, (hb.cell (p := ⟨g, _, none⟩) hg).trans c2, (hb.cell (p := ⟨g, _, none⟩) hg).trans c3⟩
theorem last64R_length (l : List Rec) : (last64R l).length ≤ 64 := by unfold last64R; rw [List.length_drop]; omega
theorem ents_at {l : List Rec} {i : Nat} {x : Rec} (h : l[i]? = some x) : (ents l)[i]? = some x.e := by
  unfold ents
  rw [List.getElem?_map, h]
  rfl
theorem kc_ents (kind : Int) {l : List Rec} {k : Nat} {x : Rec} (h : l[k]? = some x) : kc kind (ents (l.take (k + 1))) = kc kind (ents (l.take k)) + if isK kind x.e = true then 1 else 0 := by
  rw [take_snocR h, ents_snoc, kc_snoc]
end Go.Proofs.Ytoldipjchcmonaa
