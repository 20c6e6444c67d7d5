/-
  The book in memory: one block of 33 cells (how many parts; sixteen counts; sixteen slices), each slice the owner of a row of entries. Plain lemmas on worlds and lists; no walk.
-/
import Derived.Test.YtoldipjchcmonaaRows
import Derived.WalkKit
import Derived.BigQuiet
import Derived.Deep.QuietTactic
import Derived.Lib.Hide
import Derived.OneCell
namespace Go.Proofs.Ytoldipjchcmonaa
open Go.RowKit

/-! ### entries -/
structure Ent where
  s : Int
  k : Int
  w : ByteArray

def Ent.cells (x : Ent) : List Value := [.int .i64 x.s, .int .i64 x.k, .string x.w]
def Ent.val (x : Ent) : Value := .agg #[.int .i64 x.s, .int .i64 x.k, .string x.w]
def cells3 (l : List Ent) : List Value := l.flatMap Ent.cells

theorem cells3_nil : cells3 [] = [] := rfl
theorem cells3_cons (x : Ent) (l : List Ent) : cells3 (x :: l) = x.cells ++ cells3 l := rfl
theorem cells3_append (a b : List Ent) : cells3 (a ++ b) = cells3 a ++ cells3 b := by simp [cells3]
theorem cells3_length (l : List Ent) : (cells3 l).length = l.length * 3 := by
  induction l with
  | nil => rfl
  | cons x l ih => rw [cells3_cons, List.length_append, ih]; simp [Ent.cells]; omega
theorem cells3_drop (l : List Ent) (n : Nat) : cells3 (l.drop n) = (cells3 l).drop (n * 3) := by
  induction n generalizing l with
  | zero => simp
  | succ n ih =>
    cases l with
    | nil => simp [cells3]
    | cons x l =>
      rw [List.drop_succ_cons, ih, cells3_cons, show (n + 1) * 3 = 3 + n * 3 by omega, ← List.drop_drop]
      rfl
theorem cells3_at {l : List Ent} {i : Nat} {x : Ent} (h : l[i]? = some x) :
    (cells3 l)[i * 3]? = some (.int .i64 x.s) ∧ (cells3 l)[i * 3 + 1]? = some (.int .i64 x.k) ∧ (cells3 l)[i * 3 + 2]? = some (.string x.w) := by
  induction l generalizing i with
  | nil => simp at h
  | cons y l ih =>
    cases i with
    | zero =>
      simp only [List.getElem?_cons_zero, Option.some.injEq] at h
      subst h
      exact ⟨rfl, rfl, rfl⟩
    | succ i =>
      rw [List.getElem?_cons_succ] at h
      have e := ih h
      have f : ∀ j, (cells3 (y :: l))[(i + 1) * 3 + j]? = (cells3 l)[i * 3 + j]? := fun j => by
        rw [cells3_cons, List.getElem?_append_right (by simp [Ent.cells]; omega)]
        congr 1
        simp [Ent.cells]
        omega
      exact ⟨(f 0).trans e.1, (f 1).trans e.2.1, (f 2).trans e.2.2⟩

/-! ### worlds -/
/-- From w to w' what is no F has not turned. -/
structure Kept (F : Nat → Prop) (w w' : World) : Prop where
  os : w'.os = w.os
  tape : w'.tape = w.tape
  output : w'.output = w.output
  size : w.heap.size ≤ w'.heap.size
  block : ∀ k, k < w.heap.size → ¬ F k → w'.heap[k]? = w.heap[k]?

theorem Kept.of_below {F : Nat → Prop} {w w' : World} (h : Below w.heap.size w w') : Kept F w w' := ⟨h.os, h.tape, h.output, h.size, fun k hk _ => h.block k hk⟩
theorem Kept.refl (F : Nat → Prop) (w : World) : Kept F w w := ⟨rfl, rfl, rfl, Nat.le_refl _, fun _ _ _ => rfl⟩
theorem Kept.trans {F : Nat → Prop} {a b c : World} (h : Kept F a b) (k : Kept (fun j => F j ∨ a.heap.size ≤ j) b c) : Kept F a c :=
  ⟨k.os.trans h.os, k.tape.trans h.tape, k.output.trans h.output, Nat.le_trans h.size k.size,
    fun i hi hf => (k.block i (Nat.lt_of_lt_of_le hi h.size) (fun o => o.elim hf (by omega))).trans (h.block i hi hf)⟩
theorem Kept.mono {F G : Nat → Prop} {w w' : World} (h : Kept F w w') (hg : ∀ k, k < w.heap.size → F k → G k) : Kept G w w' :=
  ⟨h.os, h.tape, h.output, h.size, fun k hk hn => h.block k hk fun f => hn (hg k hk f)⟩
theorem Kept.below {F : Nat → Prop} {w w' : World} {B : Nat} (h : Kept F w w') (hB : ∀ k, F k → B ≤ k) (hs : B ≤ w.heap.size) : Below B w w' :=
  ⟨h.os, h.tape, h.output, h.size, fun k hk => h.block k (by omega) fun f => by have := hB k f; omega⟩
theorem Kept.setCell {F : Nat → Prop} {a w : World} (h : Kept F a w) {p : Addr} (hp : F p.block ∨ a.heap.size ≤ p.block) (u : Value) : Kept F a (w.setCell p u) :=
  ⟨h.os, h.tape, h.output, by simpa [World.setCell] using h.size, fun k hk hn => (Below.heap_setCell _ _ _ _ (fun e => by subst e; rcases hp with hp | hp; exact hn hp; omega)).trans (h.block k hk hn)⟩
theorem Kept.alloc {F : Nat → Prop} {a w : World} (h : Kept F a w) (o : Obj) : Kept F a (w.alloc o) :=
  ⟨h.os, h.tape, h.output, Nat.le_trans h.size (by simp), fun k hk hn => (Below.heap_alloc _ _ _ (Nat.lt_of_lt_of_le hk h.size)).trans (h.block k hk hn)⟩
theorem Kept.drew {F : Nat → Prop} {a w : World} (h : Kept F a w) : Kept F a w.drew := ⟨h.os, h.tape, h.output, h.size, h.block⟩
theorem Kept.grown {F : Nat → Prop} {a w w' : World} {row : Option Nat} (h : Kept F a w) (hg : w.grownBy w' row) (hr : ∀ k, row = some k → F k ∨ a.heap.size ≤ k) : Kept F a w' :=
  ⟨hg.os.trans h.os, hg.tape.trans h.tape, hg.output.trans h.output, Nat.le_trans h.size hg.size,
    fun k hk hn => (hg.block k (Nat.lt_of_lt_of_le hk h.size) (fun e => by rcases hr k e.symm with f | f; exact hn f; omega)).trans (h.block k hk hn)⟩

theorem cell_of_heap {w : World} {b i : Nat} {cs : Array Value} {t : TypeId} (h : w.heap[b]? = some (.cells cs t (0, 0))) : w.cell? ⟨b, i, none⟩ = cs[i]? := by
  simp [World.cell?, h]
theorem free_of_heap {w : World} {b i : Nat} {cs : Array Value} {t : TypeId} (h : w.heap[b]? = some (.cells cs t (0, 0))) : w.frozen? ⟨b, i, none⟩ = false := by
  simp [World.frozen?, h]
theorem cell_of_same {w w' : World} {a : Addr} (h : w'.heap[a.block]? = w.heap[a.block]?) : w'.cell? a = w.cell? a := World.cell?_of_block h

/-! ### the book's block -/
def bookAt (P : Nat) (c : Nat → Nat) (vs : Nat → Value) (i : Nat) : Value := if i = 0 then .int .i64 (P : Int) else if i ≤ 16 then .int .i64 (c (i - 1) : Int) else vs (i - 17)
def bookCells (P : Nat) (c : Nat → Nat) (vs : Nat → Value) : Array Value := Array.ofFn (n := 33) fun i => bookAt P c vs i.1
def upd {α : Type} (f : Nat → α) (p : Nat) (x : α) : Nat → α := fun j => if j = p then x else f j
theorem upd_same {α : Type} (f : Nat → α) (p : Nat) (x : α) : upd f p x p = x := if_pos rfl
theorem upd_other {α : Type} (f : Nat → α) {p j : Nat} (x : α) (h : j ≠ p) : upd f p x j = f j := if_neg h

theorem book_at {P : Nat} {c : Nat → Nat} {vs : Nat → Value} {i : Nat} (h : i < 33) : (bookCells P c vs)[i]? = some (bookAt P c vs i) := by
  unfold bookCells
  rw [Array.getElem?_ofFn, dif_pos h]
theorem bookAt_parts (P : Nat) (c : Nat → Nat) (vs : Nat → Value) : bookAt P c vs 0 = .int .i64 (P : Int) := rfl
theorem bookAt_cnt {P : Nat} {c : Nat → Nat} {vs : Nat → Value} {p : Nat} (h : p < 16) : bookAt P c vs (1 + p) = .int .i64 (c p : Int) := by
  unfold bookAt
  rw [if_neg (by omega), if_pos (by omega), show 1 + p - 1 = p by omega]
theorem bookAt_row {P : Nat} {c : Nat → Nat} {vs : Nat → Value} {p : Nat} : bookAt P c vs (17 + p) = vs p := by
  unfold bookAt
  rw [if_neg (by omega), if_neg (by omega), show 17 + p - 17 = p by omega]
theorem book_set_cnt {P : Nat} {c : Nat → Nat} {vs : Nat → Value} {p n : Nat} (h : p < 16) : (bookCells P c vs).setIfInBounds (1 + p) (.int .i64 (n : Int)) = bookCells P (upd c p n) vs := by
  apply Array.ext
  · simp [bookCells]
  · intro i h1 h2
    have hi : i < 33 := by simpa [bookCells] using h2
    rw [Array.getElem_setIfInBounds (by simpa using h1)]
    simp only [bookCells, Array.getElem_ofFn]
    by_cases e : 1 + p = i
    · subst e
      rw [if_pos rfl, bookAt_cnt h, upd_same]
    · rw [if_neg e]
      unfold bookAt
      by_cases e0 : i = 0
      · rw [if_pos e0, if_pos e0]
      · rw [if_neg e0, if_neg e0]
        by_cases e1 : i ≤ 16
        · rw [if_pos e1, if_pos e1, upd_other _ _ (by omega)]
        · rw [if_neg e1, if_neg e1]
theorem book_set_row {P : Nat} {c : Nat → Nat} {vs : Nat → Value} {p : Nat} {v : Value} : (bookCells P c vs).setIfInBounds (17 + p) v = bookCells P c (upd vs p v) := by
  apply Array.ext
  · simp [bookCells]
  · intro i h1 h2
    have hi : i < 33 := by simpa [bookCells] using h2
    rw [Array.getElem_setIfInBounds (by simpa using h1)]
    simp only [bookCells, Array.getElem_ofFn]
    by_cases e : 17 + p = i
    · subst e
      rw [if_pos rfl, bookAt_row, upd_same]
    · rw [if_neg e]
      unfold bookAt
      by_cases e0 : i = 0
      · rw [if_pos e0, if_pos e0]
      · rw [if_neg e0, if_neg e0]
        by_cases e1 : i ≤ 16
        · rw [if_pos e1, if_pos e1]
        · rw [if_neg e1, if_neg e1, upd_other _ _ (by omega)]

/-! ### the book -/
structure BInv (w : World) (B P : Nat) (c : Nat → Nat) (ls : Nat → List Ent) (F : Nat → Prop) (vs : Nat → Value) : Prop where
  blk : w.heap[B]? = some (.cells (bookCells P c vs) 55 (0, 0))
  own : ∀ p, p < 16 → w.ownsRow 0 30 3 (vs p) (ls p).length (cells3 (ls p))
  apart : ∀ p q g, p < 16 → q < 16 → (vs p).ownBlock = some g → (vs q).ownBlock = some g → p = q
  nz : ∀ p, p < 16 → ls p = [] → vs p = .slice none 0 0
  fB : F B
  fV : ∀ p g, p < 16 → (vs p).ownBlock = some g → F g
def Book (w : World) (B P : Nat) (c : Nat → Nat) (ls : Nat → List Ent) (F : Nat → Prop) : Prop := (∃ vs, BInv w B P c ls F vs) ∧ ∀ p, p < 16 → (ls p).length ≤ 64

theorem own_lt {w : World} {b : Nat} {e : TypeId} {s : Nat} {v : Value} {n : Nat} {xs : List Value} (h : w.ownsRow b e s v n xs) {g : Nat} (hg : v.ownBlock = some g) : g < w.heap.size := by
  rcases h.2 with ⟨rfl, _⟩ | ⟨g', cap, cur, rfl, _, hh, _⟩
  · simp [Value.ownBlock] at hg
  · simp only [Value.ownBlock, Option.some.injEq] at hg
    subst hg
    exact lt_of_block hh
theorem own_type {w : World} {b : Nat} {e : TypeId} {s : Nat} {v : Value} {n : Nat} {xs : List Value} (h : w.ownsRow b e s v n xs) {g : Nat} (hg : v.ownBlock = some g) : ∃ cur, w.heap[g]? = some (.cells cur e (0, 0)) := by
  rcases h.2 with ⟨rfl, _⟩ | ⟨g', cap, cur, rfl, _, hh, _⟩
  · simp [Value.ownBlock] at hg
  · simp only [Value.ownBlock, Option.some.injEq] at hg
    subst hg
    exact ⟨cur, hh⟩
theorem own_same {w w' : World} {b : Nat} {e : TypeId} {s : Nat} {v : Value} {n : Nat} {xs : List Value} (h : w.ownsRow b e s v n xs) (hb : ∀ g, v.ownBlock = some g → w'.heap[g]? = w.heap[g]?) : w'.ownsRow b e s v n xs := by
  obtain ⟨h1, h2⟩ := h
  refine ⟨h1, ?_⟩
  rcases h2 with h2 | ⟨g, cap, cur, rfl, hg, hh, r⟩
  · exact .inl h2
  · exact .inr ⟨g, cap, cur, rfl, hg, (hb g rfl).trans hh, r⟩

theorem BInv.lt {w : World} {B P : Nat} {c : Nat → Nat} {ls : Nat → List Ent} {F : Nat → Prop} {vs : Nat → Value} (h : BInv w B P c ls F vs) : B < w.heap.size := lt_of_block h.blk
theorem BInv.cell {w : World} {B P : Nat} {c : Nat → Nat} {ls : Nat → List Ent} {F : Nat → Prop} {vs : Nat → Value} (h : BInv w B P c ls F vs) {i : Nat} (hi : i < 33) : w.cell? ⟨B, i, none⟩ = some (bookAt P c vs i) :=
  (cell_of_heap h.blk).trans (book_at hi)
theorem BInv.free {w : World} {B P : Nat} {c : Nat → Nat} {ls : Nat → List Ent} {F : Nat → Prop} {vs : Nat → Value} (h : BInv w B P c ls F vs) (i : Nat) : w.frozen? ⟨B, i, none⟩ = false := free_of_heap h.blk
theorem BInv.parts {w : World} {B P : Nat} {c : Nat → Nat} {ls : Nat → List Ent} {F : Nat → Prop} {vs : Nat → Value} (h : BInv w B P c ls F vs) : w.cell? ⟨B, 0, none⟩ = some (.int .i64 (P : Int)) := h.cell (by omega)
theorem BInv.cnt {w : World} {B P : Nat} {c : Nat → Nat} {ls : Nat → List Ent} {F : Nat → Prop} {vs : Nat → Value} (h : BInv w B P c ls F vs) {p : Nat} (hp : p < 16) : w.cell? ⟨B, 1 + p, none⟩ = some (.int .i64 (c p : Int)) := by
  rw [h.cell (by omega), bookAt_cnt hp]
theorem BInv.row {w : World} {B P : Nat} {c : Nat → Nat} {ls : Nat → List Ent} {F : Nat → Prop} {vs : Nat → Value} (h : BInv w B P c ls F vs) {p : Nat} (hp : p < 16) : w.cell? ⟨B, 17 + p, none⟩ = some (vs p) := by
  rw [h.cell (by omega), bookAt_row]
/-- An owned row's block is not the book's own. -/
theorem BInv.off {w : World} {B P : Nat} {c : Nat → Nat} {ls : Nat → List Ent} {F : Nat → Prop} {vs : Nat → Value} (h : BInv w B P c ls F vs) {p g : Nat} (hp : p < 16) (hg : (vs p).ownBlock = some g) : g ≠ B := by
  intro e
  subst e
  obtain ⟨cur, hc⟩ := own_type (h.own p hp) hg
  rw [h.blk] at hc
  simp at hc
/-- In a world in which the book's blocks are as they were it is the book that it was. -/
theorem BInv.same {w w' : World} {B P : Nat} {c : Nat → Nat} {ls : Nat → List Ent} {F G : Nat → Prop} {vs : Nat → Value} (h : BInv w B P c ls F vs) (hb : ∀ k, F k → k < w.heap.size → w'.heap[k]? = w.heap[k]?) (hG : ∀ k, F k → G k) : BInv w' B P c ls G vs :=
  ⟨(hb B h.fB h.lt).trans h.blk, fun p hp => own_same (h.own p hp) fun g hg => hb g (h.fV p g hp hg) (own_lt (h.own p hp) hg), h.apart, h.nz, hG B h.fB, fun p g hp hg => hG g (h.fV p g hp hg)⟩
theorem Book.same {w w' : World} {B P : Nat} {c : Nat → Nat} {ls : Nat → List Ent} {F : Nat → Prop} (h : Book w B P c ls F) (hb : ∀ k, F k → k < w.heap.size → w'.heap[k]? = w.heap[k]?) : Book w' B P c ls F := by
  obtain ⟨⟨vs, h⟩, hs⟩ := h
  exact ⟨⟨vs, h.same hb fun _ f => f⟩, hs⟩
theorem Book.later {w w' : World} {B P : Nat} {c : Nat → Nat} {ls : Nat → List Ent} {F : Nat → Prop} (h : Book w B P c ls F) (hb : Below w.heap.size w w') : Book w' B P c ls F := h.same fun k _ hk => hb.block k hk
theorem Book.mono {w : World} {B P : Nat} {c : Nat → Nat} {ls : Nat → List Ent} {F G : Nat → Prop} (h : Book w B P c ls F) (hG : ∀ k, F k → G k) : Book w B P c ls G := by
  obtain ⟨⟨vs, h⟩, hs⟩ := h
  exact ⟨⟨vs, h.same (fun _ _ _ => rfl) hG⟩, hs⟩
theorem Book.lt {w : World} {B P : Nat} {c : Nat → Nat} {ls : Nat → List Ent} {F : Nat → Prop} (h : Book w B P c ls F) : B < w.heap.size := by
  obtain ⟨⟨vs, h⟩, _⟩ := h
  exact h.lt

theorem Book.made (w : World) (P : Nat) : Book (w.alloc (.cells (bookCells P (fun _ => 0) (fun _ => .slice none 0 0)) 55)) w.heap.size P (fun _ => 0) (fun _ => []) (fun k => k = w.heap.size) :=
  ⟨⟨fun _ => .slice none 0 0, heap_alloc_new w _, fun _ _ => ⟨rfl, .inl ⟨rfl, rfl⟩⟩, fun _ _ _ _ _ h => by simp [Value.ownBlock] at h, fun _ _ _ => rfl, rfl, fun _ _ _ h => by simp [Value.ownBlock] at h⟩, fun _ _ => by simp⟩

/-- One tail gets another row; the count stays. -/
theorem BInv.put {w w1 : World} {B P : Nat} {c : Nat → Nat} {ls : Nat → List Ent} {F G : Nat → Prop} {vs : Nat → Value} {p : Nat} {v : Value} {l : List Ent} (h : BInv w B P c ls F vs) (hp : p < 16)
    (hb : w1.heap[B]? = w.heap[B]?) (hk : ∀ k, k < w.heap.size → some k ≠ (vs p).ownBlock → w1.heap[k]? = w.heap[k]?) (hv : w1.ownsRow 0 30 3 v l.length (cells3 l))
    (hat : ∀ g, v.ownBlock = some g → (vs p).ownBlock = some g ∨ w.heap.size ≤ g) (hn : l ≠ []) (hG : ∀ k, F k → G k) (hg : ∀ g, v.ownBlock = some g → G g) :
    BInv (w1.setCell ⟨B, 17 + p, none⟩ v) B P c (upd ls p l) G (upd vs p v) := by
  have hoff : ∀ g, v.ownBlock = some g → g ≠ B := fun g e => by
    rcases hat g e with f | f
    · exact h.off hp f
    · have := h.lt; omega
  refine ⟨?_, fun q hq => ?_, fun a b g ha hb' e1 e2 => ?_, fun q hq e => ?_, hG B h.fB, fun q g hq e => ?_⟩
  · rw [heap_setCell_same w1 B (17 + p) _ _ _ (hb.trans h.blk), book_set_row]
  · by_cases e : q = p
    · subst e
      rw [upd_same, upd_same]
      exact own_same hv fun g e => heap_setCell_other w1 ⟨B, 17 + q, none⟩ g v (hoff g e)
    · rw [upd_other _ _ e, upd_other _ _ e]
      refine own_same (h.own q hq) fun g eg => (heap_setCell_other w1 ⟨B, 17 + p, none⟩ g v (h.off hq eg)).trans (hk g (own_lt (h.own q hq) eg) fun f => e (h.apart q p g hq hp eg f.symm))
  · by_cases ea : a = p
    · by_cases eb : b = p
      · rw [ea, eb]
      · subst ea
        rw [upd_same] at e1
        rw [upd_other _ _ eb] at e2
        rcases hat g e1 with f | f
        · exact h.apart a b g ha hb' f e2
        · have := own_lt (h.own b hb') e2; omega
    · by_cases eb : b = p
      · subst eb
        rw [upd_same] at e2
        rw [upd_other _ _ ea] at e1
        rcases hat g e2 with f | f
        · exact h.apart a b g ha hb' e1 f
        · have := own_lt (h.own a ha) e1; omega
      · rw [upd_other _ _ ea] at e1
        rw [upd_other _ _ eb] at e2
        exact h.apart a b g ha hb' e1 e2
  · by_cases eq : q = p
    · subst eq
      rw [upd_same] at e
      exact absurd e hn
    · rw [upd_other _ _ eq] at e ⊢
      exact h.nz q hq e
  · by_cases eq : q = p
    · subst eq
      rw [upd_same] at e
      exact hg g e
    · rw [upd_other _ _ eq] at e
      exact hG g (h.fV q g hq e)
/-- One count more. -/
theorem BInv.count {w : World} {B P : Nat} {c : Nat → Nat} {ls : Nat → List Ent} {F : Nat → Prop} {vs : Nat → Value} {p n : Nat} (h : BInv w B P c ls F vs) (hp : p < 16) :
    BInv (w.setCell ⟨B, 1 + p, none⟩ (.int .i64 (n : Int))) B P (upd c p n) ls F vs :=
  ⟨by rw [heap_setCell_same w B (1 + p) _ _ _ h.blk, book_set_cnt hp], fun q hq => own_same (h.own q hq) fun g e => heap_setCell_other w ⟨B, 1 + p, none⟩ g _ (h.off hq e), h.apart, h.nz, h.fB, h.fV⟩
end Go.Proofs.Ytoldipjchcmonaa
