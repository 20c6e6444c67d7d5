/-
  The walk of tail.add: the slice at a cell of the book's block gets one entry more, the last 64 alone are kept.
-/
import Derived.Test.YtoldipjchcmonaaClone
import Derived.Deep.RegionHeld3
import Derived.Deep.DrawnRows
import Derived.Deep.AppendLies
namespace Go.Proofs.Ytoldipjchcmonaa
open Go.RowKit
set_option linter.unusedSimpArgs false
attribute [local go_sem ↓] Go.wp_at_zero Go.wp_at_succ

/-- Block X holds one entry. -/
def XB (w : World) (X : Nat) (x : Ent) : Prop := w.heap[X]? = some (.cells #[.int .i64 x.s, .int .i64 x.k, .string x.w] 30 (0, 0))
theorem XB.c0 {w : World} {X : Nat} {x : Ent} (h : XB w X x) : w.cell? ⟨X, 0, none⟩ = some (.int .i64 x.s) := cell_of_heap h
theorem XB.c1 {w : World} {X : Nat} {x : Ent} (h : XB w X x) : w.cell? ⟨X, 1, none⟩ = some (.int .i64 x.k) := cell_of_heap h
theorem XB.c2 {w : World} {X : Nat} {x : Ent} (h : XB w X x) : w.cell? ⟨X, 2, none⟩ = some (.string x.w) := cell_of_heap h
theorem XB.lt {w : World} {X : Nat} {x : Ent} (h : XB w X x) : X < w.heap.size := by unfold XB at h; exact lt_of_block h
theorem XB.made (w : World) (x : Ent) : XB (w.alloc (.cells #[.int .i64 x.s, .int .i64 x.k, .string x.w] 30)) w.heap.size x := heap_alloc_new w _
theorem XB.alloc {w : World} {X : Nat} {x : Ent} (h : XB w X x) (o : Obj) : XB (w.alloc o) X x := (Below.heap_alloc _ _ _ h.lt).trans h

abbrev SX (X : Nat) (x : Ent) (w : World) : Prop := XB w X x ∧ w.cell? ⟨X, 0, none⟩ = some (.int .i64 x.s) ∧ w.cell? ⟨X, 1, none⟩ = some (.int .i64 x.k) ∧ w.cell? ⟨X, 2, none⟩ = some (.string x.w)
theorem SX.of {w : World} {X : Nat} {x : Ent} (h : XB w X x) : SX X x w := ⟨h, h.c0, h.c1, h.c2⟩
theorem SX.alloc {w : World} {X : Nat} {x : Ent} (h : SX X x w) (o : Obj) : SX X x (w.alloc o) := SX.of (h.1.alloc o)
theorem SX.set {w : World} {X b o : Nat} {x : Ent} {v : Value} (hne : X ≠ b) (h : SX X x w) : SX X x (w.setCell ⟨b, o, none⟩ v) := SX.of ((Below.heap_setCell _ _ _ _ hne).trans h.1)

theorem own_two {w : World} {o o' : Obj} {b : Nat} {e : TypeId} {s : Nat} {v : Value} {n : Nat} {xs : List Value} (h : w.ownsRow b e s v n xs) : ((w.alloc o).alloc o').ownsRow b e s v n xs :=
  own_same h fun g hg => (Below.heap_alloc _ _ _ (by have := own_lt h hg; simp; omega)).trans (Below.heap_alloc _ _ _ (own_lt h hg))
theorem news_two {w : World} {o : Obj} {x : Ent} {T : TypeId} : ∀ j u, x.cells[j]? = some u → ((w.alloc o).alloc (.cells #[.int .i64 x.s, .int .i64 x.k, .string x.w] T)).cell? ((⟨w.heap.size + 1, 0, none⟩ : Addr).add j) = some u := by
  intro j u hu
  rw [Addr.add_lit, Nat.zero_add, World.cell?_alloc2_new]
  have e : (#[.int .i64 x.s, .int .i64 x.k, .string x.w] : Array Value) = x.cells.toArray := rfl
  rw [e]
  simpa using hu
theorem cells_one (x : Ent) : ∀ u ∈ x.cells, u.oneCell' = true := by
  intro u hu
  simp only [Ent.cells, List.mem_cons, List.not_mem_nil, or_false] at hu
  rcases hu with rfl | rfl | rfl <;> rfl

/-- Behind the append: what is known of the unknown world. -/
structure After (w w1 : World) (B P : Nat) (c : Nat → Nat) (ls : Nat → List Ent) (F : Nat → Prop) (vs : Nat → Value) (p : Nat) (x : Ent) : Prop where
  blk : w1.heap[B]? = w.heap[B]?
  xb : SX w.heap.size x w1
  keep : ∀ k, k < w.heap.size → some k ≠ (vs p).ownBlock → w1.heap[k]? = w.heap[k]?
  kept : Kept F w w1
  cell : w1.cell? ⟨B, 17 + p, none⟩ = some (vs p)
  free : w1.frozen? ⟨B, 17 + p, none⟩ = false

theorem app_after {w W w1 : World} {o : Obj} {B P : Nat} {c : Nat → Nat} {ls : Nat → List Ent} {F : Nat → Prop} {vs : Nat → Value} {p : Nat} {x : Ent} (h : BInv w B P c ls F vs) (hp : p < 16)
    (hW : W.heap = ((w.alloc (.cells #[.int .i64 x.s, .int .i64 x.k, .string x.w] 30)).alloc o).heap) (h1 : W.os = w.os) (h2 : W.tape = w.tape) (h3 : W.output = w.output) (hg : W.grownBy w1 (vs p).ownBlock) : After w w1 B P c ls F vs p x := by
  have hs : W.heap.size = w.heap.size + 1 + 1 := by rw [hW]; simp
  have old : ∀ k, k < w.heap.size → W.heap[k]? = w.heap[k]? := fun k hk => by
    rw [hW]
    exact (Below.heap_alloc _ _ _ (by simp; omega)).trans (Below.heap_alloc _ _ _ hk)
  have keep : ∀ k, k < w.heap.size → some k ≠ (vs p).ownBlock → w1.heap[k]? = w.heap[k]? := fun k hk hn => (hg.block k (by omega) hn).trans (old k hk)
  have hB := keep B h.lt fun e => h.off hp e.symm rfl
  have hX : w1.heap[w.heap.size]? = some (.cells #[.int .i64 x.s, .int .i64 x.k, .string x.w] 30 (0, 0)) := by
    rw [hg.block w.heap.size (by omega) (fun e => by have := own_lt (h.own p hp) e.symm; omega), hW]
    exact (Below.heap_alloc _ _ _ (by simp)).trans (heap_alloc_new w _)
  refine ⟨hB, SX.of hX, keep, ⟨hg.os.trans h1, hg.tape.trans h2, hg.output.trans h3, Nat.le_trans (by omega) hg.size, fun k hk hn => keep k hk fun e => hn (h.fV p k hp e.symm)⟩, ?_, ?_⟩
  · exact (cell_of_same hB).trans (h.row hp)
  · exact (World.frozen?_of_block hB).trans (h.free _)

theorem After.put {w w1 : World} {B P : Nat} {c : Nat → Nat} {ls : Nat → List Ent} {F : Nat → Prop} {vs : Nat → Value} {p g n cap : Nat} {x : Ent} (hA : After w w1 B P c ls F vs p x) (h : BInv w B P c ls F vs) (hp : p < 16)
    (hown : w1.ownsRow 0 30 3 (.slice (some ⟨g, 0, none⟩) n cap) n (cells3 (ls p) ++ x.cells)) (hn : n = (ls p).length + 1) (hat : (vs p).ownBlock = some g ∨ g = w.heap.size + 2) (hg : g < w1.heap.size) :
    BInv (w1.setCell ⟨B, 17 + p, none⟩ (.slice (some ⟨g, 0, none⟩) n cap)) B P c (upd ls p (ls p ++ [x])) (fun k => F k ∨ (w.heap.size ≤ k ∧ k < w1.heap.size)) (upd vs p (.slice (some ⟨g, 0, none⟩) n cap)) := by
  refine h.put hp hA.blk hA.keep ?_ (fun g' e => ?_) (by simp) (fun k f => .inl f) (fun g' e => ?_)
  · have e : (ls p ++ [x]).length = n := by rw [hn]; simp
    rw [e, cells3_append]
    exact hown
  · simp only [Value.ownBlock, Option.some.injEq] at e
    subst e
    rcases hat with f | f
    · exact .inl f
    · exact .inr (by omega)
  · simp only [Value.ownBlock, Option.some.injEq] at e
    subst e
    rcases hat with f | f
    · exact .inl (h.fV p _ hp f)
    · exact .inr ⟨by omega, hg⟩

/-- The last sixty-four. -/
def last64 (l : List Ent) : List Ent := l.drop (l.length - 64)
theorem last64_length (l : List Ent) : (last64 l).length = min l.length 64 := by unfold last64; rw [List.length_drop]; omega
theorem last64_short {l : List Ent} (h : l.length ≤ 64) : last64 l = l := by
  unfold last64
  rw [show l.length - 64 = 0 by omega]
  rfl

theorem cells3_one (l : List Ent) : ∀ u ∈ cells3 l, u.oneCell' = true := by
  intro u hu
  unfold cells3 at hu
  obtain ⟨x, _, h⟩ := List.mem_flatMap.1 hu
  exact cells_one x u h
theorem own_base {w : World} {b : Nat} {e : TypeId} {s : Nat} {v : Value} {n : Nat} {xs : List Value} (h : w.ownsRow b e s v n xs) : w.ownsRow 0 e s v n xs := by
  obtain ⟨h1, h2⟩ := h
  refine ⟨h1, ?_⟩
  rcases h2 with h2 | ⟨g, cap, cur, hv, hg, r⟩
  · exact .inl h2
  · exact .inr ⟨g, cap, cur, hv, Nat.zero_le _, r⟩
theorem own_from {w : World} {b g n cap : Nat} {e : TypeId} {s m : Nat} {xs : List Value} (h : w.ownsRow b e s (.slice (some ⟨g, 0, none⟩) n cap) m xs) : b ≤ g := by
  rcases h.2 with ⟨hv, _⟩ | ⟨g', cap', cur, hv, hg, _⟩
  · cases hv
  · injection hv with e1
    injection e1 with e1
    injection e1 with e1
    omega
theorem upd_upd {α : Type} (f : Nat → α) (p : Nat) (x y : α) : upd (upd f p x) p y = upd f p y := by
  funext j
  unfold upd
  by_cases h : j = p
  · rw [if_pos h, if_pos h]
  · rw [if_neg h, if_neg h, if_neg h]

/-- What add leaves. -/
def Added (w : World) (B P : Nat) (c : Nat → Nat) (ls : Nat → List Ent) (F : Nat → Prop) (p : Nat) (x : Ent) (w' : World) : Prop :=
  (∃ vs, BInv w' B P c (upd ls p (last64 (ls p ++ [x]))) (fun k => F k ∨ (w.heap.size ≤ k ∧ k < w'.heap.size)) vs) ∧ Kept F w w'

theorem grow_mono {F : Nat → Prop} {a b c : Nat} (h : b ≤ c) : ∀ k : Nat, (F k ∨ (a ≤ k ∧ k < b)) → (F k ∨ (a ≤ k ∧ k < c)) := fun _ f => f.imp id fun g => ⟨g.1, Nat.lt_of_lt_of_le g.2 h⟩
theorem size_setCell (w : World) (a : Addr) (v : Value) : (w.setCell a v).heap.size = w.heap.size := by simp [World.setCell]

set_option maxRecDepth 100000 in
set_option maxHeartbeats 4000000 in
theorem add_short (B p P : Nat) (c : Nat → Nat) (ls : Nat → List Ent) (F : Nat → Prop) (vs : Nat → Value) (x : Ent) (w : World) (h : BInv w B P c ls F vs) (hp : p < 16) (hl : (ls p).length < 64) :
    Calls Try.prog 16 #[.pointer (some ⟨B, 17 + p, none⟩), .agg #[.int .i64 x.s, .int .i64 x.k, .string x.w]] w fun e w' => e = .returned (.tuple #[]) ∧ Added w B P c ls F p x w' := by
  obtain ⟨i0, hi, hz0, hz1, hz2⟩ := info_parts Try.info30
  have hown := h.own p hp
  have hlt := h.lt
  have hXB : w.heap.size ≠ B := by omega
  have cv := h.row hp
  have fv := h.free (17 + p)
  have HI := Lib.hid h
  have HS := Lib.hid (SX.of (XB.made w x))
  have HN := Lib.hid hown
  clear h hown
  go_enter Try.func16, Try.ntmps16
  go_wp2_with fail
  refine wp_region_held_drew (S := fun w' => SX w.heap.size x w') (by kernel_rfl) HS.out (fun hHeld => ?_)
  refine wpAnyH_take (i := 0) (v := ?_) (by simp only [List.getElem?_toArray, List.getElem?_cons_succ, List.getElem?_cons_zero]; rfl) (by kernel_rfl) (by kernel_rfl) (by kernel_rfl) (by exact fun _ _ _ h => h) (.inl ⟨by rfl, ?_⟩) (by assumption) ?_
  rotate_left
  · (intro w hSw; (try dsimp only at hSw); go_simp; first | done | with_reducible rfl)
  simp only [Act.put, List.setIfInBounds_toArray, List.set_cons_zero, List.set_cons_succ]
  refine wpAnyH_take (i := 1) (v := ?_) (by simp only [List.getElem?_toArray, List.getElem?_cons_succ, List.getElem?_cons_zero]; rfl) (by kernel_rfl) (by kernel_rfl) (by kernel_rfl) (by exact fun _ _ _ h => h) (.inl ⟨by rfl, ?_⟩) (by assumption) ?_
  rotate_left
  · (intro w hSw; (try dsimp only at hSw); go_simp; first | done | with_reducible rfl)
  simp only [Act.put, List.setIfInBounds_toArray, List.set_cons_zero, List.set_cons_succ]
  refine wpAnyH_take (i := 2) (v := ?_) (by simp only [List.getElem?_toArray, List.getElem?_cons_succ, List.getElem?_cons_zero]; rfl) (by kernel_rfl) (by kernel_rfl) (by kernel_rfl) (by exact fun _ _ _ h => h) (.inl ⟨by rfl, ?_⟩) (by assumption) ?_
  rotate_left
  · (intro w hSw; (try dsimp only at hSw); go_simp; first | done | with_reducible rfl)
  simp only [Act.put, List.setIfInBounds_toArray, List.set_cons_zero, List.set_cons_succ]
  refine wpAnyH_take (i := 3) (v := ?_) (by simp only [List.getElem?_toArray, List.getElem?_cons_succ, List.getElem?_cons_zero]; rfl) (by kernel_rfl) (by kernel_rfl) (by kernel_rfl) (by exact fun _ _ _ h => h) (.inl ⟨by rfl, ?_⟩) (by assumption) ?_
  rotate_left
  · (intro w hSw; (try dsimp only at hSw); go_simp; first | done | with_reducible rfl)
  simp only [Act.put, List.setIfInBounds_toArray, List.set_cons_zero, List.set_cons_succ]
  refine wpAnyH_take (i := 5) (v := ?_) (by simp only [List.getElem?_toArray, List.getElem?_cons_succ, List.getElem?_cons_zero]; rfl) (by kernel_rfl) (by kernel_rfl) (by kernel_rfl) (by exact fun _ _ _ h => h) (.inl ⟨by rfl, ?_⟩) (by assumption) ?_
  rotate_left
  · (intro w hSw; (try dsimp only at hSw); go_simp; first | done | with_reducible rfl)
  simp only [Act.put, List.setIfInBounds_toArray, List.set_cons_zero, List.set_cons_succ]
  refine wpAnyH_ready (rs := [4, 6]) (by kernel_rfl) (by simp) ?_
  refine AllReadyH.cons (o := _) (by simp only [List.getElem?_toArray, List.getElem?_cons_succ, List.getElem?_cons_zero]; rfl) (fun K hK => ?_) (AllReadyH.cons (o := _) (by simp only [List.getElem?_toArray, List.getElem?_cons_succ, List.getElem?_cons_zero]; rfl) (fun K hK => ?_) AllReadyH.nil)
  · go_simp
    refine hK.out _ _ ?_ (fun hHeld => ?_)
    · exact HS.out
    clear hK K
    try simp only [Act.put, List.setIfInBounds_toArray, List.set_cons_zero, List.set_cons_succ]
    refine wpAnyH_ready (rs := [6]) (by kernel_rfl) (by simp) ?_
    refine AllReadyH.cons (o := _) (by simp only [List.getElem?_toArray, List.getElem?_cons_succ, List.getElem?_cons_zero]; rfl) (fun K hK => ?_) AllReadyH.nil
    go_simp
    refine hK.out _ _ ?_ (fun hHeld => ?_)
    · exact SX.alloc HS.out _
    clear hK K
    try simp only [Act.put, List.setIfInBounds_toArray, List.set_cons_zero, List.set_cons_succ]
    refine wpAnyH_ready (rs := [7]) (by kernel_rfl) (by simp) ?_
    refine AllReadyH.cons (o := _) (by simp only [List.getElem?_toArray, List.getElem?_cons_succ, List.getElem?_cons_zero]; rfl) (fun K hK => ?_) AllReadyH.nil
    refine step_append_lies _ (by rfl) (.tmp 9) (.tmp 11) 36 (by rfl) 0 30 i0 (.agg #[.int .i64 0, .int .i64 0, .string ⟨#[]⟩]) 3 32 Try.underlying36 hi hz0 hz1 hz2 rfl (by decide) (vs p) (ls p).length (cells3 (ls p)) (by rfl) (by exact own_two HN.out) ⟨w.heap.size + 1, 0, none⟩ 1 1 x.cells (by rfl) (by rfl) (by exact news_two) (cells_one x) (by omega) (by unfold maxLen; omega) (by omega) (Nat.zero_le _) (w.heap.size + 2) (by simp) ?_; intro g cap w1 hown1 hgrow hat hg; have hA := app_after (x := x) (o := .cells #[.int .i64 x.s, .int .i64 x.k, .string x.w] 30) HI.out hp (by rfl) (by rfl) (by rfl) (by rfl) hgrow; have c1 := hA.cell; have f1 := hA.free
    refine hK.out _ _ ?_ (fun hHeld => ?_)
    · exact hA.xb
    clear hK K
    try simp only [Act.put, List.setIfInBounds_toArray, List.set_cons_zero, List.set_cons_succ]
    refine wpAnyH_take (i := 8) (v := ?_) (by simp only [List.getElem?_toArray, List.getElem?_cons_succ, List.getElem?_cons_zero]; rfl) (by kernel_rfl) (by kernel_rfl) (by kernel_rfl) (by exact fun _ _ _ h => h) (.inl ⟨by rfl, ?_⟩) (by assumption) ?_
    rotate_left
    · (intro w hSw; (try dsimp only at hSw); go_simp; first | done | with_reducible rfl)
    simp only [Act.put, List.setIfInBounds_toArray, List.set_cons_zero, List.set_cons_succ]
    refine wpAnyH_take (i := 9) (v := ?_) (by simp only [List.getElem?_toArray, List.getElem?_cons_succ, List.getElem?_cons_zero]; rfl) (by kernel_rfl) (by kernel_rfl) (by kernel_rfl) (by exact fun _ _ _ h => h) (.inl ⟨by rfl, ?_⟩) (by assumption) ?_
    rotate_left
    · (intro w hSw; (try dsimp only at hSw); go_simp; first | done | with_reducible rfl)
    simp only [Act.put, List.setIfInBounds_toArray, List.set_cons_zero, List.set_cons_succ]
    refine wpAnyH_ready (rs := [10]) (by kernel_rfl) (by simp) ?_
    refine AllReadyH.cons (o := _) (by simp only [List.getElem?_toArray, List.getElem?_cons_succ, List.getElem?_cons_zero]; rfl) (fun K hK => ?_) AllReadyH.nil
    go_simp
    refine hK.out _ _ ?_ (fun hHeld => ?_)
    · exact SX.set hXB hA.xb
    clear hK K
    try simp only [Act.put, List.setIfInBounds_toArray, List.set_cons_zero, List.set_cons_succ]
    refine wpAnyH_done (by kernel_rfl) ?_ _
    have HP := Lib.hid (hA.put HI.out hp hown1 rfl hat hg)
    have HA := Lib.hid hA
    clear hat hown1 hgrow hA
    go_wp2_with fail
    go_end0
    have e : BInv (w1.setCell ⟨B, 17 + p, none⟩ (.slice (some ⟨g, 0, none⟩) ((ls p).length + 1) cap)) B P c (upd ls p (last64 (ls p ++ [x]))) (fun k => F k ∨ (w.heap.size ≤ k ∧ k < (w1.setCell ⟨B, 17 + p, none⟩ (.slice (some ⟨g, 0, none⟩) ((ls p).length + 1) cap)).heap.size)) (upd vs p (.slice (some ⟨g, 0, none⟩) ((ls p).length + 1) cap)) := by
      rw [last64_short (by simp; omega), size_setCell]
      exact HP.out
    exact ⟨rfl, ⟨_, e⟩, HA.out.kept.setCell (.inl HI.out.fB) _⟩
  · go_simp
    refine hK.out _ _ ?_ (fun hHeld => ?_)
    · exact SX.alloc HS.out _
    clear hK K
    try simp only [Act.put, List.setIfInBounds_toArray, List.set_cons_zero, List.set_cons_succ]
    refine wpAnyH_ready (rs := [4]) (by kernel_rfl) (by simp) ?_
    refine AllReadyH.cons (o := _) (by simp only [List.getElem?_toArray, List.getElem?_cons_succ, List.getElem?_cons_zero]; rfl) (fun K hK => ?_) AllReadyH.nil
    go_simp
    refine hK.out _ _ ?_ (fun hHeld => ?_)
    · exact SX.alloc HS.out _
    clear hK K
    try simp only [Act.put, List.setIfInBounds_toArray, List.set_cons_zero, List.set_cons_succ]
    refine wpAnyH_ready (rs := [7]) (by kernel_rfl) (by simp) ?_
    refine AllReadyH.cons (o := _) (by simp only [List.getElem?_toArray, List.getElem?_cons_succ, List.getElem?_cons_zero]; rfl) (fun K hK => ?_) AllReadyH.nil
    refine step_append_lies _ (by rfl) (.tmp 9) (.tmp 11) 36 (by rfl) 0 30 i0 (.agg #[.int .i64 0, .int .i64 0, .string ⟨#[]⟩]) 3 32 Try.underlying36 hi hz0 hz1 hz2 rfl (by decide) (vs p) (ls p).length (cells3 (ls p)) (by rfl) (by exact own_two HN.out) ⟨w.heap.size + 1, 0, none⟩ 1 1 x.cells (by rfl) (by rfl) (by exact news_two) (cells_one x) (by omega) (by unfold maxLen; omega) (by omega) (Nat.zero_le _) (w.heap.size + 2) (by simp) ?_; intro g cap w1 hown1 hgrow hat hg; have hA := app_after (x := x) (o := .cells #[.int .i64 x.s, .int .i64 x.k, .string x.w] 30) HI.out hp (by rfl) (by rfl) (by rfl) (by rfl) hgrow; have c1 := hA.cell; have f1 := hA.free
    refine hK.out _ _ ?_ (fun hHeld => ?_)
    · exact hA.xb
    clear hK K
    try simp only [Act.put, List.setIfInBounds_toArray, List.set_cons_zero, List.set_cons_succ]
    refine wpAnyH_take (i := 8) (v := ?_) (by simp only [List.getElem?_toArray, List.getElem?_cons_succ, List.getElem?_cons_zero]; rfl) (by kernel_rfl) (by kernel_rfl) (by kernel_rfl) (by exact fun _ _ _ h => h) (.inl ⟨by rfl, ?_⟩) (by assumption) ?_
    rotate_left
    · (intro w hSw; (try dsimp only at hSw); go_simp; first | done | with_reducible rfl)
    simp only [Act.put, List.setIfInBounds_toArray, List.set_cons_zero, List.set_cons_succ]
    refine wpAnyH_take (i := 9) (v := ?_) (by simp only [List.getElem?_toArray, List.getElem?_cons_succ, List.getElem?_cons_zero]; rfl) (by kernel_rfl) (by kernel_rfl) (by kernel_rfl) (by exact fun _ _ _ h => h) (.inl ⟨by rfl, ?_⟩) (by assumption) ?_
    rotate_left
    · (intro w hSw; (try dsimp only at hSw); go_simp; first | done | with_reducible rfl)
    simp only [Act.put, List.setIfInBounds_toArray, List.set_cons_zero, List.set_cons_succ]
    refine wpAnyH_ready (rs := [10]) (by kernel_rfl) (by simp) ?_
    refine AllReadyH.cons (o := _) (by simp only [List.getElem?_toArray, List.getElem?_cons_succ, List.getElem?_cons_zero]; rfl) (fun K hK => ?_) AllReadyH.nil
    go_simp
    refine hK.out _ _ ?_ (fun hHeld => ?_)
    · exact SX.set hXB hA.xb
    clear hK K
    try simp only [Act.put, List.setIfInBounds_toArray, List.set_cons_zero, List.set_cons_succ]
    refine wpAnyH_done (by kernel_rfl) ?_ _
    have HP := Lib.hid (hA.put HI.out hp hown1 rfl hat hg)
    have HA := Lib.hid hA
    clear hat hown1 hgrow hA
    go_wp2_with fail
    go_end0
    have e : BInv (w1.setCell ⟨B, 17 + p, none⟩ (.slice (some ⟨g, 0, none⟩) ((ls p).length + 1) cap)) B P c (upd ls p (last64 (ls p ++ [x]))) (fun k => F k ∨ (w.heap.size ≤ k ∧ k < (w1.setCell ⟨B, 17 + p, none⟩ (.slice (some ⟨g, 0, none⟩) ((ls p).length + 1) cap)).heap.size)) (upd vs p (.slice (some ⟨g, 0, none⟩) ((ls p).length + 1) cap)) := by
      rw [last64_short (by simp; omega), size_setCell]
      exact HP.out
    exact ⟨rfl, ⟨_, e⟩, HA.out.kept.setCell (.inl HI.out.fB) _⟩

set_option maxRecDepth 100000 in
set_option maxHeartbeats 4000000 in
theorem add_long (B p P : Nat) (c : Nat → Nat) (ls : Nat → List Ent) (F : Nat → Prop) (vs : Nat → Value) (x : Ent) (w : World) (h : BInv w B P c ls F vs) (hp : p < 16) (hl : (ls p).length = 64) :
    Calls Try.prog 16 #[.pointer (some ⟨B, 17 + p, none⟩), .agg #[.int .i64 x.s, .int .i64 x.k, .string x.w]] w fun e w' => e = .returned (.tuple #[]) ∧ Added w B P c ls F p x w' := by
  obtain ⟨i0, hi, hz0, hz1, hz2⟩ := info_parts Try.info30
  have hown : w.ownsRow 0 30 3 (vs p) 64 (cells3 (ls p)) := hl ▸ h.own p hp
  have HL := Lib.hid hl
  clear hl
  have hlt := h.lt
  have hXB : w.heap.size ≠ B := by omega
  have cv := h.row hp
  have fv := h.free (17 + p)
  have HI := Lib.hid h
  have HS := Lib.hid (SX.of (XB.made w x))
  have HN := Lib.hid hown
  clear h hown
  go_enter Try.func16, Try.ntmps16
  go_wp2_with fail
  refine wp_region_held_drew (S := fun w' => SX w.heap.size x w') (by kernel_rfl) HS.out (fun hHeld => ?_)
  refine wpAnyH_take (i := 0) (v := ?_) (by simp only [List.getElem?_toArray, List.getElem?_cons_succ, List.getElem?_cons_zero]; rfl) (by kernel_rfl) (by kernel_rfl) (by kernel_rfl) (by exact fun _ _ _ h => h) (.inl ⟨by rfl, ?_⟩) (by assumption) ?_
  rotate_left
  · (intro w hSw; (try dsimp only at hSw); go_simp; first | done | with_reducible rfl)
  simp only [Act.put, List.setIfInBounds_toArray, List.set_cons_zero, List.set_cons_succ]
  refine wpAnyH_take (i := 1) (v := ?_) (by simp only [List.getElem?_toArray, List.getElem?_cons_succ, List.getElem?_cons_zero]; rfl) (by kernel_rfl) (by kernel_rfl) (by kernel_rfl) (by exact fun _ _ _ h => h) (.inl ⟨by rfl, ?_⟩) (by assumption) ?_
  rotate_left
  · (intro w hSw; (try dsimp only at hSw); go_simp; first | done | with_reducible rfl)
  simp only [Act.put, List.setIfInBounds_toArray, List.set_cons_zero, List.set_cons_succ]
  refine wpAnyH_take (i := 2) (v := ?_) (by simp only [List.getElem?_toArray, List.getElem?_cons_succ, List.getElem?_cons_zero]; rfl) (by kernel_rfl) (by kernel_rfl) (by kernel_rfl) (by exact fun _ _ _ h => h) (.inl ⟨by rfl, ?_⟩) (by assumption) ?_
  rotate_left
  · (intro w hSw; (try dsimp only at hSw); go_simp; first | done | with_reducible rfl)
  simp only [Act.put, List.setIfInBounds_toArray, List.set_cons_zero, List.set_cons_succ]
  refine wpAnyH_take (i := 3) (v := ?_) (by simp only [List.getElem?_toArray, List.getElem?_cons_succ, List.getElem?_cons_zero]; rfl) (by kernel_rfl) (by kernel_rfl) (by kernel_rfl) (by exact fun _ _ _ h => h) (.inl ⟨by rfl, ?_⟩) (by assumption) ?_
  rotate_left
  · (intro w hSw; (try dsimp only at hSw); go_simp; first | done | with_reducible rfl)
  simp only [Act.put, List.setIfInBounds_toArray, List.set_cons_zero, List.set_cons_succ]
  refine wpAnyH_take (i := 5) (v := ?_) (by simp only [List.getElem?_toArray, List.getElem?_cons_succ, List.getElem?_cons_zero]; rfl) (by kernel_rfl) (by kernel_rfl) (by kernel_rfl) (by exact fun _ _ _ h => h) (.inl ⟨by rfl, ?_⟩) (by assumption) ?_
  rotate_left
  · (intro w hSw; (try dsimp only at hSw); go_simp; first | done | with_reducible rfl)
  simp only [Act.put, List.setIfInBounds_toArray, List.set_cons_zero, List.set_cons_succ]
  refine wpAnyH_ready (rs := [4, 6]) (by kernel_rfl) (by simp) ?_
  refine AllReadyH.cons (o := _) (by simp only [List.getElem?_toArray, List.getElem?_cons_succ, List.getElem?_cons_zero]; rfl) (fun K hK => ?_) (AllReadyH.cons (o := _) (by simp only [List.getElem?_toArray, List.getElem?_cons_succ, List.getElem?_cons_zero]; rfl) (fun K hK => ?_) AllReadyH.nil)
  · go_simp
    refine hK.out _ _ ?_ (fun hHeld => ?_)
    · exact HS.out
    clear hK K
    try simp only [Act.put, List.setIfInBounds_toArray, List.set_cons_zero, List.set_cons_succ]
    refine wpAnyH_ready (rs := [6]) (by kernel_rfl) (by simp) ?_
    refine AllReadyH.cons (o := _) (by simp only [List.getElem?_toArray, List.getElem?_cons_succ, List.getElem?_cons_zero]; rfl) (fun K hK => ?_) AllReadyH.nil
    go_simp
    refine hK.out _ _ ?_ (fun hHeld => ?_)
    · exact SX.alloc HS.out _
    clear hK K
    try simp only [Act.put, List.setIfInBounds_toArray, List.set_cons_zero, List.set_cons_succ]
    refine wpAnyH_ready (rs := [7]) (by kernel_rfl) (by simp) ?_
    refine AllReadyH.cons (o := _) (by simp only [List.getElem?_toArray, List.getElem?_cons_succ, List.getElem?_cons_zero]; rfl) (fun K hK => ?_) AllReadyH.nil
    refine step_append_lies _ (by rfl) (.tmp 9) (.tmp 11) 36 (by rfl) 0 30 i0 (.agg #[.int .i64 0, .int .i64 0, .string ⟨#[]⟩]) 3 32 Try.underlying36 hi hz0 hz1 hz2 rfl (by decide) (vs p) 64 (cells3 (ls p)) (by rfl) (by exact own_two HN.out) ⟨w.heap.size + 1, 0, none⟩ 1 1 x.cells (by rfl) (by rfl) (by exact news_two) (cells_one x) (by omega) (by unfold maxLen; omega) (by omega) (Nat.zero_le _) (w.heap.size + 2) (by simp) ?_; intro g cap w1 hown1 hgrow hat hg; have hA := app_after (x := x) (o := .cells #[.int .i64 x.s, .int .i64 x.k, .string x.w] 30) HI.out hp (by rfl) (by rfl) (by rfl) (by rfl) hgrow; have c1 := hA.cell; have f1 := hA.free
    refine hK.out _ _ ?_ (fun hHeld => ?_)
    · exact hA.xb
    clear hK K
    try simp only [Act.put, List.setIfInBounds_toArray, List.set_cons_zero, List.set_cons_succ]
    refine wpAnyH_take (i := 8) (v := ?_) (by simp only [List.getElem?_toArray, List.getElem?_cons_succ, List.getElem?_cons_zero]; rfl) (by kernel_rfl) (by kernel_rfl) (by kernel_rfl) (by exact fun _ _ _ h => h) (.inl ⟨by rfl, ?_⟩) (by assumption) ?_
    rotate_left
    · (intro w hSw; (try dsimp only at hSw); go_simp; first | done | with_reducible rfl)
    simp only [Act.put, List.setIfInBounds_toArray, List.set_cons_zero, List.set_cons_succ]
    refine wpAnyH_take (i := 9) (v := ?_) (by simp only [List.getElem?_toArray, List.getElem?_cons_succ, List.getElem?_cons_zero]; rfl) (by kernel_rfl) (by kernel_rfl) (by kernel_rfl) (by exact fun _ _ _ h => h) (.inl ⟨by rfl, ?_⟩) (by assumption) ?_
    rotate_left
    · (intro w hSw; (try dsimp only at hSw); go_simp; first | done | with_reducible rfl)
    simp only [Act.put, List.setIfInBounds_toArray, List.set_cons_zero, List.set_cons_succ]
    refine wpAnyH_ready (rs := [10]) (by kernel_rfl) (by simp) ?_
    refine AllReadyH.cons (o := _) (by simp only [List.getElem?_toArray, List.getElem?_cons_succ, List.getElem?_cons_zero]; rfl) (fun K hK => ?_) AllReadyH.nil
    go_simp
    refine hK.out _ _ ?_ (fun hHeld => ?_)
    · exact SX.set hXB hA.xb
    clear hK K
    try simp only [Act.put, List.setIfInBounds_toArray, List.set_cons_zero, List.set_cons_succ]
    refine wpAnyH_done (by kernel_rfl) ?_ _
    have hcap : 65 ≤ cap ∧ cap ≤ maxLen := by
      rcases hown1.2 with ⟨_, h0⟩ | ⟨g', cap', cur, hv, _, _, h1, h2, _⟩
      · omega
      · injection hv with _ _ hcc
        subst hcc
        exact ⟨h1, h2⟩
    have HP := Lib.hid (hA.put HI.out hp hown1 (by rw [HL.out]) hat hg)
    have HA := Lib.hid hA
    have HO := Lib.hid hown1
    obtain ⟨hcap1, hcap2⟩ := hcap
    unfold maxLen at hcap2
    have hgB : g ≠ B := by
      rcases hat with f | f
      · exact HI.out.off hp f
      · omega
    have hcl : ∀ i u, ((cells3 (ls p) ++ x.cells).drop 3)[i]? = some u → (w1.setCell ⟨B, 17 + p, none⟩ (.slice (some ⟨g, 0, none⟩) 65 cap)).cell? ⟨g, 3 + i, none⟩ = some u := fun i u hu => by
      rw [List.getElem?_drop] at hu
      have hi : 3 + i < 65 * 3 := by
        have h1 := (List.getElem?_eq_some_iff.1 hu).1
        rw [List.length_append, cells3_length, HL.out] at h1
        exact h1
      exact (cell_of_same (heap_setCell_other w1 ⟨B, 17 + p, none⟩ g _ hgB)).trans ((hown1.cellAt (3 + i) hi).trans hu)
    have hone : ∀ u ∈ (cells3 (ls p) ++ x.cells).drop 3, u.oneCell' = true := fun u hu => by
      have h1 := List.mem_of_mem_drop hu
      rcases List.mem_append.1 h1 with h1 | h1
      · exact cells3_one _ u h1
      · exact cells_one x u h1
    have HC := Lib.hid hcl
    have HQ := Lib.hid hone
    clear hat hown1 hgrow hA hcl hone
    go_wp2_with fail
    refine (clone_some g 3 64 (cap - 1) ((cells3 (ls p) ++ x.cells).drop 3) _ (by omega) (by rw [List.length_drop, List.length_append, cells3_length, HL.out]; rfl) HC.out HQ.out (by omega)).mono ?_
    rintro e w3 ⟨g2, cap2, rfl, hown3, b3⟩
    have hr := HP.out.row hp
    have hB2 := HP.out.lt
    have cB3 := (b3.cell (p := ⟨B, 17 + p, none⟩) hB2).trans hr
    have fB3 := (b3.frozen (p := ⟨B, 17 + p, none⟩) hB2).trans (HP.out.free (17 + p))
    rw [upd_same] at cB3
    have hs3 := b3.size
    rw [size_setCell] at hs3
    have e1 : last64 (ls p ++ [x]) = (ls p ++ [x]).drop 1 := by unfold last64; rw [List.length_append, HL.out]; rfl
    have e2 : (last64 (ls p ++ [x])).length = 64 := by rw [last64_length, List.length_append, HL.out]; rfl
    have hput := HP.out.put (w1 := w3) (G := fun k => F k ∨ (w.heap.size ≤ k ∧ k < w3.heap.size)) (l := last64 (ls p ++ [x])) (v := .slice (some ⟨g2, 0, none⟩) 64 cap2) hp (b3.block B hB2) (fun k hk _ => b3.block k hk)
      (by rw [e2, e1, cells3_drop, cells3_append]
          have : cells3 [x] = x.cells := by simp [cells3]
          rw [this]
          exact own_base hown3)
      (fun g' e => by
        simp only [Value.ownBlock, Option.some.injEq] at e
        subst e
        exact .inr (own_from hown3)) (by intro e; rw [e] at e2; simp at e2) (grow_mono hs3)
      (fun g' e => by
        simp only [Value.ownBlock, Option.some.injEq] at e
        subst e
        have a1 := own_from hown3
        have a2 := own_lt hown3 (g := g2) rfl
        have a3 := HA.out.kept.size
        rw [size_setCell] at a1
        exact .inr ⟨by omega, a2⟩)
    rw [upd_upd] at hput
    have hk := (HA.out.kept.setCell (p := ⟨B, 17 + p, none⟩) (.inl HI.out.fB) (.slice (some ⟨g, 0, none⟩) 65 cap)).trans (Kept.of_below b3)
    have HF := Lib.hid hput
    have HK := Lib.hid (hk.setCell (p := ⟨B, 17 + p, none⟩) (.inl HI.out.fB) (.slice (some ⟨g2, 0, none⟩) 64 cap2))
    clear hput hk hown3 b3 hr
    go_wp2_with fail
    go_end0
    have e3 : BInv (w3.setCell ⟨B, 17 + p, none⟩ (.slice (some ⟨g2, 0, none⟩) 64 cap2)) B P c (upd ls p (last64 (ls p ++ [x]))) (fun k => F k ∨ (w.heap.size ≤ k ∧ k < (w3.setCell ⟨B, 17 + p, none⟩ (.slice (some ⟨g2, 0, none⟩) 64 cap2)).heap.size)) (upd (upd vs p (.slice (some ⟨g, 0, none⟩) 65 cap)) p (.slice (some ⟨g2, 0, none⟩) 64 cap2)) := by
      rw [size_setCell]
      exact HF.out
    exact ⟨rfl, ⟨_, e3⟩, HK.out⟩
  · go_simp
    refine hK.out _ _ ?_ (fun hHeld => ?_)
    · exact SX.alloc HS.out _
    clear hK K
    try simp only [Act.put, List.setIfInBounds_toArray, List.set_cons_zero, List.set_cons_succ]
    refine wpAnyH_ready (rs := [4]) (by kernel_rfl) (by simp) ?_
    refine AllReadyH.cons (o := _) (by simp only [List.getElem?_toArray, List.getElem?_cons_succ, List.getElem?_cons_zero]; rfl) (fun K hK => ?_) AllReadyH.nil
    go_simp
    refine hK.out _ _ ?_ (fun hHeld => ?_)
    · exact SX.alloc HS.out _
    clear hK K
    try simp only [Act.put, List.setIfInBounds_toArray, List.set_cons_zero, List.set_cons_succ]
    refine wpAnyH_ready (rs := [7]) (by kernel_rfl) (by simp) ?_
    refine AllReadyH.cons (o := _) (by simp only [List.getElem?_toArray, List.getElem?_cons_succ, List.getElem?_cons_zero]; rfl) (fun K hK => ?_) AllReadyH.nil
    refine step_append_lies _ (by rfl) (.tmp 9) (.tmp 11) 36 (by rfl) 0 30 i0 (.agg #[.int .i64 0, .int .i64 0, .string ⟨#[]⟩]) 3 32 Try.underlying36 hi hz0 hz1 hz2 rfl (by decide) (vs p) 64 (cells3 (ls p)) (by rfl) (by exact own_two HN.out) ⟨w.heap.size + 1, 0, none⟩ 1 1 x.cells (by rfl) (by rfl) (by exact news_two) (cells_one x) (by omega) (by unfold maxLen; omega) (by omega) (Nat.zero_le _) (w.heap.size + 2) (by simp) ?_; intro g cap w1 hown1 hgrow hat hg; have hA := app_after (x := x) (o := .cells #[.int .i64 x.s, .int .i64 x.k, .string x.w] 30) HI.out hp (by rfl) (by rfl) (by rfl) (by rfl) hgrow; have c1 := hA.cell; have f1 := hA.free
    refine hK.out _ _ ?_ (fun hHeld => ?_)
    · exact hA.xb
    clear hK K
    try simp only [Act.put, List.setIfInBounds_toArray, List.set_cons_zero, List.set_cons_succ]
    refine wpAnyH_take (i := 8) (v := ?_) (by simp only [List.getElem?_toArray, List.getElem?_cons_succ, List.getElem?_cons_zero]; rfl) (by kernel_rfl) (by kernel_rfl) (by kernel_rfl) (by exact fun _ _ _ h => h) (.inl ⟨by rfl, ?_⟩) (by assumption) ?_
    rotate_left
    · (intro w hSw; (try dsimp only at hSw); go_simp; first | done | with_reducible rfl)
    simp only [Act.put, List.setIfInBounds_toArray, List.set_cons_zero, List.set_cons_succ]
    refine wpAnyH_take (i := 9) (v := ?_) (by simp only [List.getElem?_toArray, List.getElem?_cons_succ, List.getElem?_cons_zero]; rfl) (by kernel_rfl) (by kernel_rfl) (by kernel_rfl) (by exact fun _ _ _ h => h) (.inl ⟨by rfl, ?_⟩) (by assumption) ?_
    rotate_left
    · (intro w hSw; (try dsimp only at hSw); go_simp; first | done | with_reducible rfl)
    simp only [Act.put, List.setIfInBounds_toArray, List.set_cons_zero, List.set_cons_succ]
    refine wpAnyH_ready (rs := [10]) (by kernel_rfl) (by simp) ?_
    refine AllReadyH.cons (o := _) (by simp only [List.getElem?_toArray, List.getElem?_cons_succ, List.getElem?_cons_zero]; rfl) (fun K hK => ?_) AllReadyH.nil
    go_simp
    refine hK.out _ _ ?_ (fun hHeld => ?_)
    · exact SX.set hXB hA.xb
    clear hK K
    try simp only [Act.put, List.setIfInBounds_toArray, List.set_cons_zero, List.set_cons_succ]
    refine wpAnyH_done (by kernel_rfl) ?_ _
    have hcap : 65 ≤ cap ∧ cap ≤ maxLen := by
      rcases hown1.2 with ⟨_, h0⟩ | ⟨g', cap', cur, hv, _, _, h1, h2, _⟩
      · omega
      · injection hv with _ _ hcc
        subst hcc
        exact ⟨h1, h2⟩
    have HP := Lib.hid (hA.put HI.out hp hown1 (by rw [HL.out]) hat hg)
    have HA := Lib.hid hA
    have HO := Lib.hid hown1
    obtain ⟨hcap1, hcap2⟩ := hcap
    unfold maxLen at hcap2
    have hgB : g ≠ B := by
      rcases hat with f | f
      · exact HI.out.off hp f
      · omega
    have hcl : ∀ i u, ((cells3 (ls p) ++ x.cells).drop 3)[i]? = some u → (w1.setCell ⟨B, 17 + p, none⟩ (.slice (some ⟨g, 0, none⟩) 65 cap)).cell? ⟨g, 3 + i, none⟩ = some u := fun i u hu => by
      rw [List.getElem?_drop] at hu
      have hi : 3 + i < 65 * 3 := by
        have h1 := (List.getElem?_eq_some_iff.1 hu).1
        rw [List.length_append, cells3_length, HL.out] at h1
        exact h1
      exact (cell_of_same (heap_setCell_other w1 ⟨B, 17 + p, none⟩ g _ hgB)).trans ((hown1.cellAt (3 + i) hi).trans hu)
    have hone : ∀ u ∈ (cells3 (ls p) ++ x.cells).drop 3, u.oneCell' = true := fun u hu => by
      have h1 := List.mem_of_mem_drop hu
      rcases List.mem_append.1 h1 with h1 | h1
      · exact cells3_one _ u h1
      · exact cells_one x u h1
    have HC := Lib.hid hcl
    have HQ := Lib.hid hone
    clear hat hown1 hgrow hA hcl hone
    go_wp2_with fail
    refine (clone_some g 3 64 (cap - 1) ((cells3 (ls p) ++ x.cells).drop 3) _ (by omega) (by rw [List.length_drop, List.length_append, cells3_length, HL.out]; rfl) HC.out HQ.out (by omega)).mono ?_
    rintro e w3 ⟨g2, cap2, rfl, hown3, b3⟩
    have hr := HP.out.row hp
    have hB2 := HP.out.lt
    have cB3 := (b3.cell (p := ⟨B, 17 + p, none⟩) hB2).trans hr
    have fB3 := (b3.frozen (p := ⟨B, 17 + p, none⟩) hB2).trans (HP.out.free (17 + p))
    rw [upd_same] at cB3
    have hs3 := b3.size
    rw [size_setCell] at hs3
    have e1 : last64 (ls p ++ [x]) = (ls p ++ [x]).drop 1 := by unfold last64; rw [List.length_append, HL.out]; rfl
    have e2 : (last64 (ls p ++ [x])).length = 64 := by rw [last64_length, List.length_append, HL.out]; rfl
    have hput := HP.out.put (w1 := w3) (G := fun k => F k ∨ (w.heap.size ≤ k ∧ k < w3.heap.size)) (l := last64 (ls p ++ [x])) (v := .slice (some ⟨g2, 0, none⟩) 64 cap2) hp (b3.block B hB2) (fun k hk _ => b3.block k hk)
      (by rw [e2, e1, cells3_drop, cells3_append]
          have : cells3 [x] = x.cells := by simp [cells3]
          rw [this]
          exact own_base hown3)
      (fun g' e => by
        simp only [Value.ownBlock, Option.some.injEq] at e
        subst e
        exact .inr (own_from hown3)) (by intro e; rw [e] at e2; simp at e2) (grow_mono hs3)
      (fun g' e => by
        simp only [Value.ownBlock, Option.some.injEq] at e
        subst e
        have a1 := own_from hown3
        have a2 := own_lt hown3 (g := g2) rfl
        have a3 := HA.out.kept.size
        rw [size_setCell] at a1
        exact .inr ⟨by omega, a2⟩)
    rw [upd_upd] at hput
    have hk := (HA.out.kept.setCell (p := ⟨B, 17 + p, none⟩) (.inl HI.out.fB) (.slice (some ⟨g, 0, none⟩) 65 cap)).trans (Kept.of_below b3)
    have HF := Lib.hid hput
    have HK := Lib.hid (hk.setCell (p := ⟨B, 17 + p, none⟩) (.inl HI.out.fB) (.slice (some ⟨g2, 0, none⟩) 64 cap2))
    clear hput hk hown3 b3 hr
    go_wp2_with fail
    go_end0
    have e3 : BInv (w3.setCell ⟨B, 17 + p, none⟩ (.slice (some ⟨g2, 0, none⟩) 64 cap2)) B P c (upd ls p (last64 (ls p ++ [x]))) (fun k => F k ∨ (w.heap.size ≤ k ∧ k < (w3.setCell ⟨B, 17 + p, none⟩ (.slice (some ⟨g2, 0, none⟩) 64 cap2)).heap.size)) (upd (upd vs p (.slice (some ⟨g, 0, none⟩) 65 cap)) p (.slice (some ⟨g2, 0, none⟩) 64 cap2)) := by
      rw [size_setCell]
      exact HF.out
    exact ⟨rfl, ⟨_, e3⟩, HK.out⟩
end Go.Proofs.Ytoldipjchcmonaa
