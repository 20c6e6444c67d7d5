/-
  The walks of Book.Note and Book.List.
-/
import Derived.Test.YtoldipjchcmonaaTail
namespace Go.Proofs.Ytoldipjchcmonaa
open Go.RowKit
set_option linter.unusedSimpArgs false
attribute [local go_sem ↓] Go.wp_at_zero Go.wp_at_succ

theorem SX.below {w w' : World} {X : Nat} {x : Ent} (h : SX X x w) (hb : w'.heap[X]? = w.heap[X]?) : SX X x w' := SX.of (hb.trans h.1)

set_option maxHeartbeats 800000 in
theorem note_none (B P : Nat) (c : Nat → Nat) (ls : Nat → List Ent) (F : Nat → Prop) (p : Int) (x : Ent) (w : World) (h : Book w B P c ls F) (hp : isPart P p = false) :
    Calls Try.prog 8 #[.pointer (some ⟨B, 0, none⟩), .int .i64 p, .agg #[.int .i64 x.s, .int .i64 x.k, .string x.w]] w fun e w' => e = .returned (.int .i64 4) ∧ Below w.heap.size w w' := by
  have hb := (Below.refl w.heap.size w).alloc (Nat.le_refl _) (.cells #[.int .i64 x.s, .int .i64 x.k, .string x.w] 30)
  obtain ⟨⟨vs, h'⟩, _⟩ := h.later hb
  have HC := Lib.hid h'.parts
  have HP := Lib.hid hp
  have HB := Lib.hid hb
  clear h h' hp hb
  go_enter Try.func8, Try.ntmps8
  go_wp2_with fail
  refine (there_is B P p false HP.out _ HC.out).mono ?_
  rintro e w' ⟨rfl, rfl⟩
  go_wp2_with fail
  go_ret
  exact ⟨rfl, HB.out⟩

set_option maxHeartbeats 800000 in
theorem note_long (B P : Nat) (c : Nat → Nat) (ls : Nat → List Ent) (F : Nat → Prop) (p : Int) (x : Ent) (w : World) (h : Book w B P c ls F) (hp : isPart P p = true) (hx : 200 < x.w.size) :
    Calls Try.prog 8 #[.pointer (some ⟨B, 0, none⟩), .int .i64 p, .agg #[.int .i64 x.s, .int .i64 x.k, .string x.w]] w fun e w' => e = .returned (.int .i64 3) ∧ Below w.heap.size w w' := by
  have hb := (Below.refl w.heap.size w).alloc (Nat.le_refl _) (.cells #[.int .i64 x.s, .int .i64 x.k, .string x.w] 30)
  obtain ⟨⟨vs, h'⟩, _⟩ := h.later hb
  have HC := Lib.hid h'.parts
  have HP := Lib.hid hp
  have HB := Lib.hid hb
  have hx' : (200 : Int) < x.w.size := by omega
  clear h h' hp hb
  go_enter Try.func8, Try.ntmps8
  go_wp2_with fail
  refine (there_is B P p true HP.out _ HC.out).mono ?_
  rintro e w' ⟨rfl, rfl⟩
  go_wp2_with fail
  go_ret
  exact ⟨rfl, HB.out⟩

theorem tail_any (B p P : Nat) (c : Nat → Nat) (ls : Nat → List Ent) (F : Nat → Prop) (vs : Nat → Value) (x : Ent) (w : World) (h : BInv w B P c ls F vs) (hp : p < 16) (hl : (ls p).length ≤ 64) :
    Calls Try.prog 16 #[.pointer (some ⟨B, 17 + p, none⟩), .agg #[.int .i64 x.s, .int .i64 x.k, .string x.w]] w fun e w' => e = .returned (.tuple #[]) ∧ Added w B P c ls F p x w' := by
  by_cases h64 : (ls p).length = 64
  · exact add_long B p P c ls F vs x w h hp h64
  · exact add_short B p P c ls F vs x w h hp (by omega)

/-- What Note leaves, where it takes the entry. -/
def Noted (w : World) (B P : Nat) (c : Nat → Nat) (ls : Nat → List Ent) (F : Nat → Prop) (p : Nat) (x : Ent) (w' : World) : Prop :=
  Book w' B P (upd c p (c p + 1)) (upd ls p (last64 (ls p ++ [x]))) (fun k => F k ∨ (w.heap.size ≤ k ∧ k < w'.heap.size)) ∧ Kept F w w'

theorem upd_short {ls : Nat → List Ent} {p : Nat} {l : List Ent} (h : ∀ q, q < 16 → (ls q).length ≤ 64) : ∀ q, q < 16 → (upd ls p (last64 l) q).length ≤ 64 := fun q hq => by
  by_cases e : q = p
  · subst e
    rw [upd_same, last64_length]
    omega
  · rw [upd_other _ _ e]
    exact h q hq

theorem absW {P : Program} {Q : Exit → Act → World → Prop} {c : Code} {a : Act} {w : World} (S : World → Prop) (h : S w) (k : ∀ w', S w' → c.wp P Q a w') : c.wp P Q a w := k w h

/-- The world behind the count: the book, the entry's box. -/
def Counted (w : World) (B P : Nat) (c : Nat → Nat) (ls : Nat → List Ent) (F : Nat → Prop) (vs : Nat → Value) (p : Nat) (x : Ent) (w2 : World) : Prop :=
  BInv w2 B P (upd c p (c p + 1)) ls F vs ∧ SX w.heap.size x w2 ∧ Kept F w w2 ∧ w.heap.size < w2.heap.size

theorem counted {w : World} {B P : Nat} {c : Nat → Nat} {ls : Nat → List Ent} {F : Nat → Prop} {vs : Nat → Value} {p : Nat} (x : Ent) (h : BInv w B P c ls F vs) (hp : p < 16) :
    Counted w B P c ls F vs p x ((w.alloc (.cells #[.int .i64 x.s, .int .i64 x.k, .string x.w] 30)).setCell ⟨B, 1 + p, none⟩ (.int .i64 ((c p : Int) + 1))) := by
  have h' : BInv (w.alloc (.cells #[.int .i64 x.s, .int .i64 x.k, .string x.w] 30)) B P c ls F vs := h.same (fun k _ hk => Below.heap_alloc _ _ _ hk) (fun _ f => f)
  have h1 := h'.count (p := p) (n := c p + 1) hp
  have hlt := h.lt
  exact ⟨h1, SX.set (by omega) (SX.of (XB.made w x)), ((Kept.refl F w).alloc _).setCell (.inl h.fB) _, by rw [size_setCell, World.size_alloc]; omega⟩

set_option maxRecDepth 100000 in
set_option maxHeartbeats 2000000 in
theorem note_yes (B P : Nat) (c : Nat → Nat) (ls : Nat → List Ent) (F : Nat → Prop) (p : Nat) (x : Ent) (w : World) (h : Book w B P c ls F) (hF : ∀ k, F k → k < w.heap.size) (hP : P ≤ 16) (hp : p < P) (hx : x.w.size ≤ 200) (hc : c p ≤ 1000000) :
    Calls Try.prog 8 #[.pointer (some ⟨B, 0, none⟩), .int .i64 p, .agg #[.int .i64 x.s, .int .i64 x.k, .string x.w]] w fun e w' => e = .returned (.int .i64 0) ∧ Noted w B P c ls F p x w' := by
  have hb := (Below.refl w.heap.size w).alloc (Nat.le_refl _) (.cells #[.int .i64 x.s, .int .i64 x.k, .string x.w] 30)
  obtain ⟨⟨vs, h0⟩, hs⟩ := h
  have h' := h0.same (G := F) (fun k _ hk => hb.block k hk) (fun _ f => f)
  have HC := Lib.hid h'.parts
  have HV := Lib.hid (h'.cnt (p := p) (by omega))
  have HF := Lib.hid (h'.free (1 + p))
  have HP := Lib.hid (isPart_true.2 (show (0 : Int) ≤ p ∧ (p : Int) < P by omega))
  have H2 := Lib.hid (counted x h0 (p := p) (by omega))
  have HL := Lib.hid hs
  have HFz := Lib.hid hF
  have hx' : (x.w.size : Int) ≤ 200 := by omega
  have hp0 : (0 : Int) ≤ p := by omega
  have hp1 : (p : Int) < 16 := by omega
  clear h0 h' hb hs hF
  go_enter Try.func8, Try.ntmps8
  go_wp2_with fail
  refine (there_is B P p true HP.out _ HC.out).mono ?_
  rintro e w' ⟨rfl, rfl⟩
  go_wp2_with fail
  refine (add_any B (1 + p) (c p) _ HV.out HF.out hc).mono ?_
  rintro e w' ⟨rfl, rfl⟩
  go_wp2_with fail
  refine absW (Counted w B P c ls F vs p x) H2.out (fun w2 hw2 => ?_)
  clear H2 HC HV HF
  obtain ⟨hI, hS, hK, hz⟩ := hw2
  have HI := Lib.hid hI
  have HS := Lib.hid hS
  have HK := Lib.hid hK
  clear hI hS hK
  go_region_held3 (fun w' => SX w.heap.size x w')
    (first | exact HS.out | exact hsx')
    (first | (go_at_call 16; refine (tail_any B p P _ ls F vs x _ (by exact HI.out.same (fun _ _ _ => rfl) (fun _ f => f)) (by omega) (HL.out p (by omega))).mono ?_; rintro e w' ⟨rfl, hadd⟩; have hsx' : SX w.heap.size x w' := SX.below HS.out (hadd.2.block w.heap.size hz (fun f => by have := HFz.out _ f; omega))))
  have HA := Lib.hid hadd
  clear hadd hsx'
  go_wp2_with fail
  go_ret
  obtain ⟨⟨vs', hb'⟩, hk'⟩ := HA.out
  have hsz : w.heap.size ≤ w2.heap.size := Nat.le_of_lt hz
  have hk2 : Kept F w2 w' := ⟨hk'.os, hk'.tape, hk'.output, hk'.size, hk'.block⟩
  exact ⟨rfl, ⟨⟨vs', hb'.same (fun _ _ _ => rfl) (fun k f => f.imp id fun g => ⟨Nat.le_trans hsz g.1, g.2⟩)⟩, upd_short HL.out⟩, HK.out.trans (hk2.mono fun _ _ f => .inl f)⟩
end Go.Proofs.Ytoldipjchcmonaa
