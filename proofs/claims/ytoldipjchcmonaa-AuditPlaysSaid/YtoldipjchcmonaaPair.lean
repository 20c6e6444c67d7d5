/-
  Two books of one call, apart: what one Note, one List, one Count do to the pair.
-/
import Derived.Test.YtoldipjchcmonaaKinds
namespace Go.Proofs.Ytoldipjchcmonaa
open Go.RowKit

theorem note_any (B P : Nat) (c : Nat → Nat) (ls : Nat → List Ent) (F : Nat → Prop) (q : Int) (x : Ent) (w : World) (h : Book w B P c ls F) (hF : ∀ k, F k → k < w.heap.size) (hP : P ≤ 16) (hc : ∀ p, c p ≤ 1000000) :
    Calls Try.prog 8 #[.pointer (some ⟨B, 0, none⟩), .int .i64 q, .agg #[.int .i64 x.s, .int .i64 x.k, .string x.w]] w fun e w' => (∃ r, e = .returned (.int .i64 r)) ∧
      ((∃ p : Nat, q = (p : Int) ∧ p < P ∧ x.w.size ≤ 200 ∧ Noted w B P c ls F p x w') ∨ ((q < 0 ∨ (P : Int) ≤ q ∨ 200 < x.w.size) ∧ Below w.heap.size w w')) := by
  cases hp : isPart P q with
  | false =>
    have hq : q < 0 ∨ (P : Int) ≤ q := by
      have : ¬ (0 ≤ q ∧ q < (P : Int)) := fun e => by rw [isPart_true.2 e] at hp; cases hp
      omega
    exact (note_none B P c ls F q x w h hp).mono fun _ _ ⟨he, hb⟩ => ⟨⟨_, he⟩, .inr ⟨hq.imp id .inl, hb⟩⟩
  | true =>
    by_cases hx : x.w.size ≤ 200
    · obtain ⟨h0, h1⟩ := isPart_true.1 hp
      obtain ⟨p, rfl⟩ := Int.eq_ofNat_of_zero_le h0
      exact (note_yes B P c ls F p x w h hF hP (by omega) hx (hc p)).mono fun _ _ ⟨he, hn⟩ => ⟨⟨_, he⟩, .inl ⟨p, rfl, by omega, hx, hn⟩⟩
    · exact (note_long B P c ls F q x w h hp (by omega)).mono fun _ _ ⟨he, hb⟩ => ⟨⟨_, he⟩, .inr ⟨.inr (.inr (by omega)), hb⟩⟩

/-- Two books of the call's own, apart. -/
structure Two (W w : World) (A B : Nat) (cA : Nat → Nat) (lA : Nat → List Ent) (FA : Nat → Prop) (cB : Nat → Nat) (lB : Nat → List Ent) (FB : Nat → Prop) (n hi : Nat) : Prop where
  a : Book w A 3 cA lA FA
  b : Book w B 3 cB lB FB
  apart : ∀ k, FA k → ¬ FB k
  fa : ∀ k, FA k → W.heap.size ≤ k ∧ k < hi
  fb : ∀ k, FB k → W.heap.size ≤ k ∧ k < hi
  le : hi ≤ w.heap.size
  below : Below W.heap.size W w
  na : ∀ q, cA q ≤ n
  nb : ∀ q, cB q ≤ n

section
variable {W w w' : World} {A B : Nat} {cA : Nat → Nat} {lA : Nat → List Ent} {FA : Nat → Prop} {cB : Nat → Nat} {lB : Nat → List Ent} {FB : Nat → Prop} {n hi : Nat}
theorem Two.swap (h : Two W w A B cA lA FA cB lB FB n hi) : Two W w B A cB lB FB cA lA FA n hi :=
  ⟨h.b, h.a, fun k f g => h.apart k g f, h.fb, h.fa, h.le, h.below, h.nb, h.na⟩
theorem Two.later (h : Two W w A B cA lA FA cB lB FB n hi) (hb : Below w.heap.size w w') : Two W w' A B cA lA FA cB lB FB n hi :=
  ⟨h.a.later hb, h.b.later hb, h.apart, h.fa, h.fb, Nat.le_trans h.le hb.size, h.below.trans (hb.mono h.below.size), h.na, h.nb⟩
theorem Two.up {m hi' : Nat} (h : Two W w A B cA lA FA cB lB FB n hi) (hm : n ≤ m) (h1 : hi ≤ hi') (h2 : hi' ≤ w.heap.size) : Two W w A B cA lA FA cB lB FB m hi' :=
  ⟨h.a, h.b, h.apart, fun k f => ⟨(h.fa k f).1, Nat.lt_of_lt_of_le (h.fa k f).2 h1⟩, fun k f => ⟨(h.fb k f).1, Nat.lt_of_lt_of_le (h.fb k f).2 h1⟩, h2, h.below, fun q => Nat.le_trans (h.na q) hm, fun q => Nat.le_trans (h.nb q) hm⟩
theorem Two.set {g i : Nat} {v : Value} (h : Two W w A B cA lA FA cB lB FB n hi) (hg : hi ≤ g) : Two W (w.setCell ⟨g, i, none⟩ v) A B cA lA FA cB lB FB n hi :=
  ⟨h.a.same fun k f _ => heap_setCell_other w ⟨g, i, none⟩ k v (fun e => by have := (h.fa k f).2; simp only at e; omega),
    h.b.same fun k f _ => heap_setCell_other w ⟨g, i, none⟩ k v (fun e => by have := (h.fb k f).2; simp only at e; omega),
    h.apart, h.fa, h.fb, by rw [size_setCell]; exact h.le,
    h.below.setCell (p := ⟨g, i, none⟩) (by
      have := (h.fa _ (by obtain ⟨⟨vs, hb⟩, _⟩ := h.a; exact hb.fB)).1
      have := (h.fa _ (by obtain ⟨⟨vs, hb⟩, _⟩ := h.a; exact hb.fB)).2
      simp only; omega) v, h.na, h.nb⟩
theorem Two.noted {p : Nat} {x : Ent} (h : Two W w A B cA lA FA cB lB FB n hi) (hn : Noted w A 3 cA lA FA p x w') :
    Two W w' A B (upd cA p (cA p + 1)) (upd lA p (last64 (lA p ++ [x]))) (fun k => FA k ∨ (w.heap.size ≤ k ∧ k < w'.heap.size)) cB lB FB (n + 1) w'.heap.size := by
  obtain ⟨hb, hk⟩ := hn
  have hle := h.le
  have hsz := hk.size
  refine ⟨hb, h.b.same fun k f hlt => hk.block k hlt fun g => h.apart k g f, fun k f g => ?_, fun k f => ?_, fun k f => ?_, Nat.le_refl _, h.below.trans (hk.below (fun k f => (h.fa k f).1) h.below.size), fun q => ?_, fun q => Nat.le_succ_of_le (h.nb q)⟩
  · rcases f with f | f
    · exact h.apart k f g
    · have := (h.fb k g).2
      omega
  · rcases f with f | f
    · have := h.fa k f
      exact ⟨this.1, by omega⟩
    · exact ⟨Nat.le_trans h.below.size f.1, f.2⟩
  · have := h.fb k f
    exact ⟨this.1, by omega⟩
  · by_cases e : q = p
    · subst e
      rw [upd_same]
      have := h.na q
      omega
    · rw [upd_other _ _ e]
      exact Nat.le_succ_of_le (h.na q)
end

/-- Both books hold the part alike: counted c, listed l. -/
def Same (W w : World) (A B p c : Nat) (l : List Ent) (n hi : Nat) : Prop := ∃ cA lA FA cB lB FB, Two W w A B cA lA FA cB lB FB n hi ∧ cA p = c ∧ cB p = c ∧ lA p = l ∧ lB p = l
def Both (W w : World) (A B p n hi : Nat) : Prop := ∃ c l, Same W w A B p c l n hi
/-- The first book has got an entry, the second has not yet. -/
def Half (W w : World) (A B p n hi : Nat) (x : Ent) : Prop := ∃ cA lA FA cB lB FB, Two W w A B cA lA FA cB lB FB n hi ∧
  ((x.w.size ≤ 200 ∧ cA p = cB p + 1 ∧ lA p = last64 (lB p ++ [x])) ∨ (200 < x.w.size ∧ cA p = cB p ∧ lA p = lB p))

section
variable {W w w' : World} {A B p n hi c : Nat} {l : List Ent}
theorem Same.later (h : Same W w A B p c l n hi) (hb : Below w.heap.size w w') : Same W w' A B p c l n hi := by
  obtain ⟨cA, lA, FA, cB, lB, FB, h, r⟩ := h
  exact ⟨cA, lA, FA, cB, lB, FB, h.later hb, r⟩
theorem Same.below (h : Same W w A B p c l n hi) : Below W.heap.size W w := by
  obtain ⟨cA, lA, FA, cB, lB, FB, h, r⟩ := h
  exact h.below
theorem Both.later (h : Both W w A B p n hi) (hb : Below w.heap.size w w') : Both W w' A B p n hi := by
  obtain ⟨c, l, h⟩ := h
  exact ⟨c, l, h.later hb⟩
theorem Both.below (h : Both W w A B p n hi) : Below W.heap.size W w := by
  obtain ⟨c, l, h⟩ := h
  exact h.below
theorem Half.below {x : Ent} (h : Half W w A B p n hi x) : Below W.heap.size W w := by
  obtain ⟨cA, lA, FA, cB, lB, FB, h, r⟩ := h
  exact h.below
theorem Both.up {m hi' : Nat} (h : Both W w A B p n hi) (hm : n ≤ m) (h1 : hi ≤ hi') (h2 : hi' ≤ w.heap.size) : Both W w A B p m hi' := by
  obtain ⟨c, l, cA, lA, FA, cB, lB, FB, h, r⟩ := h
  exact ⟨c, l, cA, lA, FA, cB, lB, FB, h.up hm h1 h2, r⟩
theorem Both.le (h : Both W w A B p n hi) : hi ≤ w.heap.size := by
  obtain ⟨c, l, cA, lA, FA, cB, lB, FB, h, r⟩ := h
  exact h.le
theorem Both.set {g i : Nat} {v : Value} (h : Both W w A B p n hi) (hg : hi ≤ g) : Both W (w.setCell ⟨g, i, none⟩ v) A B p n hi := by
  obtain ⟨c, l, cA, lA, FA, cB, lB, FB, h, r⟩ := h
  exact ⟨c, l, cA, lA, FA, cB, lB, FB, h.set hg, r⟩
end

theorem note_first (W : World) (A B p n hi : Nat) (q : Int) (x : Ent) (w : World) (h : Both W w A B p n hi) (hp : p < 3) (hn : n ≤ 100000) :
    Calls Try.prog 8 #[.pointer (some ⟨A, 0, none⟩), .int .i64 q, .agg #[.int .i64 x.s, .int .i64 x.k, .string x.w]] w fun e w' => ∃ r, e = .returned (.int .i64 r) ∧
      (q ≠ (p : Int) → Both W w' A B p (n + 1) w'.heap.size) ∧ (q = (p : Int) → Half W w' A B p (n + 1) w'.heap.size x) := by
  obtain ⟨c, l, cA, lA, FA, cB, lB, FB, h, ca, cb, la, lb⟩ := h
  have hle := h.le
  refine (note_any A 3 cA lA FA q x w h.a (fun k f => by have := h.fa k f; omega) (by omega) (fun q => by have := h.na q; omega)).mono fun e w' ⟨⟨r, he⟩, hk⟩ => ⟨r, he, ?_⟩
  rcases hk with ⟨p', rfl, hp', hx, hnt⟩ | ⟨hq, hb⟩
  · have h2 := h.noted hnt
    refine ⟨fun hne => ?_, fun heq => ?_⟩
    · have e : p ≠ p' := fun e => hne (by rw [e])
      exact ⟨c, l, _, _, _, _, _, _, h2, by rw [upd_other _ _ e]; exact ca, cb, by rw [upd_other _ _ e]; exact la, lb⟩
    · have e : p' = p := by omega
      subst e
      exact ⟨_, _, _, _, _, _, h2, .inl ⟨hx, by rw [upd_same, ca, cb], by rw [upd_same, la, lb]⟩⟩
  · have h2 := (h.later hb).up (m := n + 1) (hi' := w'.heap.size) (by omega) (Nat.le_trans hle hb.size) (Nat.le_refl _)
    refine ⟨fun _ => ⟨c, l, _, _, _, _, _, _, h2, ca, cb, la, lb⟩, fun heq => ?_⟩
    exact ⟨_, _, _, _, _, _, h2, .inr ⟨by omega, by rw [ca, cb], by rw [la, lb]⟩⟩

theorem note_second (W : World) (A B p n hi : Nat) (x : Ent) (w : World) (h : Half W w A B p n hi x) (hp : p < 3) (hn : n ≤ 100000) :
    Calls Try.prog 8 #[.pointer (some ⟨B, 0, none⟩), .int .i64 p, .agg #[.int .i64 x.s, .int .i64 x.k, .string x.w]] w fun e w' => ∃ r, e = .returned (.int .i64 r) ∧
      Both W w' A B p (n + 1) w'.heap.size := by
  obtain ⟨cA, lA, FA, cB, lB, FB, h, hr⟩ := h
  have hle := h.le
  refine (note_any B 3 cB lB FB p x w h.b (fun k f => by have := h.fb k f; omega) (by omega) (fun q => by have := h.nb q; omega)).mono fun e w' ⟨⟨r, he⟩, hk⟩ => ⟨r, he, ?_⟩
  rcases hk with ⟨p', hpp, hp', hx, hnt⟩ | ⟨hq, hb⟩
  · have e : p' = p := by omega
    subst e
    have h2 := (h.swap.noted hnt).swap
    rcases hr with ⟨_, e1, e2⟩ | ⟨hl, _⟩
    · exact ⟨_, _, _, _, _, _, _, _, h2, e1, by rw [upd_same], e2, by rw [upd_same]⟩
    · omega
  · have h2 := (h.later hb).up (m := n + 1) (hi' := w'.heap.size) (by omega) (Nat.le_trans hle hb.size) (Nat.le_refl _)
    rcases hr with ⟨hl, _⟩ | ⟨_, e1, e2⟩
    · omega
    · exact ⟨_, _, _, _, _, _, _, _, h2, e1, rfl, e2, rfl⟩

theorem lsOf_at {P p : Nat} (ls : Nat → List Ent) (h : p < P) : lsOf P ls p = ls p := by
  unfold lsOf
  rw [if_pos (isPart_true.2 (by omega))]
  rfl
theorem cOf_at {P p : Nat} (c : Nat → Nat) (h : p < P) : cOf P c p = c p := by
  unfold cOf
  rw [if_pos (isPart_true.2 (by omega))]
  rfl

theorem list_first (W : World) (A B p n hi c : Nat) (l : List Ent) (w : World) (h : Same W w A B p c l n hi) (hp : p < 3) :
    Calls Try.prog 9 #[.pointer (some ⟨A, 0, none⟩), .int .i64 p] w (Listed l w) := by
  obtain ⟨cA, lA, FA, cB, lB, FB, h, ca, cb, la, lb⟩ := h
  have := list_any A 3 cA lA FA p w h.a (by omega)
  rw [lsOf_at _ hp, la] at this
  exact this
theorem list_second (W : World) (A B p n hi c : Nat) (l : List Ent) (w : World) (h : Same W w A B p c l n hi) (hp : p < 3) :
    Calls Try.prog 9 #[.pointer (some ⟨B, 0, none⟩), .int .i64 p] w (Listed l w) := by
  obtain ⟨cA, lA, FA, cB, lB, FB, h, ca, cb, la, lb⟩ := h
  have := list_any B 3 cB lB FB p w h.b (by omega)
  rw [lsOf_at _ hp, lb] at this
  exact this
theorem count_first (W : World) (A B p n hi c : Nat) (l : List Ent) (w : World) (h : Same W w A B p c l n hi) (hp : p < 3) :
    Calls Try.prog 11 #[.pointer (some ⟨A, 0, none⟩), .int .i64 p] w fun e w' => e = .returned (.int .i64 (c : Int)) ∧ w = w' := by
  obtain ⟨cA, lA, FA, cB, lB, FB, h, ca, cb, la, lb⟩ := h
  have := count_any A 3 cA lA FA p w h.a (by omega)
  rw [cOf_at _ hp, ca] at this
  exact this
theorem count_second (W : World) (A B p n hi c : Nat) (l : List Ent) (w : World) (h : Same W w A B p c l n hi) (hp : p < 3) :
    Calls Try.prog 11 #[.pointer (some ⟨B, 0, none⟩), .int .i64 p] w fun e w' => e = .returned (.int .i64 (c : Int)) ∧ w = w' := by
  obtain ⟨cA, lA, FA, cB, lB, FB, h, ca, cb, la, lb⟩ := h
  have := count_any B 3 cB lB FB p w h.b (by omega)
  rw [cOf_at _ hp, cb] at this
  exact this

theorem both_made {W w w1 w2 : World} {A B p : Nat} (hA : A = w.heap.size) (hB : B = w1.heap.size) (h0 : Below W.heap.size W w) (h1 : Book w1 A 3 (fun _ => 0) (fun _ => []) (fun k => k = A)) (b1 : Below w.heap.size w w1) (z1 : w.heap.size < w1.heap.size)
    (h2 : Book w2 B 3 (fun _ => 0) (fun _ => []) (fun k => k = B)) (b2 : Below w1.heap.size w1 w2) (z2 : w1.heap.size < w2.heap.size) : Both W w2 A B p 0 w2.heap.size := by
  have := h0.size
  exact ⟨0, [], _, _, _, _, _, _, ⟨h1.later b2, h2, fun k f g => by omega, fun k f => by omega, fun k f => by omega, Nat.le_refl _, (h0.trans (b1.mono h0.size)).trans (b2.mono (by omega)), fun _ => Nat.le_refl _, fun _ => Nat.le_refl _⟩, rfl, rfl, rfl, rfl⟩

/-- The argument 'script', as far as it is read. -/
def Notes (w : World) (ao : Option Addr) (len : Nat) : Prop := ∀ i, i < len → ∃ b off q x, ao = some ⟨b, off, none⟩ ∧ b < w.heap.size ∧
  w.cell? ⟨b, off + i * 4, none⟩ = some (.int .i64 q) ∧ w.cell? ⟨b, off + i * 4 + 1, none⟩ = some (.int .i64 (Ent.s x)) ∧ w.cell? ⟨b, off + i * 4 + 2, none⟩ = some (.int .i64 (Ent.k x)) ∧ w.cell? ⟨b, off + i * 4 + 3, none⟩ = some (.string (Ent.w x)) ∧ -9223372036854775808 ≤ q ∧ q ≤ 9223372036854775807
end Go.Proofs.Ytoldipjchcmonaa
