/-
  The walk of AuditKinds: it returns true, and makes new blocks alone.
-/
import Derived.Test.YtoldipjchcmonaaAwake
import Derived.Laws.Small
namespace Go.Proofs.Ytoldipjchcmonaa
open Go.RowKit

/-- A book of the call's own, in a later world. -/
def Live (W w : World) (B P : Nat) (c : Nat → Nat) (ls : Nat → List Ent) : Prop := ∃ F, Book w B P c ls F ∧ (∀ k, F k → W.heap.size ≤ k ∧ k < w.heap.size) ∧ Below W.heap.size W w

theorem Live.later {W w w' : World} {B P : Nat} {c : Nat → Nat} {ls : Nat → List Ent} (h : Live W w B P c ls) (hb : Below w.heap.size w w') : Live W w' B P c ls := by
  obtain ⟨F, h1, h2, h3⟩ := h
  exact ⟨F, h1.later hb, fun k f => ⟨(h2 k f).1, Nat.lt_of_lt_of_le (h2 k f).2 hb.size⟩, h3.trans (hb.mono h3.size)⟩
theorem Live.below {W w : World} {B P : Nat} {c : Nat → Nat} {ls : Nat → List Ent} (h : Live W w B P c ls) : Below W.heap.size W w := by
  obtain ⟨F, _, _, h3⟩ := h
  exact h3
theorem Live.noted {W w w' : World} {B P p : Nat} {c : Nat → Nat} {ls : Nat → List Ent} {F : Nat → Prop} {x : Ent} (h2 : ∀ k, F k → W.heap.size ≤ k ∧ k < w.heap.size) (h3 : Below W.heap.size W w) (h : Noted w B P c ls F p x w') :
    Live W w' B P (upd c p (c p + 1)) (upd ls p (last64 (ls p ++ [x]))) := by
  obtain ⟨hb, hk⟩ := h
  refine ⟨_, hb, fun k f => ?_, h3.trans (hk.below (fun k f => (h2 k f).1) h3.size)⟩
  rcases f with f | f
  · exact ⟨(h2 k f).1, Nat.lt_of_lt_of_le (h2 k f).2 hk.size⟩
  · exact ⟨Nat.le_trans h3.size f.1, f.2⟩
theorem live_made {W w w' : World} {B P : Nat} {c : Nat → Nat} {ls : Nat → List Ent} (hB : B = w.heap.size) (h1 : Below W.heap.size W w) (h : Book w' B P c ls (fun k => k = B)) (h2 : Below w.heap.size w w') (h3 : w.heap.size < w'.heap.size) : Live W w' B P c ls :=
  ⟨_, h, fun k e => by rw [e, hB]; exact ⟨h1.size, h3⟩, h1.trans (h2.mono h1.size)⟩

theorem note_live (W : World) (B P : Nat) (c : Nat → Nat) (ls : Nat → List Ent) (p : Nat) (x : Ent) (w : World) (h : Live W w B P c ls) (hP : P ≤ 16) (hp : p < P) (hx : x.w.size ≤ 200) (hc : c p ≤ 1000000) :
    Calls Try.prog 8 #[.pointer (some ⟨B, 0, none⟩), .int .i64 p, .agg #[.int .i64 x.s, .int .i64 x.k, .string x.w]] w fun e w' => e = .returned (.int .i64 0) ∧ Live W w' B P (upd c p (c p + 1)) (upd ls p (last64 (ls p ++ [x]))) := by
  obtain ⟨F, h1, h2, h3⟩ := h
  exact (note_yes B P c ls F p x w h1 (fun k f => (h2 k f).2) hP hp hx hc).mono fun _ _ ⟨he, hn⟩ => ⟨he, Live.noted h2 h3 hn⟩

theorem last64_last64 (l : List Ent) (x : Ent) : last64 (last64 l ++ [x]) = last64 (l ++ [x]) := by
  unfold last64
  rw [List.length_append, List.length_append, List.length_drop]
  by_cases h : l.length ≤ 64
  · rw [show l.length - 64 = 0 by omega, List.drop_zero, show l.length - 0 + [x].length - 64 = l.length + [x].length - 64 by omega]
  · have hx : [x].length = 1 := rfl
    rw [hx, show l.length - (l.length - 64) + 1 - 64 = 1 by omega, show l.length + 1 - 64 = l.length - 64 + 1 by omega]
    rw [List.drop_append_of_le_length (by rw [List.length_drop]; omega), List.drop_append_of_le_length (by omega), List.drop_drop]
theorem last64_at {l : List Ent} {i : Nat} {x : Ent} (h : (last64 l)[i]? = some x) : l[l.length - (last64 l).length + i]? = some x := by
  rw [last64_length]
  unfold last64 at h
  rw [List.getElem?_drop] at h
  rw [← h]
  congr 1
  omega
theorem last64_mem {l : List Ent} {x : Ent} (h : x ∈ last64 l) : x ∈ l := List.mem_of_mem_drop h

/-- How many are of the kinds below k. -/
def ks : Nat → List Ent → Nat
  | 0, _ => 0
  | k + 1, l => ks k l + kc k l
theorem ks_le (k : Nat) (l : List Ent) : ks k l ≤ k * l.length := by
  induction k with
  | zero => simp [ks]
  | succ k ih =>
    have := kc_le k l
    unfold ks
    rw [Nat.succ_mul]
    omega
theorem kc_cons (k : Int) (x : Ent) (l : List Ent) : kc k (x :: l) = kc k l + if x.k = k then 1 else 0 := by
  unfold kc
  rw [List.countP_cons]
  by_cases h : x.k = k
  · rw [if_pos h, if_pos (by unfold isK; rw [h]; exact beq_self_eq_true _)]
  · rw [if_neg h, if_neg (by unfold isK; rw [beq_iff_eq]; exact h)]
theorem ks_four (l : List Ent) : ks 4 l = kc 0 l + kc 1 l + kc 2 l + kc 3 l := by
  unfold ks ks ks ks ks
  rw [Nat.zero_add]
  rfl
theorem ks_all (l : List Ent) (h : ∀ x ∈ l, 0 ≤ x.k ∧ x.k ≤ 3) : ks 4 l = l.length := by
  rw [ks_four]
  induction l with
  | nil => rfl
  | cons x l ih =>
    have h1 := ih fun y hy => h y (List.mem_cons_of_mem _ hy)
    have h2 := h x (List.mem_cons_self ..)
    rw [kc_cons, kc_cons, kc_cons, kc_cons, List.length_cons]
    repeat' split
    all_goals omega

/-- What was noted: numbered from 0 on, of the kinds 0 to 3. -/
def Nums (full : List Ent) : Prop := ∀ (j : Nat) (x : Ent), full[j]? = some x → x.s = (j : Int) ∧ 0 ≤ x.k ∧ x.k ≤ 3
theorem Nums.snoc {full : List Ent} (h : Nums full) {k : Int} (hk : 0 ≤ k ∧ k ≤ 3) (w : ByteArray) : Nums (full ++ [⟨full.length, k, w⟩]) := by
  intro j x hx
  by_cases e : j < full.length
  · rw [List.getElem?_append_left e] at hx
    exact h j x hx
  · rw [List.getElem?_append_right (by omega)] at hx
    have hj : j - full.length = 0 := by
      have := (List.getElem?_eq_some_iff.1 hx).1
      simpa using this
    rw [hj] at hx
    simp only [List.getElem?_cons_zero, Option.some.injEq] at hx
    subst hx
    exact ⟨by simp; omega, hk.1, hk.2⟩
theorem Nums.mem {full : List Ent} (h : Nums full) : ∀ x ∈ last64 full, 0 ≤ x.k ∧ x.k ≤ 3 := fun x hx => by
  obtain ⟨j, hj⟩ := List.getElem?_of_mem (last64_mem hx)
  exact (h j x hj).2

/-- The argument 'kinds', as far as it is read. -/
def Bytes (w : World) (ao : Option Addr) (len : Nat) : Prop := ∀ i, i < len → ∃ b off x, ao = some ⟨b, off, none⟩ ∧ w.cell? ⟨b, off + i, none⟩ = some (.int .u8 x) ∧ 0 ≤ x ∧ x ≤ 255

def cOne (n : Nat) : Nat → Nat := upd (fun _ => 0) 0 n
def lOne (l : List Ent) : Nat → List Ent := upd (fun _ => []) 0 l

theorem cOne_at (n : Nat) : cOne n 0 = n := rfl
theorem lOne_at (l : List Ent) : lOne l 0 = l := rfl
theorem cOne_upd (n m : Nat) : upd (cOne n) 0 m = cOne m := upd_upd _ _ _ _
theorem lOne_upd (l m : List Ent) : upd (lOne l) 0 m = lOne m := upd_upd _ _ _ _

theorem note_zero (W : World) (B : Nat) (full : List Ent) (k : Int) (w : World) (h : Live W w B 1 (cOne full.length) (lOne (last64 full))) (hn : full.length ≤ 1000) :
    Calls Try.prog 8 #[.pointer (some ⟨B, 0, none⟩), .int .i64 0, .agg #[.int .i64 (full.length : Nat), .int .i64 k, .string ⟨#[]⟩]] w fun e w' => e = .returned (.int .i64 0) ∧
      Live W w' B 1 (cOne (full ++ [(⟨(full.length : Nat), k, ⟨#[]⟩⟩ : Ent)]).length) (lOne (last64 (full ++ [(⟨(full.length : Nat), k, ⟨#[]⟩⟩ : Ent)]))) := by
  have hc := note_live W B 1 _ _ 0 ⟨(full.length : Nat), k, ⟨#[]⟩⟩ w h (by omega) (by omega) (Nat.zero_le 200) (by rw [cOne_at]; omega)
  rw [cOne_at, lOne_at, cOne_upd, lOne_upd, last64_last64] at hc
  rw [List.length_append]
  exact hc

theorem kind_live (W : World) (B P : Nat) (c : Nat → Nat) (ls : Nat → List Ent) (p kind : Int) (n : Nat) (w : World) (h : Live W w B P c ls) (hP : P ≤ 16) (hn : kc kind (lsOf P ls p) = n) :
    Calls Try.prog 13 #[.pointer (some ⟨B, 0, none⟩), .int .i64 p, .int .i64 kind] w fun e w' => e = .returned (.int .i64 (n : Int)) ∧ Live W w' B P c ls := by
  subst hn
  have h' := h
  obtain ⟨F, h1, h2, h3⟩ := h
  exact (kind_any B P c ls F p kind w h1 hP).mono fun _ _ ⟨he, hb⟩ => ⟨he, h'.later hb⟩
theorem list_live (W : World) (B P : Nat) (c : Nat → Nat) (ls : Nat → List Ent) (p : Int) (l : List Ent) (w : World) (h : Live W w B P c ls) (hP : P ≤ 16) (hl : lsOf P ls p = l) :
    Calls Try.prog 9 #[.pointer (some ⟨B, 0, none⟩), .int .i64 p] w fun e w' => Listed l w e w' := by
  subst hl
  obtain ⟨F, h1, h2, h3⟩ := h
  exact list_any B P c ls F p w h1 hP
theorem count_live (W : World) (B P : Nat) (c : Nat → Nat) (ls : Nat → List Ent) (p : Int) (n : Nat) (w : World) (h : Live W w B P c ls) (hP : P ≤ 16) (hn : cOf P c p = n) :
    Calls Try.prog 11 #[.pointer (some ⟨B, 0, none⟩), .int .i64 p] w fun e w' => e = .returned (.int .i64 (n : Int)) ∧ w = w' := by
  subst hn
  obtain ⟨F, h1, h2, h3⟩ := h
  exact count_any B P c ls F p w h1 hP

/-- The value of a list: nil where it is empty. -/
def Shape (w : World) (v : Value) (l : List Ent) (lo : Nat) : Prop := ∃ ao cap, v = .slice ao l.length cap ∧ ∀ i x, l[i]? = some x → ∃ g, ao = some ⟨g, 0, none⟩ ∧ lo ≤ g ∧ g < w.heap.size ∧
  w.cell? ⟨g, i * 3, none⟩ = some (.int .i64 x.s) ∧ w.cell? ⟨g, i * 3 + 1, none⟩ = some (.int .i64 x.k) ∧ w.cell? ⟨g, i * 3 + 2, none⟩ = some (.string x.w)
theorem shape_of {w : World} {b : Nat} {v : Value} {l : List Ent} (h : w.ownsRow b 30 3 v l.length (cells3 l)) : Shape w v l b := by
  rcases h.2 with ⟨hv, h0⟩ | _
  · refine ⟨none, 0, by rw [h0]; exact hv, fun i x hx => ?_⟩
    have := (List.getElem?_eq_some_iff.1 hx).1
    omega
  · rcases Nat.eq_zero_or_pos l.length with h0 | h0
    · rcases h.2 with ⟨hv, _⟩ | ⟨g, cap, cur, hv, _⟩
      · exact ⟨none, 0, by rw [h0]; exact hv, fun i x hx => by have := (List.getElem?_eq_some_iff.1 hx).1; omega⟩
      · exact ⟨_, cap, hv, fun i x hx => by have := (List.getElem?_eq_some_iff.1 hx).1; omega⟩
    · obtain ⟨g, cap, hv, hb, hg, hc⟩ := listed_cells h h0
      exact ⟨_, cap, hv, fun i x hx => ⟨g, rfl, hb, hg, hc i x hx⟩⟩

set_option maxHeartbeats 1600000 in
theorem kinds_far (ao : Option Addr) (len cap : Nat) (t : Int) (w : World) (h : 100 < len) :
    Calls Try.prog 5 #[.slice ao len cap, .int .u8 t] w fun e w' => e = .returned (.bool true) ∧ Below w.heap.size w w' := by
  have h' : (100 : Int) < len := by omega
  go_enter Try.func5, Try.ntmps5
  go_wp2_with fail
  refine (awake_any _).mono ?_
  rintro e w1 ⟨rfl, b1⟩
  go_wp2_with fail
  go_ret
  exact ⟨rfl, b1⟩

set_option maxRecDepth 100000 in
set_option maxHeartbeats 8000000 in
theorem kinds_near (ao : Option Addr) (len cap : Nat) (t : Int) (w : World) (h : len ≤ 100) (ht : 0 ≤ t ∧ t ≤ 255) (hk : Bytes w ao len) :
    Calls Try.prog 5 #[.slice ao len cap, .int .u8 t] w fun e w' => e = .returned (.bool true) ∧ Below w.heap.size w w' := by
  have h' : (len : Int) ≤ 100 := by omega
  obtain ⟨t0, t1⟩ := ht
  have HK := Lib.hid hk
  clear hk
  go_enter Try.func5, Try.ntmps5
  go_wp2_with fail
  refine (awake_any _).mono ?_
  rintro e w1 ⟨rfl, b1⟩
  go_wp2_with fail
  refine (new_yes 1 _ (by omega) (by omega)).mono ?_
  rintro e w2 ⟨rfl, h2, b2, z2⟩
  have l2 := live_made (W := w) rfl b1 h2 b2 z2
  have L2 : Live w w2 w1.heap.size 1 (cOne 0) (lOne (last64 [])) := by
    have e1 : cOne 0 = fun _ => 0 := by funext j; unfold cOne upd; split <;> rfl
    have e2 : lOne (last64 []) = fun _ => [] := by funext j; unfold lOne upd; split <;> rfl
    rw [e1, e2]
    exact l2
  have HL2 := Lib.hid L2
  clear h2 b2 z2 l2 L2 b1
  generalize w1.heap.size = B at HL2 ⊢
  go_wp2_with fail
  go_loopw [7, 8] (fun n t' wr => ∃ (τ : Nat) (full : List Ent), t' = .int .i64 τ ∧ n = .int .i64 (full.length : Nat) ∧ (τ : Int) ≤ t % 3 + 1 ∧ full.length ≤ τ * 100 ∧ Nums full ∧ Live w wr B 1 (cOne full.length) (lOne (last64 full))) (fun _ t' _ => (t % 3 + 1 - intOf t').toNat)
  case atStart => exact ⟨0, [], rfl, rfl, by omega, by simp, fun j x hx => by simp at hx, HL2.out⟩
  case round =>
    obtain ⟨τ, full, rfl, rfl, hτ, hfl, hnum, hlv⟩ := hrel
    have HN := Lib.hid hnum
    have HV := Lib.hid hlv
    clear hnum hlv HL2
    have hτ0 : (0 : Int) ≤ τ := by omega
    have hτ3 : (τ : Int) ≤ 3 := by omega
    have hfi : ((full.length : Nat) : Int) ≤ 300 := by omega
    have hf0 : (0 : Int) ≤ (full.length : Nat) := by omega
    by_cases hlt : (τ : Int) ≤ t % 3
    · go_wp2_with fail
      go_loopw [7, 9] (fun n i wr => ∃ (k : Nat) (full : List Ent), i = .int .i64 k ∧ k ≤ len ∧ n = .int .i64 (full.length : Nat) ∧ full.length ≤ τ * 100 + k ∧ Nums full ∧ Live w wr B 1 (cOne full.length) (lOne (last64 full))) (fun _ i _ => (len - intOf i).toNat)
      case atStart => exact ⟨0, full, rfl, Nat.zero_le _, rfl, hfl, HN.out, HV.out⟩
      case round =>
        clear hfl HN HV hfi hf0
        obtain ⟨k, full, rfl, hk, rfl, hfl, hnum, hlv⟩ := hrel
        have HN := Lib.hid hnum
        have HV := Lib.hid hlv
        clear hnum hlv
        have hfi : ((full.length : Nat) : Int) ≤ 400 := by omega
        have hf0 : (0 : Int) ≤ (full.length : Nat) := by omega
        by_cases hlk : (k : Int) < len
        · obtain ⟨kb, ko, x, rfl, hx, x0, x1⟩ := HK.out k (by omega)
          have hxr := (HV.out.below.cell (p := ⟨kb, ko + k, none⟩) (World.block_lt_of_cell? w _ hx)).trans hx
          have hk0 : (0 : Int) ≤ k := by omega
          clear hx
          go_wp2_with fail
          refine (note_zero w B full (x % 4) _ HV.out (by omega)).mono ?_
          rintro e w5 ⟨rfl, hlv5⟩
          have HV5 := Lib.hid hlv5
          clear hlv5
          go_wp2_with fail
          go_roundw
          case rel => exact ⟨k + 1, full ++ [⟨(full.length : Nat), x % 4, ⟨#[]⟩⟩], by go_num, by omega, by rw [List.length_append]; go_num, by rw [List.length_append]; simp; omega, HN.out.snoc (by omega) _, HV5.out⟩
          case measure => simp [intOf]; omega
        · go_wp2_with fail
          go_roundw
          case rel => exact ⟨τ + 1, full, by go_num, rfl, by omega, by omega, HN.out, HV.out⟩
          case measure => simp [intOf]; omega
    · obtain ⟨l, hl⟩ : ∃ l, last64 full = l := ⟨_, rfl⟩
      have hll : l.length = min full.length 64 := by rw [← hl, last64_length]
      have hl64 : l.length ≤ 64 := by omega
      have HA := Lib.hid (ks_all l (fun x hx => HN.out.mem x (hl ▸ hx)))
      have HL := Lib.hid hl
      have HLL := Lib.hid hll
      clear hl hll
      have hv := HV.out
      rw [HL.out] at hv
      have HV2 := Lib.hid hv
      clear hv HV
      go_wp2_with fail
      go_loopw [10, 11] (fun s k wr => ∃ k' : Nat, k = .int .i64 k' ∧ k' ≤ 4 ∧ s = .int .i64 (ks k' l : Nat) ∧ Live w wr B 1 (cOne full.length) (lOne l)) (fun _ k _ => (4 - intOf k).toNat)
      case atStart => exact ⟨0, rfl, by omega, rfl, HV2.out⟩
      case round =>
        obtain ⟨k, rfl, hk4, rfl, hlv⟩ := hrel
        have HV3 := Lib.hid hlv
        clear hlv HV2
        have hk0 : (0 : Int) ≤ k := by omega
        by_cases hkk : (k : Int) < 4
        · obtain ⟨m, hm⟩ : ∃ m, kc k l = m := ⟨_, rfl⟩
          have hm64 : m ≤ 64 := by rw [← hm]; exact Nat.le_trans (kc_le _ _) hl64
          have hks := ks_le k l
          obtain ⟨z, hz⟩ : ∃ z, ks k l = z := ⟨_, rfl⟩
          have hzs : ks (k + 1) l = z + m := by rw [← hz, ← hm]; rfl
          have hz1 : z ≤ 256 := by
            rw [← hz]
            exact Nat.le_trans hks (Nat.mul_le_mul hk4 hl64)
          rw [hz]
          have HM := Lib.hid hm
          have HZ := Lib.hid hzs
          have hz0 : (0 : Int) ≤ z := by omega
          have hz2 : (z : Int) ≤ 256 := by omega
          have hm0 : (0 : Int) ≤ m := by omega
          have hm2 : (m : Int) ≤ 64 := by omega
          clear hm hks hz hzs
          go_wp2_with fail
          refine (kind_live w B 1 _ _ 0 k m _ HV3.out (by omega) HM.out).mono ?_
          rintro e w6 ⟨rfl, hlv6⟩
          have HV6 := Lib.hid hlv6
          clear hlv6
          go_wp2_with fail
          go_roundw
          case rel => exact ⟨k + 1, by go_num, by omega, by rw [HZ.out]; go_num, HV6.out⟩
          case measure => simp [intOf]; omega
        · have hk : k = 4 := by omega
          subst hk
          rw [HA.out]
          have hb64 : ((l.length : Nat) : Int) ≤ 64 := by omega
          have hb0 : (0 : Int) ≤ (l.length : Nat) := by omega
          go_wp2_with fail
          refine (list_live w B 1 _ _ 0 l _ HV3.out (by omega) rfl).mono ?_
          rintro e w7 ⟨v, rfl, hown, b7⟩
          obtain ⟨ao, cap, rfl, hsh⟩ := shape_of hown
          have HS := Lib.hid hsh
          have HV7 := Lib.hid (HV3.out.later b7)
          clear hown b7 hsh
          by_cases hmin : full.length ≤ 64
          · have hmi : ((full.length : Nat) : Int) ≤ 64 := by omega
            have hme : (((l.length : Nat) : Int) != (full.length : Nat)) = false := by rw [bne_eq_false_iff_eq]; have := HLL.out; omega
            clear hmin
            go_wp2_with fail
            refine (count_live w B 1 _ _ 0 full.length _ HV7.out (by omega) rfl).mono ?_
            rintro e w' ⟨rfl, rfl⟩
            go_wp2_with fail
            go_loop [13] (fun i => ∃ k : Nat, i = .int .i64 k ∧ k ≤ l.length) (fun i => (l.length - intOf i).toNat)
            case atStart => exact ⟨0, rfl, Nat.zero_le _⟩
            case round =>
              obtain ⟨k, rfl, hk⟩ := hrel
              by_cases hkl : (k : Int) < (l.length : Nat)
              · obtain ⟨x, hx⟩ : ∃ x, l[k]? = some x := ⟨l[k], List.getElem?_eq_getElem (by omega)⟩
                obtain ⟨g, rfl, -, hg, c0, c1, c2⟩ := HS.out k x hx
                have hxs := (HN.out _ x (last64_at (by rw [HL.out]; exact hx))).1
                rw [HL.out] at hxs
                have hle : l.length ≤ full.length := by have := HLL.out; omega
                have hle' : ((l.length : Nat) : Int) ≤ (full.length : Nat) := by omega
                have e1 : (x.s != ((full.length : Nat) : Int) - (l.length : Nat) + k) = false := by rw [bne_eq_false_iff_eq, hxs]; omega
                have hk0 : (0 : Int) ≤ k := by omega
                clear hx hxs
                go_wp2_with fail
                go_round
                case rel => exact ⟨k + 1, by go_num, by omega⟩
                case measure => simp [intOf]; omega
              · go_wp2_with fail
                go_ret
                exact ⟨rfl, HV7.out.below⟩
          · have hmi : (64 : Int) < (full.length : Nat) := by omega
            have hme : (((l.length : Nat) : Int) != 64) = false := by rw [bne_eq_false_iff_eq]; have := HLL.out; omega
            clear hmin
            go_wp2_with fail
            refine (count_live w B 1 _ _ 0 full.length _ HV7.out (by omega) rfl).mono ?_
            rintro e w' ⟨rfl, rfl⟩
            go_wp2_with fail
            go_loop [13] (fun i => ∃ k : Nat, i = .int .i64 k ∧ k ≤ l.length) (fun i => (l.length - intOf i).toNat)
            case atStart => exact ⟨0, rfl, Nat.zero_le _⟩
            case round =>
              obtain ⟨k, rfl, hk⟩ := hrel
              by_cases hkl : (k : Int) < (l.length : Nat)
              · obtain ⟨x, hx⟩ : ∃ x, l[k]? = some x := ⟨l[k], List.getElem?_eq_getElem (by omega)⟩
                obtain ⟨g, rfl, -, hg, c0, c1, c2⟩ := HS.out k x hx
                have hxs := (HN.out _ x (last64_at (by rw [HL.out]; exact hx))).1
                rw [HL.out] at hxs
                have hle : l.length ≤ full.length := by have := HLL.out; omega
                have hle' : ((l.length : Nat) : Int) ≤ (full.length : Nat) := by omega
                have e1 : (x.s != ((full.length : Nat) : Int) - (l.length : Nat) + k) = false := by rw [bne_eq_false_iff_eq, hxs]; omega
                have hk0 : (0 : Int) ≤ k := by omega
                clear hx hxs
                go_wp2_with fail
                go_round
                case rel => exact ⟨k + 1, by go_num, by omega⟩
                case measure => simp [intOf]; omega
              · go_wp2_with fail
                go_ret
                exact ⟨rfl, HV7.out.below⟩
end Go.Proofs.Ytoldipjchcmonaa
