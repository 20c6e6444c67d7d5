/-
  The walk of AuditPlays: it returns true, and makes new blocks alone.
-/
import Derived.Test.YtoldipjchcmonaaPlay
namespace Go.Proofs.Ytoldipjchcmonaa
open Go.RowKit
set_option linter.unusedSimpArgs false
attribute [local go_sem ↓] Go.wp_at_zero Go.wp_at_succ

set_option maxRecDepth 100000 in
set_option maxHeartbeats 1600000 in
theorem plays_far (parts : Int) (ao : Option Addr) (len cap : Nat) (kind times : Int) (w : World) (h : 100 < len ∨ times < 0 ∨ 4 < times) :
    Calls Try.prog 3 #[.int .i64 parts, .slice ao len cap, .int .i64 kind, .int .i64 times] w fun e w' => e = .returned (.bool true) ∧ Below w.heap.size w w' := by
  by_cases h1 : (100 : Int) < len
  · go_enter Try.func3, Try.ntmps3
    go_wp2_with fail
    refine (awake_any _).mono ?_
    rintro e w1 ⟨rfl, b1⟩
    go_wp2_with fail
    go_ret
    exact ⟨rfl, b1⟩
  · have h1' : (len : Int) ≤ 100 := by omega
    clear h1
    by_cases h2 : times < 0
    · go_enter Try.func3, Try.ntmps3
      go_wp2_with fail
      refine (awake_any _).mono ?_
      rintro e w1 ⟨rfl, b1⟩
      go_wp2_with fail
      go_ret
      exact ⟨rfl, b1⟩
    · have h3 : 4 < times := by omega
      have h2' : 0 ≤ times := by omega
      clear h2
      go_enter Try.func3, Try.ntmps3
      go_wp2_with fail
      refine (awake_any _).mono ?_
      rintro e w1 ⟨rfl, b1⟩
      go_wp2_with fail
      go_ret
      exact ⟨rfl, b1⟩

set_option maxRecDepth 100000 in
set_option maxHeartbeats 1600000 in
theorem plays_none (parts : Int) (ao : Option Addr) (len cap : Nat) (kind times : Int) (w : World) (h : len ≤ 100) (ht : 0 ≤ times ∧ times ≤ 4) (hp : ¬ (1 ≤ parts ∧ parts ≤ 16)) :
    Calls Try.prog 3 #[.int .i64 parts, .slice ao len cap, .int .i64 kind, .int .i64 times] w fun e w' => e = .returned (.bool true) ∧ Below w.heap.size w w' := by
  have h' : (len : Int) ≤ 100 := by omega
  obtain ⟨t0, t4⟩ := ht
  by_cases h1 : parts < 1
  · go_enter Try.func3, Try.ntmps3
    go_wp2_with fail
    refine (awake_any _).mono ?_
    rintro e w1 ⟨rfl, b1⟩
    have HB := Lib.hid b1
    clear b1
    go_wp2_with fail
    refine (new_no parts _ hp).mono ?_
    rintro e w2 ⟨rfl, rfl⟩
    go_wp2_with fail
    go_ret
    exact ⟨rfl, HB.out⟩
  · have h1' : 1 ≤ parts := by omega
    have h2 : 16 < parts := by omega
    clear h1
    go_enter Try.func3, Try.ntmps3
    go_wp2_with fail
    refine (awake_any _).mono ?_
    rintro e w1 ⟨rfl, b1⟩
    have HB := Lib.hid b1
    clear b1
    go_wp2_with fail
    refine (new_no parts _ hp).mono ?_
    rintro e w2 ⟨rfl, rfl⟩
    go_wp2_with fail
    go_ret
    exact ⟨rfl, HB.out⟩

set_option maxRecDepth 100000 in
set_option maxHeartbeats 16000000 in
theorem plays_near (P : Nat) (ao : Option Addr) (len cap τ : Nat) (kind : Int) (w : World) (h : len ≤ 100) (ht : τ ≤ 4) (hp : 1 ≤ P ∧ P ≤ 16) (hk : Notes w ao len) :
    Calls Try.prog 3 #[.int .i64 P, .slice ao len cap, .int .i64 kind, .int .i64 τ] w fun e w' => e = .returned (.bool true) ∧ Below w.heap.size w w' := by
  have h' : (len : Int) ≤ 100 := by omega
  have t0 : (0 : Int) ≤ τ := by omega
  have t4 : (τ : Int) ≤ 4 := by omega
  obtain ⟨p1, p16⟩ := hp
  have p1' : (1 : Int) ≤ P := by omega
  have p16' : (P : Int) ≤ 16 := by omega
  obtain ⟨i0, hi, hz0, hz1, hz2⟩ := info_parts Try.info35
  have HK := Lib.hid hk
  clear hk
  go_enter Try.func3, Try.ntmps3
  go_wp2_with fail
  refine (awake_any _).mono ?_
  rintro e w1 ⟨rfl, b1⟩
  go_wp2_with fail
  refine (new_yes P _ p1 p16).mono ?_
  rintro e w2 ⟨rfl, h2, b2, z2⟩
  have HP := Lib.hid (play_made rfl b1 h2 b2 z2)
  clear h2 b2 z2 b1
  generalize w1.heap.size = B at HP ⊢
  go_wp2_with fail
  go_loopw [11, 12] (fun v n wr => ∃ (k : Nat) (all : List Rec), n = .int .i64 k ∧ k ≤ τ + 1 ∧ all.length ≤ k * 100 ∧ Play w wr B P all v) (fun _ n _ => (τ + 1 - intOf n).toNat)
  case atStart => exact ⟨0, [], rfl, Nat.zero_le _, Nat.zero_le _, HP.out⟩
  case round =>
    clear HP
    obtain ⟨n, all, rfl, hn, hall, hpl⟩ := hrel
    have HP := Lib.hid hpl
    clear hpl
    have hn0 : (0 : Int) ≤ n := by omega
    have hn5 : (n : Int) ≤ 5 := by omega
    by_cases hlt : (n : Int) ≤ τ
    · go_wp2_with fail
      go_loopw [11, 13] (fun v i wr => ∃ (k : Nat) (all : List Rec), i = .int .i64 k ∧ k ≤ len ∧ all.length ≤ n * 100 + k ∧ Play w wr B P all v) (fun _ i _ => (len - intOf i).toNat)
      case atStart => exact ⟨0, all, rfl, Nat.zero_le _, hall, HP.out⟩
      case round =>
        clear HP hall
        obtain ⟨k, all, rfl, hk, hall, hpl⟩ := hrel
        have HP := Lib.hid hpl
        clear hpl
        have hk0 : (0 : Int) ≤ k := by omega
        by_cases hlk : (k : Int) < len
        · obtain ⟨kb, ko, q, x, rfl, hkb, c0, c1, c2, c3, q0, q1⟩ := HK.out k (by omega)
          have hsn : SN kb (ko + k * 4) q x w := ⟨c0, c1, c2, c3⟩
          obtain ⟨d0, d1, d2, d3⟩ := hsn.below hkb HP.out.below
          have HS := Lib.hid (HP.out.set q x)
          clear hsn c0 c1 c2 c3 HP
          by_cases hbig : (1000 : Int) < x.w.size
          · go_wp2_with fail
            go_ret
            exact ⟨rfl, HS.out.play.below⟩
          · have hsm : (x.w.size : Int) ≤ 1000 := by omega
            clear hbig
            by_cases hq : 0 ≤ q ∧ q < (P : Int)
            · by_cases hx : (200 : Int) < x.w.size
              · obtain ⟨hq0, hq1⟩ := hq
                go_wp2_with fail
                refine (note_longer w B P all _ wr.heap.size q x _ HS.out (isPart_true.2 ⟨hq0, hq1⟩) (by omega)).mono ?_
                rintro e w5 ⟨rfl, hs5⟩
                have HS5 := Lib.hid hs5
                clear hs5 HS d0 d1 d2 d3
                generalize wr.heap.size = X at HS5 ⊢
                have f0 := HS5.out.xn.c0
                have f1 := HS5.out.xn.c1
                have f2 := HS5.out.xn.c2
                have f3 := HS5.out.xn.c3
                go_wp2_with fail
                go_roundw
                case rel => exact ⟨k + 1, all, by go_num, by omega, by omega, HS5.out.play⟩
                case measure => simp [intOf]; omega
              · obtain ⟨hq0, hq1⟩ := hq
                obtain ⟨p, rfl⟩ := Int.eq_ofNat_of_zero_le hq0
                have hx' : (x.w.size : Int) ≤ 200 := by omega
                clear hx
                go_wp2_with fail
                refine (note_taken w B P all _ wr.heap.size p x _ HS.out p16 (by omega) (by omega) (by omega)).mono ?_
                rintro e w5 ⟨rfl, hs5⟩
                have HS5 := Lib.hid hs5
                clear hs5 HS d0 d1 d2 d3
                generalize wr.heap.size = X at HS5 ⊢
                have f0 := HS5.out.xn.c0
                have f1 := HS5.out.xn.c1
                have f2 := HS5.out.xn.c2
                have f3 := HS5.out.xn.c3
                go_wp2_with (at_builtin; refine wpList_append_lies _ rfl _ _ _ rfl w.heap.size 35 i0 (.agg #[.int .i64 0, .int .i64 0, .int .i64 0, .string ⟨#[]⟩]) 4 40 Try.underlying28 hi hz0 hz1 hz2 rfl (by decide) _ _ (cells4 all) rfl (HS5.out.own.alloc _) ⟨w5.heap.size, 0, none⟩ 1 1 (Rec.cells ⟨(p : Int), x⟩) rfl rfl (by exact rec_news (x := ⟨(p : Int), x⟩)) (rec_one _) (by omega) (by unfold maxLen; omega) (by omega) (by have := HS5.out.below.size; simp; omega) (w5.heap.size + 1) (by simp) ?_)
                intro g' cap' w7 hown hgrow hat hlt
                have HQ := Lib.hid (HS5.out.done (by omega) hown hgrow hat)
                clear hown hgrow hat hlt HS5 f0 f1 f2 f3
                go_wp2_with fail
                go_roundw
                case rel => exact ⟨k + 1, _, by go_num, by omega, by rw [List.length_append]; simp; omega, HQ.out⟩
                case measure => simp [intOf]; omega
            · have hqf : isPart P q = false := by
                cases e : isPart P q with
                | false => rfl
                | true => exact absurd (isPart_true.1 e) hq
              have HQF := Lib.hid hqf
              clear hqf
              by_cases hq0 : q < 0
              · clear hq
                go_wp2_with fail
                refine (note_outside w B P all _ wr.heap.size q x _ HS.out HQF.out).mono ?_
                rintro e w5 ⟨rfl, hs5⟩
                have HS5 := Lib.hid hs5
                clear hs5 HS d0 d1 d2 d3
                generalize wr.heap.size = X at HS5 ⊢
                have f0 := HS5.out.xn.c0
                have f1 := HS5.out.xn.c1
                have f2 := HS5.out.xn.c2
                have f3 := HS5.out.xn.c3
                go_wp2_with fail
                go_roundw
                case rel => exact ⟨k + 1, all, by go_num, by omega, by omega, HS5.out.play⟩
                case measure => simp [intOf]; omega
              · have hq1 : (P : Int) ≤ q := by omega
                have hq2 : 0 ≤ q := by omega
                clear hq hq0
                go_wp2_with fail
                refine (note_outside w B P all _ wr.heap.size q x _ HS.out HQF.out).mono ?_
                rintro e w5 ⟨rfl, hs5⟩
                have HS5 := Lib.hid hs5
                clear hs5 HS d0 d1 d2 d3
                generalize wr.heap.size = X at HS5 ⊢
                have f0 := HS5.out.xn.c0
                have f1 := HS5.out.xn.c1
                have f2 := HS5.out.xn.c2
                have f3 := HS5.out.xn.c3
                go_wp2_with fail
                go_roundw
                case rel => exact ⟨k + 1, all, by go_num, by omega, by omega, HS5.out.play⟩
                case measure => simp [intOf]; omega
        · go_wp2_with fail
          go_roundw
          case rel => exact ⟨n + 1, all, by go_num, by omega, by omega, HP.out⟩
          case measure => simp [intOf]; omega
    · have hall5 : all.length ≤ 500 := by omega
      clear hall
      go_wp2_with fail
      go_loopw [16] (fun i wr => ∃ k : Nat, i = .int .i64 ((k : Int) - 1) ∧ k ≤ P + 2 ∧ Play w wr B P all u11) (fun i _ => (P + 1 - intOf i).toNat)
      case atStart => exact ⟨0, rfl, by omega, HP.out⟩
      case round =>
        clear HP
        obtain ⟨k, rfl, hk, hpl⟩ := hrel
        have HP := Lib.hid hpl
        clear hpl
        have hk0 : (0 : Int) ≤ k := by omega
        by_cases hlk : (k : Int) - 1 ≤ P
        · obtain ⟨l, hl⟩ : ∃ l, last64R (fl ((k : Int) - 1) all) = l := ⟨_, rfl⟩
          obtain ⟨m, hm⟩ : ∃ m, (fl ((k : Int) - 1) all).length = m := ⟨_, rfl⟩
          have hl64 : l.length ≤ 64 := by rw [← hl]; exact last64R_length _
          have HL := Lib.hid hl
          have HM := Lib.hid hm
          clear hl hm
          go_wp2_with fail
          refine (list_play w B P all _ ((k : Int) - 1) l _ HP.out p16 HL.out).mono ?_
          rintro e w5 ⟨⟨v5, rfl, hown5, hb5⟩, hp5⟩
          have HP5 := Lib.hid hp5
          have HX5 := Lib.hid (shape_of hown5)
          clear hown5 hb5 hp5 HP
          go_wp2_with fail
          refine (reflist_play w B P all _ ((k : Int) - 1) l _ HP5.out (by omega) HL.out).mono ?_
          rintro e w6 ⟨v6, rfl, hrow6, hb6⟩
          have hx6 := HX5.out.later hb6
          have hp6 := HP5.out.later hb6
          have HP6 := Lib.hid hp6
          have HX6 := Lib.hid hx6
          have HY6 := Lib.hid hrow6
          obtain ⟨xa, xc, hxe, _⟩ := hx6
          rw [ents_length] at hxe
          subst hxe
          obtain ⟨ya, yc, rfl, _⟩ := hrow6
          clear hb6 hp6 HP5 HX5
          go_wp2_with fail
          refine (count_play w B P all _ ((k : Int) - 1) m _ HP6.out p16 HM.out).mono ?_
          rintro e w7 ⟨rfl, rfl⟩
          go_wp2_with fail
          refine (refall_play w B P all _ ((k : Int) - 1) m _ HP6.out (by omega) HM.out).mono ?_
          rintro e w8 ⟨za, zc, rfl, hb8⟩
          have HP8 := Lib.hid (HP6.out.later hb8)
          have HX8 := Lib.hid (HX6.out.later hb8)
          have HY8 := Lib.hid (HY6.out.later hb8)
          clear hb8 HP6 HX6 HY6
          go_wp2_with fail
          go_loopw [19, 20] (fun c i wr => ∃ j : Nat, i = .int .i64 j ∧ j ≤ l.length ∧ c = .int .i64 (kc kind (ents (l.take j)) : Nat) ∧ Below w8.heap.size w8 wr) (fun _ i _ => (l.length - intOf i).toNat)
          case atStart => exact ⟨0, rfl, Nat.zero_le _, rfl, Below.refl _ _⟩
          case round =>
            obtain ⟨j, rfl, hj, rfl, hbw⟩ := hrel
            have HW := Lib.hid hbw
            clear hbw
            have hj0 : (0 : Int) ≤ j := by omega
            obtain ⟨z, hz⟩ : ∃ z, kc kind (ents (l.take j)) = z := ⟨_, rfl⟩
            have hz64 : z ≤ 64 := by
              have h1 := kc_le kind (ents (l.take j))
              rw [ents_length, List.length_take, hz] at h1
              omega
            have hz0 : (0 : Int) ≤ z := by omega
            have hz64' : (z : Int) ≤ 64 := by omega
            rw [hz]
            have HZ := Lib.hid hz
            clear hz
            by_cases hlj : (j : Int) < (l.length : Nat)
            · obtain ⟨x, hx⟩ : ∃ x, l[j]? = some x := ⟨l[j], List.getElem?_eq_getElem (by omega)⟩
              obtain ⟨_, _, e1, hX⟩ := HX8.out.later HW.out
              obtain ⟨_, _, e2, hY⟩ := HY8.out.later HW.out
              rw [ents_length] at e1
              injection e1 with e1 _ e1c
              injection e2 with e2 _ e2c
              subst e1 e1c e2 e2c
              obtain ⟨g, rfl, -, hg, c0, c1, c2⟩ := hX j x.e (ents_at hx)
              obtain ⟨g', o, rfl, hg', d0, d1, d2, d3⟩ := hY j x hx
              have hkc := kc_ents kind hx
              rw [HZ.out] at hkc
              clear hx hX hY
              cases hy : isK kind x.e with
              | true =>
                have hyk : (x.e.k == kind) = true := hy
                rw [hy, if_pos rfl] at hkc
                have HKC := Lib.hid hkc
                clear hy hkc
                go_wp2_with fail
                go_quiet (fail)
                go_wp2_with fail
                go_roundw
                case rel => exact ⟨j + 1, by go_num, by omega, by rw [HKC.out]; go_num, HW.out.trans ((below_drewN _ _).mono HW.out.size)⟩
                case measure => simp [intOf]; omega
              | false =>
                have hyk : (x.e.k == kind) = false := hy
                rw [hy, if_neg (by simp)] at hkc
                have HKC := Lib.hid hkc
                clear hy hkc
                go_wp2_with fail
                go_quiet (fail)
                go_wp2_with fail
                go_roundw
                case rel => exact ⟨j + 1, by go_num, by omega, by rw [HKC.out]; rfl, HW.out.trans ((below_drewN _ _).mono HW.out.size)⟩
                case measure => simp [intOf]; omega
            · have hjl : l.take j = l := List.take_of_length_le (by omega)
              have hz := HZ.out
              rw [hjl] at hz
              have HZ2 := Lib.hid hz
              have HPW := Lib.hid (HP8.out.later HW.out)
              clear hz hjl HZ
              go_wp2_with fail
              refine (kind_play w B P all _ ((k : Int) - 1) kind l _ HPW.out p16 HL.out).mono ?_
              rintro e w9 ⟨rfl, hp9⟩
              rw [HZ2.out]
              have HP9 := Lib.hid hp9
              clear hp9
              go_wp2_with fail
              go_roundw
              case rel => exact ⟨k + 1, by go_num, by omega, HP9.out⟩
              case measure => simp [intOf]; omega
        · go_wp2_with fail
          go_ret
          exact ⟨rfl, HP.out.below⟩
end Go.Proofs.Ytoldipjchcmonaa
