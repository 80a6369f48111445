/-
  LAYER 3, OPTIONS AND PIECES: what ip4.optionsOK, ip4.orderly and weftref3.behind, Area, Piece, clone compute. Conditions: lengths as the reading gives them.
-/
import Derived.Test.YtdjldipiggfjdaaSums
import Derived.Test.YtdjldipiggfjdaaOptSpec
namespace Go.Proofs.Ytdjldipiggfjdaa
open Go.RowKit
set_option linter.unusedVariables false

set_option maxHeartbeats 400000 in
theorem orderly_any (off n : Int) (m : Bool) (w : World) (ho0 : -9223372036854775808 ≤ off) (ho1 : off ≤ 9223372036854775807) (h0 : 0 ≤ n) (h1 : n ≤ 140737488351232) :
    Calls Try.prog 90 #[.int .i64 off, .int .i64 n, .bool m] w fun e w' => e = .returned (.bool (pieceS off n m)) ∧ w = w' := by
  by_cases c1 : off < 0
  · have HF := Sec.mk (show pieceS off n m = false by unfold pieceS; rw [if_pos c1])
    clear ho0 ho1
    go_enter Try.func90, Try.ntmps90
    go_wp2
    go_ret
    exact ⟨by rw [HF.out]; rfl, rfl⟩
  clear ho0
  by_cases c2 : off > 65528
  · have HF := Sec.mk (show pieceS off n m = false by unfold pieceS; rw [if_neg c1, if_pos c2])
    clear ho1
    go_enter Try.func90, Try.ntmps90
    go_wp2
    go_ret
    exact ⟨by rw [HF.out]; rfl, rfl⟩
  clear ho1
  by_cases c3 : off % 8 = 0
  · by_cases c4 : off + n > 65535
    · have HF := Sec.mk (show pieceS off n m = false by unfold pieceS; rw [if_neg c1, if_neg c2, if_pos c3, if_pos c4])
      have c3b : (off % 8 != 0) = false := bne_eq_false_iff_eq.mpr c3
      clear c3
      go_enter Try.func90, Try.ntmps90
      go_wp2
      go_ret
      exact ⟨by rw [HF.out]; rfl, rfl⟩
    · have c3b : (off % 8 != 0) = false := bne_eq_false_iff_eq.mpr c3
      cases m with
      | false =>
        have HF := Sec.mk (show pieceS off n false = true by unfold pieceS; rw [if_neg c1, if_neg c2, if_pos c3, if_neg c4]; rfl)
        clear c3
        go_enter Try.func90, Try.ntmps90
        go_wp2
        go_ret
        exact ⟨by rw [HF.out]; rfl, rfl⟩
      | true =>
        have HF := Sec.mk (show pieceS off n true = decide (n > 0 ∧ n % 8 = 0) by unfold pieceS; rw [if_neg c1, if_neg c2, if_pos c3, if_neg c4]; rfl)
        clear c3
        by_cases c5 : n > 0
        · by_cases c6 : n % 8 = 0
          · have c6b : (n % 8 == 0) = true := beq_iff_eq.mpr c6
            have H6 := Sec.mk c6
            clear c6
            go_enter Try.func90, Try.ntmps90
            go_wp2
            go_ret
            exact ⟨by rw [HF.out, decide_eq_true ⟨c5, H6.out⟩]; rfl, rfl⟩
          · have c6b : (n % 8 == 0) = false := beq_eq_false_iff_ne.mpr c6
            have H6 := Sec.mk c6
            clear c6
            go_enter Try.func90, Try.ntmps90
            go_wp2
            go_ret
            exact ⟨by rw [HF.out, decide_eq_false (fun h => H6.out h.2)]; rfl, rfl⟩
        · go_enter Try.func90, Try.ntmps90
          go_wp2
          go_ret
          exact ⟨by rw [HF.out, decide_eq_false (fun h => absurd h.1 (by omega))]; rfl, rfl⟩
  · have HF := Sec.mk (show pieceS off n m = false by unfold pieceS; rw [if_neg c1, if_neg c2, if_neg c3])
    have c3b : (off % 8 != 0) = true := bne_iff_ne.mpr c3
    clear c3
    go_enter Try.func90, Try.ntmps90
    go_wp2
    go_ret
    exact ⟨by rw [HF.out]; rfl, rfl⟩
set_option maxHeartbeats 400000 in
theorem piece_any (off n : Int) (m : Bool) (w : World) (ho0 : -9223372036854775808 ≤ off) (ho1 : off ≤ 9223372036854775807) (h0 : 0 ≤ n) (h1 : n ≤ 140737488351232) :
    Calls Try.prog 109 #[.int .i64 off, .int .i64 n, .bool m] w fun e w' => e = .returned (.bool (pieceS off n m)) ∧ w = w' := by
  by_cases c1 : off < 0
  · have HF := Sec.mk (show pieceS off n m = false by unfold pieceS; rw [if_pos c1])
    clear ho0 ho1
    go_enter Try.func109, Try.ntmps109
    go_wp2
    go_ret
    exact ⟨by rw [HF.out]; rfl, rfl⟩
  clear ho0
  by_cases c2 : off > 65528
  · have HF := Sec.mk (show pieceS off n m = false by unfold pieceS; rw [if_neg c1, if_pos c2])
    clear ho1
    go_enter Try.func109, Try.ntmps109
    go_wp2
    go_ret
    exact ⟨by rw [HF.out]; rfl, rfl⟩
  clear ho1
  by_cases c3 : off % 8 = 0
  · by_cases c4 : off + n > 65535
    · have HF := Sec.mk (show pieceS off n m = false by unfold pieceS; rw [if_neg c1, if_neg c2, if_pos c3, if_pos c4])
      have c3b : (off % 8 != 0) = false := bne_eq_false_iff_eq.mpr c3
      clear c3
      go_enter Try.func109, Try.ntmps109
      go_wp2
      go_ret
      exact ⟨by rw [HF.out]; rfl, rfl⟩
    · have c3b : (off % 8 != 0) = false := bne_eq_false_iff_eq.mpr c3
      cases m with
      | false =>
        have HF := Sec.mk (show pieceS off n false = true by unfold pieceS; rw [if_neg c1, if_neg c2, if_pos c3, if_neg c4]; rfl)
        clear c3
        go_enter Try.func109, Try.ntmps109
        go_wp2
        go_ret
        exact ⟨by rw [HF.out]; rfl, rfl⟩
      | true =>
        have HF := Sec.mk (show pieceS off n true = decide (n > 0 ∧ n % 8 = 0) by unfold pieceS; rw [if_neg c1, if_neg c2, if_pos c3, if_neg c4]; rfl)
        clear c3
        by_cases c5 : n > 0
        · by_cases c6 : n % 8 = 0
          · have c6b : (n % 8 == 0) = true := beq_iff_eq.mpr c6
            have H6 := Sec.mk c6
            clear c6
            go_enter Try.func109, Try.ntmps109
            go_wp2
            go_ret
            exact ⟨by rw [HF.out, decide_eq_true ⟨c5, H6.out⟩]; rfl, rfl⟩
          · have c6b : (n % 8 == 0) = false := beq_eq_false_iff_ne.mpr c6
            have H6 := Sec.mk c6
            clear c6
            go_enter Try.func109, Try.ntmps109
            go_wp2
            go_ret
            exact ⟨by rw [HF.out, decide_eq_false (fun h => H6.out h.2)]; rfl, rfl⟩
        · go_enter Try.func109, Try.ntmps109
          go_wp2
          go_ret
          exact ⟨by rw [HF.out, decide_eq_false (fun h => absurd h.1 (by omega))]; rfl, rfl⟩
  · have HF := Sec.mk (show pieceS off n m = false by unfold pieceS; rw [if_neg c1, if_neg c2, if_neg c3])
    have c3b : (off % 8 != 0) = true := bne_iff_ne.mpr c3
    clear c3
    go_enter Try.func109, Try.ntmps109
    go_wp2
    go_ret
    exact ⟨by rw [HF.out]; rfl, rfl⟩

set_option maxHeartbeats 800000 in
theorem behind_any (o : List UInt8) (A : Option Addr) (c : Nat) (i : Int) (w : World) (hx : RD w A o) (h0 : 0 ≤ i) (h : i < o.length) :
    Calls Try.prog 100 #[.slice A o.length c, .int .i64 i] w fun e w' => e = .returned (.int .i64 (behindS o i)) ∧ Dr w w' := by
  have HX := Sec.mk hx
  have lx := hx.len
  obtain ⟨ad, rfl, hi⟩ := hx.get i h0 h
  have b0 := rb_lo o i
  have b1 := rb_hi o i
  clear hx
  by_cases c1 : rb o i = 1
  · have HF := Sec.mk (show behindS o i = i + 1 by unfold behindS; rw [if_pos c1])
    have c1b : (rb o i == 1) = true := beq_iff_eq.mpr c1
    clear c1
    go_enter Try.func100, Try.ntmps100
    go_wp2
    go_ret
    exact ⟨by rw [HF.out]; rfl, Dr.refl _⟩
  have c1b : (rb o i == 1) = false := beq_eq_false_iff_ne.mpr c1
  by_cases c2 : rb o i = 0
  · have HF := Sec.mk (show behindS o i = (if zerosS o i then (o.length : Int) else -1) by unfold behindS; rw [if_neg c1, if_pos c2])
    have c2b : (rb o i == 0) = true := beq_iff_eq.mpr c2
    clear c1 c2
    go_enter Try.func100, Try.ntmps100
    go_wp2
    go_loopw [5] (fun j wr => ∃ k : Int, i ≤ k ∧ k ≤ o.length ∧ j = .int .i64 k ∧ Sec (zerosS o k = zerosS o i) ∧ Sec (Dr w wr)) (fun j _ => o.length - (intOf j).toNat)
    case atStart => exact ⟨i, by omega, by omega, rfl, ⟨rfl⟩, ⟨Dr.refl _⟩⟩
    case round =>
      obtain ⟨k, hk0, hk, rfl, HZ, HD⟩ := hrel
      have hk00 : 0 ≤ k := by omega
      by_cases hlt : k < (o.length : Int)
      · obtain ⟨ad', e, ha⟩ := (HX.out.dr HD.out).get k (by omega) hlt
        injection e with e
        subst e
        have k0 := rb_lo o k
        have k1 := rb_hi o k
        have HS := Sec.mk (zerosS_step o k (by omega) hlt)
        by_cases hz : rb o k = 0
        · have hzb : (rb o k != 0) = false := bne_eq_false_iff_eq.mpr hz
          have HE := Sec.mk hz
          clear hz
          go_wp2
          go_roundw
          case rel => exact ⟨k + 1, by omega, by omega, rfl, ⟨by rw [← HZ.out, HS.out, decide_eq_true HE.out]; rfl⟩, HD⟩
          case measure => simp [intOf]; omega
        · have hzb : (rb o k != 0) = true := bne_iff_ne.mpr hz
          have HE := Sec.mk hz
          clear hz
          go_wp2
          go_ret
          refine ⟨?_, HD.out⟩
          rw [HF.out, ← HZ.out, HS.out, decide_eq_false HE.out]
          rfl
      · go_wp2
        go_ret
        refine ⟨?_, HD.out⟩
        rw [HF.out, ← HZ.out, zerosS_end o k (by omega)]
        rfl
  have c2b : (rb o i == 0) = false := beq_eq_false_iff_ne.mpr c2
  by_cases c3 : i + 1 ≥ (o.length : Int)
  · have HF := Sec.mk (show behindS o i = -1 by unfold behindS; rw [if_neg c1, if_neg c2, if_pos c3])
    clear c1 c2
    go_enter Try.func100, Try.ntmps100
    go_wp2
    go_ret
    exact ⟨by rw [HF.out]; rfl, Dr.refl _⟩
  have l1 : i + 1 < (o.length : Int) := by omega
  have l0 : 0 ≤ i + 1 := by omega
  obtain ⟨ad', e, hj⟩ := HX.out.get (i + 1) (by omega) l1
  injection e with e
  subst e
  have b2 := rb_lo o (i + 1)
  have b3 := rb_hi o (i + 1)
  by_cases c4 : rb o (i + 1) < 2
  · have HF := Sec.mk (show behindS o i = -1 by unfold behindS; rw [if_neg c1, if_neg c2, if_neg c3, if_pos c4])
    clear c1 c2
    go_enter Try.func100, Try.ntmps100
    go_wp2
    go_ret
    exact ⟨by rw [HF.out]; rfl, Dr.refl _⟩
  by_cases c5 : i + rb o (i + 1) > (o.length : Int)
  · have HF := Sec.mk (show behindS o i = -1 by unfold behindS; rw [if_neg c1, if_neg c2, if_neg c3, if_neg c4, if_pos c5])
    clear c1 c2
    go_enter Try.func100, Try.ntmps100
    go_wp2
    go_ret
    exact ⟨by rw [HF.out]; rfl, Dr.refl _⟩
  · have HF := Sec.mk (show behindS o i = i + rb o (i + 1) by unfold behindS; rw [if_neg c1, if_neg c2, if_neg c3, if_neg c4, if_neg c5])
    clear c1 c2
    go_enter Try.func100, Try.ntmps100
    go_wp2
    go_ret
    exact ⟨by rw [HF.out]; rfl, Dr.refl _⟩
set_option maxHeartbeats 800000 in
theorem area_any (o : List UInt8) (A : Option Addr) (c : Nat) (w : World) (hx : RD w A o) :
    Calls Try.prog 99 #[.slice A o.length c] w fun e w' => e = .returned (.bool (areaS o)) ∧ Dr w w' := by
  have HX := Sec.mk hx
  have lx := hx.len
  clear hx
  by_cases c1 : (o.length : Int) > 40
  · have HF := Sec.mk (show areaS o = false by unfold areaS; rw [if_pos (by omega)])
    go_enter Try.func99, Try.ntmps99
    go_wp2
    go_ret
    exact ⟨by rw [HF.out]; rfl, Dr.refl _⟩
  by_cases c2 : (o.length : Int) % 4 = 0
  · have HF := Sec.mk (show areaS o = areaGo o (o.length + 1) 0 by unfold areaS; rw [if_neg (by omega), if_pos (by omega)])
    have c2b : ((o.length : Int) % 4 != 0) = false := bne_eq_false_iff_eq.mpr c2
    clear c2
    go_enter Try.func99, Try.ntmps99
    go_wp2
    go_loopw [3] (fun j wr => ∃ (n : Nat) (k : Int), -1 ≤ k ∧ k ≤ o.length ∧ j = .int .i64 k ∧ Sec (k < 0 ∨ (o.length : Int) - k < n) ∧ Sec (areaGo o n k = areaS o) ∧ Sec (Dr w wr)) (fun j _ => if intOf j < 0 then 0 else o.length + 1 - (intOf j).toNat)
    case atStart => exact ⟨o.length + 1, 0, by omega, by omega, rfl, ⟨.inr (by omega)⟩, ⟨HF.out.symm⟩, ⟨Dr.refl _⟩⟩
    case round =>
      obtain ⟨n, k, hk0, hk, rfl, HN, HZ, HD⟩ := hrel
      by_cases hneg : k < 0
      · obtain rfl : k = -1 := by omega
        have HE := Sec.mk (show areaS o = false by rw [← HZ.out]; exact behindS_neg o n)
        go_wp2
        go_ret
        exact ⟨by rw [HE.out]; rfl, HD.out⟩
      have hge : 0 ≤ k := by omega
      by_cases hlt : k < (o.length : Int)
      · have hb := behindS_or o k hge hlt
        obtain ⟨m, hm⟩ : ∃ m : Nat, n = m + 1 := ⟨n - 1, by have := HN.out; omega⟩
        have HM := Sec.mk hm
        have hg : areaGo o n k = areaGo o m (behindS o k) := by rw [hm, areaGo, if_neg (by omega), if_neg (by omega)]
        have HG := Sec.mk hg
        have HB := Sec.mk hb
        clear hb hm hg
        go_wp2_with fail
        refine (behind_any o A c k _ (HX.out.dr HD.out) hge hlt).mono ?_
        rintro e w1 ⟨rfl, hd1⟩
        obtain ⟨j, hj⟩ : ∃ j, j = behindS o k := ⟨_, rfl⟩
        rw [← hj]
        have HJ := Sec.mk hj
        clear hj
        go_wp2
        go_roundw
        case rel => exact ⟨m, j, by have := HB.out; rw [← HJ.out] at this; omega, by have := HB.out; rw [← HJ.out] at this; omega, rfl, ⟨by have := HB.out; rw [← HJ.out] at this; have := HN.out; have := HM.out; omega⟩, ⟨by rw [← HZ.out, HG.out, HJ.out]⟩, ⟨HD.out.trans hd1⟩⟩
        case measure =>
          have := HB.out
          rw [← HJ.out] at this
          show (if j < 0 then 0 else o.length + 1 - j.toNat) < (if k < 0 then 0 else o.length + 1 - k.toNat)
          rw [if_neg (show ¬ k < 0 by omega)]
          split <;> omega
      · have HE := Sec.mk (show areaS o = true by
          rw [← HZ.out]
          obtain ⟨m, rfl⟩ : ∃ m : Nat, n = m + 1 := ⟨n - 1, by have := HN.out; omega⟩
          rw [areaGo, if_neg (by omega), if_pos (by omega)])
        go_wp2
        go_ret
        exact ⟨by rw [HE.out]; rfl, HD.out⟩
  · have HF := Sec.mk (show areaS o = false by unfold areaS; rw [if_neg (by omega), if_neg (by omega)])
    have c2b : ((o.length : Int) % 4 != 0) = true := bne_iff_ne.mpr c2
    clear c2
    go_enter Try.func99, Try.ntmps99
    go_wp2
    go_ret
    exact ⟨by rw [HF.out]; rfl, Dr.refl _⟩

set_option maxHeartbeats 1600000 in
theorem options_any (o : List UInt8) (A : Option Addr) (c : Nat) (w : World) (hx : RD w A o) (hc : o.length ≤ c) :
    Calls Try.prog 89 #[.slice A o.length c] w fun e w' => e = .returned (.bool (areaS o)) ∧ Dr w w' := by
  have HX := Sec.mk hx
  have lx := hx.len
  clear hx
  by_cases c1 : (o.length : Int) > 40
  · have HF := Sec.mk (show areaS o = false by unfold areaS; rw [if_pos (by omega)])
    go_enter Try.func89, Try.ntmps89
    go_wp2
    go_ret
    exact ⟨by rw [HF.out]; rfl, Dr.refl _⟩
  by_cases c2 : (o.length : Int) % 4 = 0
  · have HF := Sec.mk (show areaS o = areaGo o (o.length + 1) 0 by unfold areaS; rw [if_neg (by omega), if_pos (by omega)])
    have c2b : ((o.length : Int) % 4 != 0) = false := bne_eq_false_iff_eq.mpr c2
    clear c2
    go_enter Try.func89, Try.ntmps89
    go_wp2
    go_loopw [3] (fun j wr => ∃ (n : Nat) (k : Int), 0 ≤ k ∧ k ≤ o.length ∧ j = .int .i64 k ∧ Sec ((o.length : Int) - k < n) ∧ Sec (areaGo o n k = areaS o) ∧ Sec (Dr w wr)) (fun j _ => o.length - (intOf j).toNat)
    case atStart => exact ⟨o.length + 1, 0, by omega, by omega, rfl, ⟨by omega⟩, ⟨HF.out.symm⟩, ⟨Dr.refl _⟩⟩
    case round =>
      obtain ⟨n, k, hk0, hk, rfl, HN, HZ, HD⟩ := hrel
      by_cases hlt : k < (o.length : Int)
      · obtain ⟨m, hm⟩ : ∃ m : Nat, n = m + 1 := ⟨n - 1, by have := HN.out; omega⟩
        have HM := Sec.mk hm
        have hg : areaGo o n k = areaGo o m (behindS o k) := by rw [hm, areaGo, if_neg (by omega), if_neg (by omega)]
        have HG := Sec.mk hg
        clear hm hg
        obtain ⟨wo, rfl⟩ : ∃ wo : World, wo = wr := ⟨_, rfl⟩
        have HXR := Sec.mk (HX.out.dr HD.out)
        obtain ⟨B, d, ys, HYS, hyl, HRY, hyd, hcut⟩ := cut_lo (P := Try.prog) Try.underlying30 byteInfo HXR.out hc .i64 k hk0 hk
        obtain ⟨ad, rfl, hi⟩ := HXR.out.get k hk0 hlt
        have b0 := rb_lo o k
        have b1 := rb_hi o k
        have HYL := Sec.mk hyl
        have hyl2 : ys.length ≤ 140737488351232 := HRY.out.len
        clear hyl
        by_cases d2 : rb o k = 0
        · have HB := Sec.mk (show behindS o k = (if zerosS o k then (o.length : Int) else -1) by unfold behindS; rw [if_neg (by omega), if_pos d2])
          have d2b : (rb o k == 0) = true := beq_iff_eq.mpr d2
          clear d2
          go_wp2
          go_loopw [63] (fun j wr => ∃ q : Int, 0 ≤ q ∧ q ≤ ys.length ∧ j = .int .i64 q ∧ Sec (zerosS o (k + q) = zerosS o k) ∧ Sec (Dr wo wr)) (fun j _ => ys.length - (intOf j).toNat)
          case atStart => exact ⟨0, by omega, by omega, rfl, ⟨by rw [Int.add_zero]⟩, ⟨Dr.refl _⟩⟩
          case round =>
            obtain ⟨q, hq0, hq, rfl, HQ, HDQ⟩ := hrel
            by_cases hlq : q < (ys.length : Int)
            · obtain ⟨bd, rfl, hbq⟩ := (HRY.out.dr HDQ.out).get q hq0 hlq
              have HEQ := Sec.mk (show rb ys q = rb o (k + q) by rw [HYS.out, rb_drop o k q hk0 hq0])
              have HZS := Sec.mk (zerosS_step o (k + q) (by omega) (by have := HYL.out; omega))
              have q0 := rb_lo ys q
              have q1 := rb_hi ys q
              by_cases hz : rb ys q = 0
              · have hzb : (rb ys q != 0) = false := bne_eq_false_iff_eq.mpr hz
                have HE := Sec.mk hz
                clear hz
                go_wp2
                go_roundw
                case rel => exact ⟨q + 1, by omega, by omega, rfl, ⟨by rw [← HQ.out, HZS.out, ← HEQ.out, decide_eq_true HE.out, Int.add_assoc]; rfl⟩, HDQ⟩
                case measure => simp [intOf]; omega
              · have hzb : (rb ys q != 0) = true := bne_iff_ne.mpr hz
                have HE := Sec.mk hz
                clear hz
                go_wp2
                go_ret
                refine ⟨?_, HD.out.trans HDQ.out⟩
                rw [← HZ.out, HG.out, HB.out, ← HQ.out, HZS.out, ← HEQ.out, decide_eq_false HE.out]
                rw [show (if (false && zerosS o (k + q + 1)) = true then (o.length : Int) else -1) = -1 from rfl, behindS_neg]
                rfl
            · have hm1 : 1 ≤ m := by have := HN.out; have := HM.out; omega
              go_wp2
              go_ret
              refine ⟨?_, HD.out.trans HDQ.out⟩
              rw [← HZ.out, HG.out, HB.out, ← HQ.out, zerosS_end o (k + q) (by have := HYL.out; omega), if_pos rfl]
              obtain ⟨m', rfl⟩ : ∃ m', m = m' + 1 := ⟨m - 1, by omega⟩
              rw [areaGo, if_neg (by omega), if_pos (by omega)]
              rfl
        have d2b : (rb o k == 0) = false := beq_eq_false_iff_ne.mpr d2
        by_cases d1 : rb o k = 1
        · have HB := Sec.mk (show behindS o k = k + 1 by unfold behindS; rw [if_pos d1])
          have d1b : (rb o k == 1) = true := beq_iff_eq.mpr d1
          clear d1 d2
          go_wp2
          go_roundw
          case rel => exact ⟨m, k + 1, by omega, by omega, rfl, ⟨by have := HN.out; have := HM.out; omega⟩, ⟨by rw [← HZ.out, HG.out, HB.out]⟩, HD⟩
          case measure => simp [intOf]; omega
        have d1b : (rb o k == 1) = false := beq_eq_false_iff_ne.mpr d1
        by_cases d3 : k + 1 ≥ (o.length : Int)
        · have HB := Sec.mk (show behindS o k = -1 by unfold behindS; rw [if_neg d1, if_neg d2, if_pos d3])
          have HE := Sec.mk (show areaS o = false by rw [← HZ.out, HG.out, HB.out, behindS_neg])
          clear d1 d2
          go_wp2
          go_ret
          exact ⟨by rw [HE.out]; rfl, HD.out⟩
        have l1 : k + 1 < (o.length : Int) := by omega
        have l0 : 0 ≤ k + 1 := by omega
        obtain ⟨ad', e, hj⟩ := HXR.out.get (k + 1) (by omega) l1
        injection e with e
        subst e
        have b2 := rb_lo o (k + 1)
        have b3 := rb_hi o (k + 1)
        by_cases d4 : rb o (k + 1) < 2
        · have HB := Sec.mk (show behindS o k = -1 by unfold behindS; rw [if_neg d1, if_neg d2, if_neg d3, if_pos d4])
          have HE := Sec.mk (show areaS o = false by rw [← HZ.out, HG.out, HB.out, behindS_neg])
          clear d1 d2
          go_wp2
          go_ret
          exact ⟨by rw [HE.out]; rfl, HD.out⟩
        by_cases d5 : k + rb o (k + 1) > (o.length : Int)
        · have HB := Sec.mk (show behindS o k = -1 by unfold behindS; rw [if_neg d1, if_neg d2, if_neg d3, if_neg d4, if_pos d5])
          have HE := Sec.mk (show areaS o = false by rw [← HZ.out, HG.out, HB.out, behindS_neg])
          clear d1 d2
          go_wp2
          go_ret
          exact ⟨by rw [HE.out]; rfl, HD.out⟩
        · have HB := Sec.mk (show behindS o k = k + rb o (k + 1) by unfold behindS; rw [if_neg d1, if_neg d2, if_neg d3, if_neg d4, if_neg d5])
          clear d1 d2
          go_wp2
          go_roundw
          case rel => exact ⟨m, k + rb o (k + 1), by omega, by omega, rfl, ⟨by have := HN.out; have := HM.out; omega⟩, ⟨by rw [← HZ.out, HG.out, HB.out]⟩, HD⟩
          case measure => simp [intOf]; omega
      · have HE := Sec.mk (show areaS o = true by
          rw [← HZ.out]
          obtain ⟨m, rfl⟩ : ∃ m : Nat, n = m + 1 := ⟨n - 1, by have := HN.out; omega⟩
          rw [areaGo, if_neg (by omega), if_pos (by omega)])
        go_wp2
        go_ret
        exact ⟨by rw [HE.out]; rfl, HD.out⟩
  · have HF := Sec.mk (show areaS o = false by unfold areaS; rw [if_neg (by omega), if_neg (by omega)])
    have c2b : ((o.length : Int) % 4 != 0) = true := bne_iff_ne.mpr c2
    clear c2
    go_enter Try.func89, Try.ntmps89
    go_wp2
    go_ret
    exact ⟨by rw [HF.out]; rfl, Dr.refl _⟩

set_option maxHeartbeats 400000 in
theorem clone3_any (xs : List UInt8) (A : Option Addr) (c : Nat) (w : World) (hx : RD w A xs) :
    Calls Try.prog 117 #[.slice A xs.length c] w fun e w' => ∃ A' c', e = .returned (.slice A' xs.length c') ∧ Own 5 w' w.heap.size A' c' xs ∧ Below w.heap.size w w' := by
  have HX := Sec.mk hx
  have lx := hx.len
  clear hx
  go_enter Try.func117, Try.ntmps117
  go_wp2
  go_loopw [3, 4] (fun v i wr => ∃ (k : Int) (A1 : Option Addr) (c1 : Nat) (zs : List UInt8), 0 ≤ k ∧ k ≤ xs.length ∧ i = .int .i64 k ∧ v = .slice A1 zs.length c1 ∧ Sec (zs = xs.take k.toNat) ∧ Sec (Own 5 wr w.heap.size A1 c1 zs) ∧ Sec (Below w.heap.size w wr)) (fun _ i _ => xs.length - (intOf i).toNat)
  case atStart => exact ⟨0, none, 0, [], by omega, by omega, rfl, rfl, ⟨by simp⟩, ⟨.nil⟩, ⟨Below.refl _ _⟩⟩
  case round =>
    obtain ⟨k, A1, c1, zs, hk0, hk, rfl, rfl, HZ, HO, HB⟩ := hrel
    by_cases hlt : k < (xs.length : Int)
    · obtain ⟨ad, rfl, ha⟩ := (HX.out.below HB.out).get k hk0 hlt
      have b0 := rb_lo xs k
      have b1 := rb_hi xs k
      go_wp2_with (first
        | (at_builtin; refine app_one w.heap.size rfl (.tmp 11) (.tmp 16) 30 5 rfl Try.underlying30 byteInfo A1 c1 zs (rb xs k) zs.length rfl b0 b1 rfl rfl HO.out HB.out HB.out.size (by have := HO.out.len; have := congrArg List.length HZ.out; rw [List.length_take] at this; omega) ?_
           intro A2 c2 w2 ys hz2 ho2 hb2 hs2))
      go_roundw
      case rel => exact ⟨k + 1, A2, c2, ys, by omega, by omega, rfl, rfl, ⟨by rw [hz2.out, HZ.out, take_rb xs k hk0 hlt]⟩, ⟨ho2⟩, ⟨hb2⟩⟩
      case measure => simp [intOf]; omega
    · go_wp2
      go_ret
      have hz : zs = xs := by rw [HZ.out]; exact List.take_of_length_le (by omega)
      subst hz
      exact ⟨A1, c1, rfl, HO.out, HB.out⟩

end Go.Proofs.Ytdjldipiggfjdaa
