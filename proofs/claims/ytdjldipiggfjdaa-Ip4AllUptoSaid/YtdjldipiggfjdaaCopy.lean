/-
  LAYER 3: what later pieces carry of an area of options: ip4.Copied and weftref3.Copied, by contract, in any world. Conditions: readable bytes.
-/
import Derived.Test.YtdjldipiggfjdaaOpts
import Derived.Test.YtdjldipiggfjdaaPacket
import Derived.Test.YtdjldipiggfjdaaCopySpec
import Derived.Deep.LoopGhost
namespace Go.Proofs.Ytdjldipiggfjdaa
open Go.RowKit
set_option linter.unusedVariables false
set_option linter.unusedSimpArgs false

theorem and8_128 (a : Int) (h0 : 0 ≤ a) (h1 : a ≤ 255) : bits .and .u8 a 128 = a / 128 * 128 := by
  rw [u8_and _ _ h0 (by omega) (by omega) (by omega)]
  show ((a.toNat &&& 2 ^ 7 : Nat) : Int) = _
  rw [nat_bit]
  omega
/-- A slice value's length. -/
def sl : Value → Nat
  | .slice _ n _ => n
  | _ => 0
theorem take_snoc_drop (o : List UInt8) (i t : Int) (h0 : 0 ≤ i) (hi : i ≤ t) (h : t < o.length) : (o.take (t + 1).toNat).drop i.toNat = (o.take t.toNat).drop i.toNat ++ [u8 (rb o t)] := by
  rw [take_rb o t (by omega) h, List.drop_append_of_le_length (by rw [List.length_take]; omega)]
theorem pad_in {o zs : List UInt8} (h : copyGo o (o.length + 1) 0 = zs) : pad4 zs = copiedS o := by unfold copiedS; rw [h]

set_option maxHeartbeats 1600000 in
set_option maxRecDepth 100000 in
theorem rcopied_any (o : List UInt8) (A : Option Addr) (c : Nat) (w : World) (hx : RD w A o) :
    Calls Try.prog 62 #[.slice A o.length c] w fun e w' => ∃ A1 c1,
      e = .returned (.tuple #[.slice A1 (ifB (copiedE o) (copiedS o)).length c1, .int .i64 (copiedE o)]) ∧ Own 5 w' w.heap.size A1 c1 (ifB (copiedE o) (copiedS o)) ∧ Below w.heap.size w w' := by
  have HX := Sec.mk hx
  have lx := hx.len
  clear hx
  by_cases c1 : areaS o = true
  rotate_left
  · have c1' : areaS o = false := by simpa using c1
    have HAR := Sec.mk c1'
    have HE := Sec.mk (show copiedE o = 34 by unfold copiedE; rw [if_neg c1])
    clear c1 c1'
    go_enter Try.func62, Try.ntmps62
    go_wp2_with fail
    refine (area_any o A c _ HX.out).mono ?_
    rintro e w4 ⟨rfl, ⟨m4, rfl⟩⟩
    rw [HAR.out]
    go_wp2_with fail
    go_ret2
    exact ⟨none, 0, by rw [HE.out]; rfl, by rw [HE.out]; exact .nil, (below_drewN (Below.refl _ _) _)⟩
  have HAR := Sec.mk c1
  have HE := Sec.mk (show copiedE o = 0 by unfold copiedE; rw [if_pos c1])
  have HS := Sec.mk (CopyAt.start o c1)
  have lo4 := (areaS_len c1).1
  clear c1
  go_enter Try.func62, Try.ntmps62
  go_wp2_with fail
  refine (area_any o A c _ HX.out).mono ?_
  rintro e w4 ⟨rfl, ⟨m4, rfl⟩⟩
  rw [HAR.out]
  have HB4 := Sec.mk (below_drewN (Below.refl w.heap.size w) m4)
  obtain ⟨w4, hw4⟩ : ∃ w4, w4 = w.drewN m4 := ⟨_, rfl⟩
  rw [← hw4] at HB4 ⊢
  clear hw4
  go_wp2_with fail
  go_loopw [4, 5] (fun v i wr => ∃ (n : Nat) (k : Int) (A1 : Option Addr) (c1 : Nat) (zs : List UInt8), 0 ≤ k ∧ k ≤ o.length ∧ i = .int .i64 k ∧ v = .slice A1 zs.length c1 ∧ Sec (CopyAt o n k zs) ∧ Sec (Own 5 wr w.heap.size A1 c1 zs) ∧ Sec (Below w.heap.size w wr)) (fun _ i _ => o.length - (intOf i).toNat)
  case atStart => exact ⟨o.length + 1, 0, none, 0, [], by omega, by omega, rfl, rfl, HS, ⟨.nil⟩, HB4⟩
  case round =>
    obtain ⟨n, k, A1, c1, zs, hk0, hk, rfl, rfl, HC, HO, HB⟩ := hrel
    obtain ⟨wo, rfl⟩ : ∃ wo : World, wo = wr := ⟨_, rfl⟩
    by_cases hlt : k < (o.length : Int)
    · obtain ⟨ad, rfl, ha⟩ := (HX.out).get k hk0 hlt
      obtain ⟨m, hN⟩ := HC.out.next hlt
      obtain ⟨_, _, _, hj1, hj2⟩ := HC.out.pos hlt
      have HN := Sec.mk hN
      have HA := Sec.mk ha
      have zl : (zs.length : Int) ≤ 40 := by have := HC.out.len; omega
      have b0 := rb_lo o k
      have b1 := rb_hi o k
      clear hN ha
      go_wp2_with fail
      refine (behind_any o _ c k _ (HX.out.below HB.out) hk0 hlt).mono ?_
      rintro e w1 ⟨rfl, ⟨m1, rfl⟩⟩
      have ha1 := cell_below (below_drewN HB.out m1) HA.out
      obtain ⟨j, hj⟩ : ∃ j, j = behindS o k := ⟨_, rfl⟩
      rw [← hj] at hj1 hj2 HN ⊢
      have HO1 := Sec.mk (HO.out.drewN m1)
      have HB1 := Sec.mk (below_drewN HB.out m1)
      obtain ⟨w1, hw1⟩ : ∃ w1, w1 = wo.drewN m1 := ⟨_, rfl⟩
      rw [← hw1] at HO1 HB1 ha1 ⊢
      clear hj hw1
      by_cases hc : 128 ≤ rb o k
      · have HN2 : Sec (CopyAt o m j (zs ++ (o.take j.toNat).drop k.toNat)) := ⟨by have := HN.out; rwa [if_pos hc] at this⟩
        go_wp2_with fail
        clear ha1
        go_loopw [4, 7] (fun v i wr => ∃ (t : Int) (A2 : Option Addr) (c2 : Nat) (ys : List UInt8), k ≤ t ∧ t ≤ j ∧ i = .int .i64 t ∧ v = .slice A2 ys.length c2 ∧ Sec (ys = zs ++ (o.take t.toNat).drop k.toNat) ∧ Sec (Own 5 wr w.heap.size A2 c2 ys) ∧ Sec (Below w.heap.size w wr)) (fun _ i _ => o.length - (intOf i).toNat)
        case atStart => exact ⟨k, A1, c1, zs, by omega, by omega, rfl, rfl, ⟨by rw [List.drop_of_length_le (by rw [List.length_take]; omega), List.append_nil]⟩, HO1, HB1⟩
        case round =>
          obtain ⟨t, A2, c2, ys, ht0, ht, rfl, rfl, HY, HO2, HB2⟩ := hrel
          by_cases htl : t < j
          · have htt : t < (o.length : Int) := by omega
            have ht00 : 0 ≤ t := by omega
            obtain ⟨ad', e, hat⟩ := (HX.out.below HB2.out).get t ht00 htt
            injection e with e
            subst e
            have k0 := rb_lo o t
            have k1 := rb_hi o t
            have HYL : Sec (ys.length ≤ 100) := ⟨by rw [HY.out, List.length_append, List.length_drop, List.length_take]; omega⟩
            go_wp2_with (first
              | (at_builtin; refine app_one w.heap.size rfl (.tmp 29) (.tmp 34) 30 5 rfl Try.underlying30 byteInfo A2 c2 ys (rb o t) ys.length rfl k0 k1 rfl rfl HO2.out HB2.out HB2.out.size (by have := HYL.out; omega) ?_
                 intro A3 c3 w3 us hu3 ho3 hb3 hs3))
            go_roundw
            case rel => exact ⟨t + 1, A3, c3, us, by omega, by omega, rfl, rfl, ⟨by rw [hu3.out, HY.out, take_snoc_drop o k t hk0 ht0 htt, List.append_assoc]⟩, ⟨ho3⟩, ⟨hb3⟩⟩
            case measure => simp [intOf]; omega
          · obtain rfl : t = j := by omega
            go_wp2
            go_roundw
            case rel => exact ⟨m, t, A2, c2, ys, by omega, hj2, rfl, rfl, ⟨by rw [HY.out]; exact HN2.out⟩, HO2, HB2⟩
            case measure => simp [intOf]; omega
      · have HN2 : Sec (CopyAt o m j zs) := ⟨by have := HN.out; rwa [if_neg hc, List.append_nil] at this⟩
        have hc' : rb o k < 128 := by omega
        clear hc
        go_wp2_with fail
        go_roundw
        case rel => exact ⟨m, j, A1, c1, zs, by omega, hj2, rfl, rfl, HN2, HO1, HB1⟩
        case measure => simp [intOf]; omega
    · have HP := Sec.mk (pad_in (HC.out.end (by omega)))
      have zl : (zs.length : Int) ≤ 40 := by have := HC.out.len; omega
      go_wp2
      go_loopw [4] (fun v wr => ∃ (A2 : Option Addr) (c2 : Nat) (ys : List UInt8), v = .slice A2 ys.length c2 ∧ Sec (pad4 ys = copiedS o) ∧ (ys.length : Int) ≤ 40 ∧ Sec (Own 5 wr w.heap.size A2 c2 ys) ∧ Sec (Below w.heap.size w wr)) (fun v _ => (4 - sl v % 4) % 4)
      case atStart => exact ⟨A1, c1, zs, rfl, HP, zl, HO, HB⟩
      case round =>
        obtain ⟨A2, c2, ys, rfl, HY, yl, HO2, HB2⟩ := hrel
        by_cases h4 : (ys.length : Int) % 4 = 0
        · have h4b : ((ys.length : Int) % 4 != 0) = false := bne_eq_false_iff_eq.mpr h4
          have HF : Sec (ys = copiedS o) := ⟨by rw [← HY.out]; exact (pad4_done ys (by omega)).symm⟩
          clear h4
          go_wp2
          go_ret2
          refine ⟨A2, c2, by rw [HE.out, ifB_ok _ rfl, ← HF.out]; rfl, ?_, HB2.out⟩
          rw [HE.out, ifB_ok _ rfl, ← HF.out]
          exact HO2.out
        · have h4b : ((ys.length : Int) % 4 != 0) = true := bne_iff_ne.mpr h4
          have hmod : ys.length % 4 ≠ 0 := by omega
          have HM := Sec.mk hmod
          have HY2 := Sec.mk (pad4_step ys hmod)
          have hle : (ys.length : Int) ≤ 39 := by omega
          clear h4 hmod
          go_wp2_with (first
            | (at_builtin; refine app_one w.heap.size rfl (.tmp 41) (.tmp 42) 30 5 rfl Try.underlying30 byteInfo A2 c2 ys 0 ys.length rfl (by omega) (by omega) rfl rfl HO2.out HB2.out HB2.out.size (by omega) ?_
               intro A3 c3 w3 us hu3 ho3 hb3 hs3))
          go_roundw
          case rel => exact ⟨A3, c3, us, rfl, ⟨by rw [hu3.out, show u8 0 = 0 from rfl, HY2.out]; exact HY.out⟩, by rw [hu3.out, List.length_append]; simp; omega, ⟨ho3⟩, ⟨hb3⟩⟩
          case measure =>
            have := congrArg List.length hu3.out
            rw [List.length_append] at this
            have := HM.out
            simp only [sl, List.length_singleton] at *
            omega

set_option maxHeartbeats 1600000 in
set_option maxRecDepth 100000 in
theorem copied_any (o : List UInt8) (A : Option Addr) (c : Nat) (w : World) (hx : RD w A o) (hc : o.length ≤ c) :
    Calls Try.prog 61 #[.slice A o.length c] w fun e w' => ∃ A1 c1,
      e = .returned (.tuple #[.slice A1 (ifB (copiedE o) (copiedS o)).length c1, .int .i64 (copiedE o)]) ∧ Own 5 w' w.heap.size A1 c1 (ifB (copiedE o) (copiedS o)) ∧ Below w.heap.size w w' := by
  have HX := Sec.mk hx
  have lx := hx.len
  clear hx
  by_cases c1 : areaS o = true
  rotate_left
  · have c1' : areaS o = false := by simpa using c1
    have HAR := Sec.mk c1'
    have HE := Sec.mk (show copiedE o = 34 by unfold copiedE; rw [if_neg c1])
    clear c1 c1'
    go_enter Try.func61, Try.ntmps61
    go_wp2_with fail
    refine (options_any o A c _ HX.out hc).mono ?_
    rintro e w4 ⟨rfl, ⟨m4, rfl⟩⟩
    rw [HAR.out]
    go_wp2_with fail
    go_ret2
    exact ⟨none, 0, by rw [HE.out]; rfl, by rw [HE.out]; exact .nil, (below_drewN (Below.refl _ _) _)⟩
  have HAR := Sec.mk c1
  have HE := Sec.mk (show copiedE o = 0 by unfold copiedE; rw [if_pos c1])
  have HS := Sec.mk (CopyAt.start o c1)
  have lo4 := (areaS_len c1).1
  clear c1
  go_enter Try.func61, Try.ntmps61
  go_wp2_with fail
  refine (options_any o A c _ HX.out hc).mono ?_
  rintro e w4 ⟨rfl, ⟨m4, rfl⟩⟩
  rw [HAR.out]
  have HB4 := Sec.mk (below_drewN (Below.refl w.heap.size w) m4)
  obtain ⟨w4, hw4⟩ : ∃ w4, w4 = w.drewN m4 := ⟨_, rfl⟩
  rw [← hw4] at HB4 ⊢
  clear hw4
  go_wp2_with fail
  go_loopw [4, 5] (fun v i wr => ∃ (n : Nat) (k : Int) (A1 : Option Addr) (c1 : Nat) (zs : List UInt8), 0 ≤ k ∧ k ≤ o.length ∧ i = .int .i64 k ∧ v = .slice A1 zs.length c1 ∧ Sec (CopyAt o n k zs) ∧ Sec (Own 5 wr w.heap.size A1 c1 zs) ∧ Sec (Below w.heap.size w wr)) (fun _ i _ => o.length - (intOf i).toNat)
  case atStart => exact ⟨o.length + 1, 0, none, 0, [], by omega, by omega, rfl, rfl, HS, ⟨.nil⟩, HB4⟩
  case round =>
    obtain ⟨n, k, A1, c1, zs, hk0, hk, rfl, rfl, HC, HO, HB⟩ := hrel
    by_cases hend : k < (o.length : Int) ∧ rb o k ≠ 0
    · obtain ⟨hlt, hz⟩ := hend
      have hltb : decide (k < (o.length : Int)) = true := decide_eq_true hlt
      obtain ⟨ad, rfl, ha⟩ := (HX.out.below HB.out).get k hk0 hlt
      obtain ⟨m, hN⟩ := HC.out.next hlt
      obtain ⟨_, _, _, hj1, hj2⟩ := HC.out.pos hlt
      have HN := Sec.mk hN
      have zl : (zs.length : Int) ≤ 40 := by have := HC.out.len; omega
      have b0 := rb_lo o k
      have b1 := rb_hi o k
      have hzb : (rb o k != 0) = true := bne_iff_ne.mpr hz
      have han := and8_128 (rb o k) b0 b1
      clear hN
      by_cases h1 : rb o k = 1
      · have h1b : (rb o k != 1) = false := bne_eq_false_iff_eq.mpr h1
        have hdb : (rb o k / 128 * 128 != 0) = false := bne_eq_false_iff_eq.mpr (by omega)
        have HN2 : Sec (CopyAt o m (k + 1) zs) := ⟨by have := HN.out; rwa [if_neg (show ¬ rb o k ≥ 128 by omega), List.append_nil, HC.out.nop h1] at this⟩
        clear h1 hz hj1 hj2
        go_wp2_with fail
        go_roundw
        case rel => exact ⟨m, k + 1, A1, c1, zs, by omega, by omega, rfl, rfl, HN2, HO, HB⟩
        case measure => simp [intOf]; omega
      · have h1b : (rb o k != 1) = true := bne_iff_ne.mpr h1
        obtain ⟨g1, g2, g3, g4⟩ := HC.out.long hlt hz h1
        have l0 : 0 ≤ k + 1 := by omega
        obtain ⟨ad', e, hb⟩ := (HX.out.below HB.out).get (k + 1) l0 g1
        injection e with e
        subst e
        have b2 := rb_lo o (k + 1)
        have b3 := rb_hi o (k + 1)
        have HG := Sec.mk g4
        clear h1 hz hj1 hj2 g4
        by_cases hcc : 128 ≤ rb o k
        · have hdb : (rb o k / 128 * 128 != 0) = true := bne_iff_ne.mpr (by omega)
          obtain ⟨r, hr⟩ : ∃ r, r = rb o (k + 1) := ⟨_, rfl⟩
          rw [← hr] at hb HG b2 b3 g2 g3
          have HR := Sec.mk hr
          obtain ⟨BA, bc, bs, HBS, hbl, HRB, hbc, hcut⟩ := cut_lohi (P := Try.prog) Try.underlying30 byteInfo HX.out hc .i64 .i64 k (k + r) hk0 (by omega) g3
          have HN2 : Sec (CopyAt o m (k + r) (zs ++ bs)) := ⟨by have := HN.out; rwa [if_pos hcc, HG.out, ← HBS.out] at this⟩
          have HBL : Sec (bs.length ≤ 40) := ⟨by omega⟩
          clear hr hcc hbl
          go_wp2_with (first
            | (at_builtin; refine app_step (w0 := w) w.heap.size rfl (.tmp 38) (.tmp 44) 30 5 rfl Try.underlying30 byteInfo A1 c1 zs BA bc bs _ _ rfl rfl rfl rfl HO.out (HRB.out.below HB.out) HB.out HB.out.size (by have := HBL.out; omega) ?_
               intro A3 c3 w3 us hu3 ho3 hb3 hs3))
          go_roundw
          case rel => exact ⟨m, k + r, A3, c3, us, by omega, by omega, rfl, rfl, ⟨by rw [hu3.out]; exact HN2.out⟩, ⟨ho3⟩, ⟨hb3⟩⟩
          case measure => simp [intOf]; omega
        · have hdb : (rb o k / 128 * 128 != 0) = false := bne_eq_false_iff_eq.mpr (by omega)
          have HN2 : Sec (CopyAt o m (k + rb o (k + 1)) zs) := ⟨by have := HN.out; rwa [if_neg hcc, List.append_nil, HG.out] at this⟩
          clear hcc
          go_wp2_with fail
          go_roundw
          case rel => exact ⟨m, k + rb o (k + 1), A1, c1, zs, by omega, by omega, rfl, rfl, HN2, HO, HB⟩
          case measure => simp [intOf]; omega
    · have HP : Sec (pad4 zs = copiedS o) := ⟨by
        by_cases hlt : k < (o.length : Int)
        · exact pad_in (HC.out.zero hlt (by by_cases hz : rb o k = 0; exact hz; exact absurd ⟨hlt, hz⟩ hend))
        · exact pad_in (HC.out.end (by omega))⟩
      have zl : (zs.length : Int) ≤ 40 := by have := HC.out.len; omega
      by_cases hlt : k < (o.length : Int)
      · have hz : rb o k = 0 := by by_cases hz : rb o k = 0; exact hz; exact absurd ⟨hlt, hz⟩ hend
        have hltb : decide (k < (o.length : Int)) = true := decide_eq_true hlt
        obtain ⟨ad, rfl, ha⟩ := (HX.out.below HB.out).get k hk0 hlt
        have hzb : (rb o k != 0) = false := bne_eq_false_iff_eq.mpr hz
        have b0 := rb_lo o k
        clear hz hend
        go_wp2_with fail
        go_loopw [4] (fun v wr => ∃ (A2 : Option Addr) (c2 : Nat) (ys : List UInt8), v = .slice A2 ys.length c2 ∧ Sec (pad4 ys = copiedS o) ∧ (ys.length : Int) ≤ 40 ∧ Sec (Own 5 wr w.heap.size A2 c2 ys) ∧ Sec (Below w.heap.size w wr)) (fun v _ => (4 - sl v % 4) % 4)
        case atStart => exact ⟨A1, c1, zs, rfl, HP, zl, HO, HB⟩
        case round =>
          obtain ⟨A2, c2, ys, rfl, HY, yl, HO2, HB2⟩ := hrel
          by_cases h4 : (ys.length : Int) % 4 = 0
          · have h4b : ((ys.length : Int) % 4 != 0) = false := bne_eq_false_iff_eq.mpr h4
            have HF : Sec (ys = copiedS o) := ⟨by rw [← HY.out]; exact (pad4_done ys (by omega)).symm⟩
            clear h4
            go_wp2
            go_ret2
            refine ⟨A2, c2, by rw [HE.out, ifB_ok _ rfl, ← HF.out]; rfl, ?_, HB2.out⟩
            rw [HE.out, ifB_ok _ rfl, ← HF.out]
            exact HO2.out
          · have h4b : ((ys.length : Int) % 4 != 0) = true := bne_iff_ne.mpr h4
            have hmod : ys.length % 4 ≠ 0 := by omega
            have HM := Sec.mk hmod
            have HY2 := Sec.mk (pad4_step ys hmod)
            have hle : (ys.length : Int) ≤ 39 := by omega
            clear h4 hmod
            go_wp2_with (first
              | (at_builtin; refine app_one w.heap.size rfl (.tmp 53) (.tmp 54) 30 5 rfl Try.underlying30 byteInfo A2 c2 ys 0 ys.length rfl (by omega) (by omega) rfl rfl HO2.out HB2.out HB2.out.size (by omega) ?_
                 intro A3 c3 w3 us hu3 ho3 hb3 hs3))
            go_roundw
            case rel => exact ⟨A3, c3, us, rfl, ⟨by rw [hu3.out, show u8 0 = 0 from rfl, HY2.out]; exact HY.out⟩, by rw [hu3.out, List.length_append]; simp; omega, ⟨ho3⟩, ⟨hb3⟩⟩
            case measure =>
              have := congrArg List.length hu3.out
              rw [List.length_append] at this
              have := HM.out
              simp only [sl, List.length_singleton] at *
              omega
      · have hltb : decide (k < (o.length : Int)) = false := decide_eq_false hlt
        clear hend
        go_wp2_with fail
        go_loopw [4] (fun v wr => ∃ (A2 : Option Addr) (c2 : Nat) (ys : List UInt8), v = .slice A2 ys.length c2 ∧ Sec (pad4 ys = copiedS o) ∧ (ys.length : Int) ≤ 40 ∧ Sec (Own 5 wr w.heap.size A2 c2 ys) ∧ Sec (Below w.heap.size w wr)) (fun v _ => (4 - sl v % 4) % 4)
        case atStart => exact ⟨A1, c1, zs, rfl, HP, zl, HO, HB⟩
        case round =>
          obtain ⟨A2, c2, ys, rfl, HY, yl, HO2, HB2⟩ := hrel
          by_cases h4 : (ys.length : Int) % 4 = 0
          · have h4b : ((ys.length : Int) % 4 != 0) = false := bne_eq_false_iff_eq.mpr h4
            have HF : Sec (ys = copiedS o) := ⟨by rw [← HY.out]; exact (pad4_done ys (by omega)).symm⟩
            clear h4
            go_wp2
            go_ret2
            refine ⟨A2, c2, by rw [HE.out, ifB_ok _ rfl, ← HF.out]; rfl, ?_, HB2.out⟩
            rw [HE.out, ifB_ok _ rfl, ← HF.out]
            exact HO2.out
          · have h4b : ((ys.length : Int) % 4 != 0) = true := bne_iff_ne.mpr h4
            have hmod : ys.length % 4 ≠ 0 := by omega
            have HM := Sec.mk hmod
            have HY2 := Sec.mk (pad4_step ys hmod)
            have hle : (ys.length : Int) ≤ 39 := by omega
            clear h4 hmod
            go_wp2_with (first
              | (at_builtin; refine app_one w.heap.size rfl (.tmp 53) (.tmp 54) 30 5 rfl Try.underlying30 byteInfo A2 c2 ys 0 ys.length rfl (by omega) (by omega) rfl rfl HO2.out HB2.out HB2.out.size (by omega) ?_
                 intro A3 c3 w3 us hu3 ho3 hb3 hs3))
            go_roundw
            case rel => exact ⟨A3, c3, us, rfl, ⟨by rw [hu3.out, show u8 0 = 0 from rfl, HY2.out]; exact HY.out⟩, by rw [hu3.out, List.length_append]; simp; omega, ⟨ho3⟩, ⟨hb3⟩⟩
            case measure =>
              have := congrArg List.length hu3.out
              rw [List.length_append] at this
              have := HM.out
              simp only [sl, List.length_singleton] at *
              omega

end Go.Proofs.Ytdjldipiggfjdaa
