/-
  LAYER 3's second writing: a packet is read: by contract, in any world. Conditions: readable bytes.
-/
import Derived.Test.YtdjldipiggfjdaaRBuild
import Derived.Test.YtdjldipiggfjdaaDrift
import Derived.IntWalk
namespace Go.Proofs.Ytdjldipiggfjdaa
open Go.RowKit
set_option linter.unusedVariables false
set_option linter.unusedSimpArgs false

/-- The three top bits of the word at 6. -/
theorem top6 (b : List UInt8) : rb b 6 / 32 = w2 b 6 / 8192 := by
  have h0 := rb_lo b (6 + 1)
  have h1 := rb_hi b (6 + 1)
  unfold w2
  omega

set_option maxHeartbeats 12800000 in
set_option maxRecDepth 100000 in
theorem rread_any (b : List UInt8) (A : Option Addr) (c : Nat) (whole : Bool) (w : World) (hx : RD w A b) (hc : b.length ≤ c) :
    Calls Try.prog 98 #[.slice A b.length c, .bool whole] w fun e w' => ∃ A1 c1 A2 c2,
      e = .returned (.tuple #[.agg (pcells (ifH (parseE b whole) (hdS b)) A1 (ifH (parseE b whole) (hdS b)).opts.length c1 A2 (ifB (parseE b whole) (bodyS b)).length c2), .int .i64 (parseE b whole)]) ∧
      Own 5 w' w.heap.size A1 c1 (ifH (parseE b whole) (hdS b)).opts ∧ Own 5 w' w.heap.size A2 c2 (ifB (parseE b whole) (bodyS b)) ∧ Below w.heap.size w w' := by
  have HX := Sec.mk hx
  have lx := hx.len
  clear hx
  by_cases c1 : frontE b whole = 0
  rotate_left
  · have HE := Sec.mk (show parseE b whole = frontE b whole by unfold parseE; rw [if_neg c1])
    obtain ⟨E, hE⟩ : ∃ E, E = frontE b whole := ⟨_, rfl⟩
    have HEE := Sec.mk hE
    have c1b : (E != 0) = true := bne_iff_ne.mpr (by rw [hE]; exact c1)
    have HEN := Sec.mk c1
    have HZ := Sec.mk (fun x => ifz_no (e := E) x (by rw [hE]; exact c1))
    clear c1 hE
    go_enter Try.func98, Try.ntmps98
    go_wp2_with (first
      | (with_reducible refine al_step w.heap.size rfl 4 rfl 37 rfl _ pktZero (Below.refl _ _) (Nat.le_refl _) ?_; intro gA w1 hgA hkA hb0 hb1 hs1)
      | (with_reducible refine al_step w.heap.size rfl 6 rfl 37 rfl _ pktZero hb1 hb1.size ?_; intro gB w2 hgB hkB hb20 hb2 hs2
         have hAB : gA < gB := Nat.lt_of_lt_of_le hkA.lt hgB
         have hkA := hkA.below hb20))
    refine (front_any b _ c whole _ (HX.out.below hb2)).mono ?_
    rintro e w3 ⟨rfl, ⟨m1, rfl⟩⟩
    have hkA := hkA.drewN m1
    have hkB := hkB.drewN m1
    have hb3 := below_drewN hb2 m1
    clear hb0 hb1 hs1 hb20 hb2 hs2
    rw [← HEE.out, HZ.out, HZ.out]
    go_wp2_with (first
      | (with_reducible refine ld_row rfl 37 (.tmp 6) rfl gB rfl 37 _ (by repeat (first | exact hkB | refine Blk.drewN ?_ _ | refine Blk.alloc ?_ _)) _ Try.underlying37 rfl (pktSize' _ _ _ _ _ _ _) ?_)
      | (with_reducible refine st_row (w0 := w) w.heap.size rfl 37 (.tmp 4) _ rfl gA _ rfl rfl 37 _ (by repeat (first | exact hkA | refine Blk.drewN ?_ _ | refine Blk.alloc ?_ _)) (pktSize' _ _ _ _ _ _ _) (pcells_sizes _ _ _ _ _ _ _ _ _ _ _ _ _ _) (pcells_one _ _ _ _ _ _ _) (by repeat (first | exact hb3 | refine below_drewN ?_ _ | refine below_new ?_ _)) hgA ?_
         intro w9 hk9 hb9 hf9 hs9))
    refine bodyPost_ret (res_ct rfl rfl hk9 Try.underlying37 rfl (pktSize' _ _ _ _ _ _ _)) rfl ⟨none, 0, none, 0, ?_, ?_, ?_, hb9⟩
    rw [HE.out, ifH_no _ HEN.out, ifB_no _ HEN.out, ← HEE.out]
    rfl
    rw [HE.out, ifH_no _ HEN.out]
    exact .nil
    rw [HE.out, ifB_no _ HEN.out]
    exact .nil
  have hf := frontE_ok c1
  have C1 := Sec.mk c1
  obtain ⟨f1, f2, f3, f4, f5, f6⟩ := hf
  have f7 := headS_hi b
  obtain ⟨h, hh⟩ : ∃ h, h = headS b := ⟨_, rfl⟩
  obtain ⟨t, ht⟩ : ∃ t, t = w2 b 2 := ⟨_, rfl⟩
  have t1 := w2_hi b 2
  rw [← ht] at t1 f5 f6
  rw [← hh] at f3 f4 f5 f7
  have HH := Sec.mk hh
  have HT := Sec.mk ht
  clear c1 f2 f6 hh ht
  have q1 : (1 : Int) < b.length := by omega
  have q6 : (6 : Int) < b.length := by omega
  have q8 : (8 : Int) < b.length := by omega
  have q9 : (9 : Int) < b.length := by omega
  obtain ⟨ad, hA, i1⟩ := HX.out.lit 1 1 rfl (by omega) (by omega)
  subst hA
  have I1 := Sec.mk i1
  have I6 := Sec.mk (HX.out.lit_ 6 6 rfl (by omega) (by omega))
  have I8 := Sec.mk (HX.out.lit_ 8 8 rfl (by omega) (by omega))
  have I9 := Sec.mk (HX.out.lit_ 9 9 rfl (by omega) (by omega))
  clear i1
  obtain ⟨ys, HYS, hyl, HRY, hyc, hcut⟩ := cut_hi (P := Try.prog) Try.underlying30 byteInfo HX.out hc .i64 h (by omega) f4
  have HYL := Sec.mk hyl
  have hyl2 : ys.length ≤ 140737488351232 := HRY.out.len
  clear hyl
  by_cases c2 : sumS ys = 0
  rotate_left
  · have HE := Sec.mk (show parseE b whole = 33 by unfold parseE; rw [if_pos C1.out, ← HH.out, ← HYS.out, if_neg c2])
    have c2b : (sumS ys != 0) = true := bne_iff_ne.mpr c2
    clear c2
    go_enter Try.func98, Try.ntmps98
    go_wp2_with (first
      | (with_reducible refine al_step w.heap.size rfl 4 rfl 37 rfl _ pktZero (Below.refl _ _) (Nat.le_refl _) ?_; intro gA w1 hgA hkA hb0 hb1 hs1)
      | (with_reducible refine al_step w.heap.size rfl 6 rfl 37 rfl _ pktZero hb1 hb1.size ?_; intro gB w2 hgB hkB hb20 hb2 hs2
         have hAB : gA < gB := Nat.lt_of_lt_of_le hkA.lt hgB
         have hkA := hkA.below hb20))
    refine (front_any b _ c whole _ (HX.out.below hb2)).mono ?_
    rintro e w3 ⟨rfl, ⟨m1, rfl⟩⟩
    have hkA := hkA.drewN m1
    have hkB := hkB.drewN m1
    have hb3 := below_drewN hb2 m1
    clear hb0 hb1 hs1 hb20 hb2 hs2
    rw [C1.out, ifz_ok _ rfl, ifz_ok _ rfl, ← HH.out, ← HT.out]
    go_wp2_with fail
    refine (rsum_any [ys] _ _ _ (RDs.alloc1 (by simp) 30 hyc (HRY.out.below hb3)) (by simp; omega)).mono ?_
    rintro e w4 ⟨rfl, hb4⟩
    rw [show [ys].flatten = ys from by simp]
    have hkA := (hkA.alloc (.cells #[.slice (some ad) ys.length c] 30)).below hb4
    have hkB := (hkB.alloc (.cells #[.slice (some ad) ys.length c] 30)).below hb4
    have hb3 := below_on (below_new hb3 (.cells #[.slice (some ad) ys.length c] 30)) hb4
    have i6 := cell_below hb3 I6.out
    go_wp2_with (first
      | (with_reducible refine ld_row rfl 37 (.tmp 6) rfl gB rfl 37 _ (by repeat (first | exact hkB | refine Blk.drewN ?_ _ | refine Blk.alloc ?_ _)) _ Try.underlying37 rfl (pktSize' _ _ _ _ _ _ _) ?_)
      | (with_reducible refine st_row (w0 := w) w.heap.size rfl 37 (.tmp 4) _ rfl gA _ rfl rfl 37 _ (by repeat (first | exact hkA | refine Blk.drewN ?_ _ | refine Blk.alloc ?_ _)) (pktSize' _ _ _ _ _ _ _) (pcells_sizes _ _ _ _ _ _ _ _ _ _ _ _ _ _) (pcells_one _ _ _ _ _ _ _) (by repeat (first | exact hb3 | refine below_drewN ?_ _ | refine below_new ?_ _)) hgA ?_
         intro w9 hk9 hb9 hf9 hs9))
    refine bodyPost_ret (res_ct rfl rfl hk9 Try.underlying37 rfl (pktSize' _ _ _ _ _ _ _)) rfl ⟨none, 0, none, 0, ?_, ?_, ?_, hb9⟩
    rw [HE.out, ifH_no _ (by decide), ifB_no _ (by decide)]
    rfl
    rw [HE.out, ifH_no _ (by decide)]
    exact .nil
    rw [HE.out, ifB_no _ (by decide)]
    exact .nil
  have c2b : (sumS ys != 0) = false := bne_eq_false_iff_eq.mpr c2
  have C2 := Sec.mk c2
  clear c2
  obtain ⟨f, hf6⟩ : ∃ f, f = w2 b 6 := ⟨_, rfl⟩
  have g0 := w2_lo b 6
  have g1 := w2_hi b 6
  rw [← hf6] at g0 g1
  obtain ⟨R, hR⟩ : ∃ R, R = f / 8192 := ⟨_, rfl⟩
  have hr6 : rb b 6 / 32 = R := by rw [hR, hf6]; exact top6 b
  have R0 : 0 ≤ R := by omega
  have R1 : R ≤ 7 := by omega
  have rb0 := rb_lo b 6
  have rb1 := rb_hi b 6
  have HF6 := Sec.mk hf6
  have HR := Sec.mk hR
  clear hf6
  by_cases c3 : f / 32768 = 0
  rotate_left
  · have HE := Sec.mk (show parseE b whole = 32 by unfold parseE; rw [if_pos C1.out, ← HH.out, ← HYS.out, if_pos C2.out, ← HF6.out, if_neg c3])
    have c3b : 4 ≤ R := by omega
    clear c3 hR
    go_enter Try.func98, Try.ntmps98
    go_wp2_with (first
      | (with_reducible refine al_step w.heap.size rfl 4 rfl 37 rfl _ pktZero (Below.refl _ _) (Nat.le_refl _) ?_; intro gA w1 hgA hkA hb0 hb1 hs1)
      | (with_reducible refine al_step w.heap.size rfl 6 rfl 37 rfl _ pktZero hb1 hb1.size ?_; intro gB w2 hgB hkB hb20 hb2 hs2
         have hAB : gA < gB := Nat.lt_of_lt_of_le hkA.lt hgB
         have hkA := hkA.below hb20))
    refine (front_any b _ c whole _ (HX.out.below hb2)).mono ?_
    rintro e w3 ⟨rfl, ⟨m1, rfl⟩⟩
    have hkA := hkA.drewN m1
    have hkB := hkB.drewN m1
    have hb3 := below_drewN hb2 m1
    clear hb0 hb1 hs1 hb20 hb2 hs2
    rw [C1.out, ifz_ok _ rfl, ifz_ok _ rfl, ← HH.out, ← HT.out]
    go_wp2_with fail
    refine (rsum_any [ys] _ _ _ (RDs.alloc1 (by simp) 30 hyc (HRY.out.below hb3)) (by simp; omega)).mono ?_
    rintro e w4 ⟨rfl, hb4⟩
    rw [show [ys].flatten = ys from by simp]
    have hkA := (hkA.alloc (.cells #[.slice (some ad) ys.length c] 30)).below hb4
    have hkB := (hkB.alloc (.cells #[.slice (some ad) ys.length c] 30)).below hb4
    have hb3 := below_on (below_new hb3 (.cells #[.slice (some ad) ys.length c] 30)) hb4
    have i6 := cell_below hb3 I6.out
    go_wp2_with (first
      | (with_reducible refine ld_row rfl 37 (.tmp 6) rfl gB rfl 37 _ (by repeat (first | exact hkB | refine Blk.drewN ?_ _ | refine Blk.alloc ?_ _)) _ Try.underlying37 rfl (pktSize' _ _ _ _ _ _ _) ?_)
      | (with_reducible refine st_row (w0 := w) w.heap.size rfl 37 (.tmp 4) _ rfl gA _ rfl rfl 37 _ (by repeat (first | exact hkA | refine Blk.drewN ?_ _ | refine Blk.alloc ?_ _)) (pktSize' _ _ _ _ _ _ _) (pcells_sizes _ _ _ _ _ _ _ _ _ _ _ _ _ _) (pcells_one _ _ _ _ _ _ _) (by repeat (first | exact hb3 | refine below_drewN ?_ _ | refine below_new ?_ _)) hgA ?_
         intro w9 hk9 hb9 hf9 hs9))
    refine bodyPost_ret (res_ct rfl rfl hk9 Try.underlying37 rfl (pktSize' _ _ _ _ _ _ _)) rfl ⟨none, 0, none, 0, ?_, ?_, ?_, hb9⟩
    rw [HE.out, ifH_no _ (by decide), ifB_no _ (by decide)]
    rfl
    rw [HE.out, ifH_no _ (by decide)]
    exact .nil
    rw [HE.out, ifB_no _ (by decide)]
    exact .nil
  have c3b : R < 4 := by omega
  have C3 := Sec.mk c3
  clear c3
  obtain ⟨OA, oc, os, HOS, hol, HRO, hoc, hcut2⟩ := cut_lohi (P := Try.prog) Try.underlying30 byteInfo HX.out hc .i64 .i64 20 h (by omega) f3 f4
  have HOL := Sec.mk hol
  clear hol
  have HOS2 : Sec (os = (b.take h.toNat).drop 20) := ⟨HOS.out⟩
  by_cases c4 : areaS os = true
  rotate_left
  · have c4' : areaS os = false := by simpa using c4
    have HAR := Sec.mk c4'
    have HE := Sec.mk (show parseE b whole = 34 by unfold parseE; rw [if_pos C1.out, ← HH.out, ← HYS.out, if_pos C2.out, ← HF6.out, if_pos C3.out, HYS.out, ← HOS2.out, if_neg c4])
    clear c4 c4' hR
    go_enter Try.func98, Try.ntmps98
    go_wp2_with (first
      | (with_reducible refine al_step w.heap.size rfl 4 rfl 37 rfl _ pktZero (Below.refl _ _) (Nat.le_refl _) ?_; intro gA w1 hgA hkA hb0 hb1 hs1)
      | (with_reducible refine al_step w.heap.size rfl 6 rfl 37 rfl _ pktZero hb1 hb1.size ?_; intro gB w2 hgB hkB hb20 hb2 hs2
         have hAB : gA < gB := Nat.lt_of_lt_of_le hkA.lt hgB
         have hkA := hkA.below hb20))
    refine (front_any b _ c whole _ (HX.out.below hb2)).mono ?_
    rintro e w3 ⟨rfl, ⟨m1, rfl⟩⟩
    have hkA := hkA.drewN m1
    have hkB := hkB.drewN m1
    have hb3 := below_drewN hb2 m1
    clear hb0 hb1 hs1 hb20 hb2 hs2
    rw [C1.out, ifz_ok _ rfl, ifz_ok _ rfl, ← HH.out, ← HT.out]
    go_wp2_with fail
    refine (rsum_any [ys] _ _ _ (RDs.alloc1 (by simp) 30 hyc (HRY.out.below hb3)) (by simp; omega)).mono ?_
    rintro e w4 ⟨rfl, hb4⟩
    rw [show [ys].flatten = ys from by simp]
    have hkA := (hkA.alloc (.cells #[.slice (some ad) ys.length c] 30)).below hb4
    have hkB := (hkB.alloc (.cells #[.slice (some ad) ys.length c] 30)).below hb4
    have hb3 := below_on (below_new hb3 (.cells #[.slice (some ad) ys.length c] 30)) hb4
    have i6 := cell_below hb3 I6.out
    go_wp2_with fail
    refine (area_any os _ _ _ (HRO.out.below hb3)).mono ?_
    rintro e w5 ⟨rfl, ⟨m5, rfl⟩⟩
    rw [HAR.out]
    go_wp2_with (first
      | (with_reducible refine ld_row rfl 37 (.tmp 6) rfl gB rfl 37 _ (by repeat (first | exact hkB | refine Blk.drewN ?_ _ | refine Blk.alloc ?_ _)) _ Try.underlying37 rfl (pktSize' _ _ _ _ _ _ _) ?_)
      | (with_reducible refine st_row (w0 := w) w.heap.size rfl 37 (.tmp 4) _ rfl gA _ rfl rfl 37 _ (by repeat (first | exact hkA | refine Blk.drewN ?_ _ | refine Blk.alloc ?_ _)) (pktSize' _ _ _ _ _ _ _) (pcells_sizes _ _ _ _ _ _ _ _ _ _ _ _ _ _) (pcells_one _ _ _ _ _ _ _) (by repeat (first | exact hb3 | refine below_drewN ?_ _ | refine below_new ?_ _)) hgA ?_
         intro w9 hk9 hb9 hf9 hs9))
    refine bodyPost_ret (res_ct rfl rfl hk9 Try.underlying37 rfl (pktSize' _ _ _ _ _ _ _)) rfl ⟨none, 0, none, 0, ?_, ?_, ?_, hb9⟩
    rw [HE.out, ifH_no _ (by decide), ifB_no _ (by decide)]
    rfl
    rw [HE.out, ifH_no _ (by decide)]
    exact .nil
    rw [HE.out, ifB_no _ (by decide)]
    exact .nil
  have HAR := Sec.mk c4
  clear c4
  obtain ⟨mf, hmf⟩ : ∃ mf, mf = decide (f / 8192 % 2 = 1) := ⟨_, rfl⟩
  have hmb : (R % 2 == 1) = mf := by rw [hmf, hR]; rfl
  have HMF := Sec.mk hmf
  clear hmf
  by_cases c5 : pieceS (8 * (f % 8192)) (t - h) mf = true
  rotate_left
  · have c5' : pieceS (8 * (f % 8192)) (t - h) mf = false := by simpa using c5
    have HPC := Sec.mk c5'
    have HE := Sec.mk (show parseE b whole = 36 by unfold parseE; rw [if_pos C1.out, ← HH.out, ← HYS.out, if_pos C2.out, ← HF6.out, if_pos C3.out, HYS.out, ← HOS2.out, if_pos HAR.out, ← HT.out, ← HMF.out, if_neg c5])
    clear c5 c5' hR
    go_enter Try.func98, Try.ntmps98
    go_wp2_with (first
      | (with_reducible refine al_step w.heap.size rfl 4 rfl 37 rfl _ pktZero (Below.refl _ _) (Nat.le_refl _) ?_; intro gA w1 hgA hkA hb0 hb1 hs1)
      | (with_reducible refine al_step w.heap.size rfl 6 rfl 37 rfl _ pktZero hb1 hb1.size ?_; intro gB w2 hgB hkB hb20 hb2 hs2
         have hAB : gA < gB := Nat.lt_of_lt_of_le hkA.lt hgB
         have hkA := hkA.below hb20))
    refine (front_any b _ c whole _ (HX.out.below hb2)).mono ?_
    rintro e w3 ⟨rfl, ⟨m1, rfl⟩⟩
    have hkA := hkA.drewN m1
    have hkB := hkB.drewN m1
    have hb3 := below_drewN hb2 m1
    clear hb0 hb1 hs1 hb20 hb2 hs2
    rw [C1.out, ifz_ok _ rfl, ifz_ok _ rfl, ← HH.out, ← HT.out]
    go_wp2_with fail
    refine (rsum_any [ys] _ _ _ (RDs.alloc1 (by simp) 30 hyc (HRY.out.below hb3)) (by simp; omega)).mono ?_
    rintro e w4 ⟨rfl, hb4⟩
    rw [show [ys].flatten = ys from by simp]
    have hkA := (hkA.alloc (.cells #[.slice (some ad) ys.length c] 30)).below hb4
    have hkB := (hkB.alloc (.cells #[.slice (some ad) ys.length c] 30)).below hb4
    have hb3 := below_on (below_new hb3 (.cells #[.slice (some ad) ys.length c] 30)) hb4
    have i6 := cell_below hb3 I6.out
    go_wp2_with fail
    refine (area_any os _ _ _ (HRO.out.below hb3)).mono ?_
    rintro e w5 ⟨rfl, ⟨m5, rfl⟩⟩
    rw [HAR.out]
    go_wp2_with fail
    refine (two_any b (some ad) c 6 _ (HX.out.below (below_drewN hb3 _)) (by omega) (by omega)).mono ?_
    rintro e w6 ⟨rfl, ⟨m6, rfl⟩⟩
    rw [← HF6.out]
    go_wp2_with fail
    refine (piece_any _ _ mf _ (by omega) (by omega) (by omega) (by omega)).mono ?_
    rintro e w7 ⟨rfl, rfl⟩
    rw [HPC.out]
    go_wp2_with (first
      | (with_reducible refine ld_row rfl 37 (.tmp 6) rfl gB rfl 37 _ (by repeat (first | exact hkB | refine Blk.drewN ?_ _ | refine Blk.alloc ?_ _)) _ Try.underlying37 rfl (pktSize' _ _ _ _ _ _ _) ?_)
      | (with_reducible refine st_row (w0 := w) w.heap.size rfl 37 (.tmp 4) _ rfl gA _ rfl rfl 37 _ (by repeat (first | exact hkA | refine Blk.drewN ?_ _ | refine Blk.alloc ?_ _)) (pktSize' _ _ _ _ _ _ _) (pcells_sizes _ _ _ _ _ _ _ _ _ _ _ _ _ _) (pcells_one _ _ _ _ _ _ _) (by repeat (first | exact hb3 | refine below_drewN ?_ _ | refine below_new ?_ _)) hgA ?_
         intro w9 hk9 hb9 hf9 hs9))
    refine bodyPost_ret (res_ct rfl rfl hk9 Try.underlying37 rfl (pktSize' _ _ _ _ _ _ _)) rfl ⟨none, 0, none, 0, ?_, ?_, ?_, hb9⟩
    rw [HE.out, ifH_no _ (by decide), ifB_no _ (by decide)]
    rfl
    rw [HE.out, ifH_no _ (by decide)]
    exact .nil
    rw [HE.out, ifB_no _ (by decide)]
    exact .nil
  have HPC := Sec.mk c5
  have HE := Sec.mk (show parseE b whole = 0 by unfold parseE; rw [if_pos C1.out, ← HH.out, ← HYS.out, if_pos C2.out, ← HF6.out, if_pos C3.out, HYS.out, ← HOS2.out, if_pos HAR.out, ← HT.out, ← HMF.out, if_pos c5])
  clear c5
  obtain ⟨df, hdf⟩ : ∃ df, df = decide (f / 16384 % 2 = 1) := ⟨_, rfl⟩
  have hdb : (R / 2 == 1) = df := by
    rw [hdf, Bool.eq_iff_iff, beq_iff_eq, decide_eq_true_eq]
    omega
  have HDF := Sec.mk hdf
  clear hdf hR
  by_cases hle : t ≤ b.length
  · obtain ⟨BA, bc, bs, HBS, hbl, HRB, hbcc, hcut3⟩ := cut_lohi (P := Try.prog) Try.underlying30 byteInfo HX.out hc .i64 .i64 h t (by omega) f5 hle
    have HBODY : Sec (bodyS b = bs) := ⟨by rw [HBS.out, HT.out, HH.out]; rfl⟩
    have HBL := Sec.mk hbl
    clear hbl
    go_enter Try.func98, Try.ntmps98
    go_wp2_with (first
      | (with_reducible refine al_step w.heap.size rfl 4 rfl 37 rfl _ pktZero (Below.refl _ _) (Nat.le_refl _) ?_; intro gA w1 hgA hkA hb0 hb1 hs1)
      | (with_reducible refine al_step w.heap.size rfl 6 rfl 37 rfl _ pktZero hb1 hb1.size ?_; intro gB w2 hgB hkB hb20 hb2 hs2
         have hAB : gA < gB := Nat.lt_of_lt_of_le hkA.lt hgB
         have hkA := hkA.below hb20))
    refine (front_any b _ c whole _ (HX.out.below hb2)).mono ?_
    rintro e w3 ⟨rfl, ⟨m1, rfl⟩⟩
    have hkA := hkA.drewN m1
    have hkB := hkB.drewN m1
    have hb3 := below_drewN hb2 m1
    clear hb0 hb1 hs1 hb20 hb2 hs2
    rw [C1.out, ifz_ok _ rfl, ifz_ok _ rfl, ← HH.out, ← HT.out]
    go_wp2_with fail
    refine (rsum_any [ys] _ _ _ (RDs.alloc1 (by simp) 30 hyc (HRY.out.below hb3)) (by simp; omega)).mono ?_
    rintro e w4 ⟨rfl, hb4⟩
    rw [show [ys].flatten = ys from by simp]
    have hkA := (hkA.alloc (.cells #[.slice (some ad) ys.length c] 30)).below hb4
    have hkB := (hkB.alloc (.cells #[.slice (some ad) ys.length c] 30)).below hb4
    have hb3 := below_on (below_new hb3 (.cells #[.slice (some ad) ys.length c] 30)) hb4
    have i6 := cell_below hb3 I6.out
    go_wp2_with fail
    refine (area_any os _ _ _ (HRO.out.below hb3)).mono ?_
    rintro e w5 ⟨rfl, ⟨m5, rfl⟩⟩
    rw [HAR.out]
    go_wp2_with fail
    refine (two_any b (some ad) c 6 _ (HX.out.below (below_drewN hb3 _)) (by omega) (by omega)).mono ?_
    rintro e w6 ⟨rfl, ⟨m6, rfl⟩⟩
    rw [← HF6.out]
    go_wp2_with fail
    refine (piece_any _ _ mf _ (by omega) (by omega) (by omega) (by omega)).mono ?_
    rintro e w7 ⟨rfl, rfl⟩
    rw [HPC.out]
    go_wp2_with (with_reducible refine al_own (w0 := w) rfl 12 rfl 37 rfl _ pktZero (by repeat (first | exact hb3 | refine below_drewN ?_ _)) ?_; intro gC w8 hgC0 hkC hb80 hb8 hs8
                 have hkA8 := (show Blk _ gA 37 (pcells Hd.zero none 0 0 none 0 0) from by repeat (first | exact hkA | refine Blk.drewN ?_ _)).below hb80
                 have hAC : gA < gC := Nat.lt_of_lt_of_le (show Blk _ gA 37 (pcells Hd.zero none 0 0 none 0 0) from by repeat (first | exact hkA | refine Blk.drewN ?_ _)).lt hgC0
                 have hgC : w.heap.size ≤ gC := Nat.le_trans (show Below w.heap.size w _ from (by repeat (first | exact hb3 | refine below_drewN ?_ _))).size hgC0)
    clear hkA hkB hb3
    have hlt8 : gC < w8.heap.size := hkC.lt
    have HSG : Sec (∀ W W' : World, (Below gC w8 W ∧ gC ≤ W.heap.size) → Grew W W' → (Below gC w8 W' ∧ gC ≤ W'.heap.size)) := ⟨fun W W' h k => ⟨h.1.trans (Below.mono k h.2), Nat.le_trans h.2 k.size⟩⟩
    refine wp_region_drift (fun W => Below gC w8 W ∧ gC ≤ W.heap.size) (by kernel_rfl) ?_
    change wpD _ _ _ _ _ _ _ _ w8.drew
    have u1 := w2_lo b 4
    have u2 := w2_hi b 4
    have u3 := w4_lo b 12
    have u4 := w4_hi b 12
    have u5 := w4_lo b 16
    have u6 := w4_hi b 16
    have l4 : (4 : Int) + 1 < b.length := by omega
    have l12 : (12 : Int) + 3 < b.length := by omega
    have l16 : (16 : Int) + 3 < b.length := by omega
    have x1 : IntKind.u16.wrap (Go.Proofs.Ytdjldipiggfjdaa.w2 b 4) = Go.Proofs.Ytdjldipiggfjdaa.w2 b 4 := Go.IntWalk.u16_in _ (by omega)
    have x2 : IntKind.i64.wrap (R.tdiv 2) = R / 2 := by rw [Int.tdiv_eq_ediv_of_nonneg R0]; exact Go.IntWalk.i64_in _ (by omega)
    have x3 : R.tmod 2 = R % 2 := Int.tmod_eq_emod_of_nonneg R0
    have x4 : IntKind.u32.wrap (Go.Proofs.Ytdjldipiggfjdaa.w4 b 12) = Go.Proofs.Ytdjldipiggfjdaa.w4 b 12 := Go.IntWalk.u32_in _ (by omega)
    have x5 : IntKind.u32.wrap (Go.Proofs.Ytdjldipiggfjdaa.w4 b 16) = Go.Proofs.Ytdjldipiggfjdaa.w4 b 16 := Go.IntWalk.u32_in _ (by omega)
    have hS0 : Below gC w8 w8.drew ∧ gC ≤ w8.drew.heap.size := ⟨(Below.refl _ _).drew, Nat.le_of_lt hlt8⟩
    refine wpD_take (i := 0) (v := ?_) rfl (by kernel_rfl) (by kernel_rfl) (by kernel_rfl) (fun _ _ _ h => h) HSG.out hS0 ⟨by rfl, fun W hW => ?_⟩ ?_
    rotate_left
    · have j1 := cell_below (hb8.trans (hW.1.mono hgC)) I1.out
      have j8 := cell_below (hb8.trans (hW.1.mono hgC)) I8.out
      have j9 := cell_below (hb8.trans (hW.1.mono hgC)) I9.out
      first | (go_simp; done) | (go_simp; with_reducible rfl)
    refine wpD_take (i := 1) (v := ?_) rfl (by kernel_rfl) (by kernel_rfl) (by kernel_rfl) (fun _ _ _ h => h) HSG.out hS0 ⟨by rfl, fun W hW => ?_⟩ ?_
    rotate_left
    · have j1 := cell_below (hb8.trans (hW.1.mono hgC)) I1.out
      have j8 := cell_below (hb8.trans (hW.1.mono hgC)) I8.out
      have j9 := cell_below (hb8.trans (hW.1.mono hgC)) I9.out
      first | (go_simp; done) | (go_simp; with_reducible rfl)
    refine wpD_take (i := 2) (v := ?_) rfl (by kernel_rfl) (by kernel_rfl) (by kernel_rfl) (fun _ _ _ h => h) HSG.out hS0 ⟨by rfl, fun W hW => ?_⟩ ?_
    rotate_left
    · have j1 := cell_below (hb8.trans (hW.1.mono hgC)) I1.out
      have j8 := cell_below (hb8.trans (hW.1.mono hgC)) I8.out
      have j9 := cell_below (hb8.trans (hW.1.mono hgC)) I9.out
      first | (go_simp; done) | (go_simp; with_reducible rfl)
    refine wpD_take (i := 3) (v := ?_) rfl (by kernel_rfl) (by kernel_rfl) (by kernel_rfl) (fun _ _ _ h => h) HSG.out hS0 ⟨by rfl, fun W hW => ?_⟩ ?_
    rotate_left
    · have j1 := cell_below (hb8.trans (hW.1.mono hgC)) I1.out
      have j8 := cell_below (hb8.trans (hW.1.mono hgC)) I8.out
      have j9 := cell_below (hb8.trans (hW.1.mono hgC)) I9.out
      first | (go_simp; done) | (go_simp; with_reducible rfl)
    refine wpD_take (i := 4) (v := .int .i64 (Go.Proofs.Ytdjldipiggfjdaa.w2 b 4)) rfl (by kernel_rfl) (by kernel_rfl) (by kernel_rfl) (fun _ _ _ h => h) HSG.out hS0 ⟨by rfl, fun W hW => ?_⟩ ?_
    · have j1 := cell_below (hb8.trans (hW.1.mono hgC)) I1.out
      have j8 := cell_below (hb8.trans (hW.1.mono hgC)) I8.out
      have j9 := cell_below (hb8.trans (hW.1.mono hgC)) I9.out
      go_simp
      exact (two_any b _ c _ W (HX.out.below (hb8.trans (hW.1.mono hgC))) (by decide) (by assumption)).mono fun _ _ h => ⟨h.1, h.2.below⟩
    refine wpD_take (i := 5) (v := ?_) rfl (by kernel_rfl) (by kernel_rfl) (by kernel_rfl) (fun _ _ _ h => h) HSG.out hS0 ⟨by rfl, fun W hW => ?_⟩ ?_
    rotate_left
    · have j1 := cell_below (hb8.trans (hW.1.mono hgC)) I1.out
      have j8 := cell_below (hb8.trans (hW.1.mono hgC)) I8.out
      have j9 := cell_below (hb8.trans (hW.1.mono hgC)) I9.out
      first | (go_simp; done) | (go_simp; with_reducible rfl)
    refine wpD_take (i := 6) (v := ?_) rfl (by kernel_rfl) (by kernel_rfl) (by kernel_rfl) (fun _ _ _ h => h) HSG.out hS0 ⟨by rfl, fun W hW => ?_⟩ ?_
    rotate_left
    · have j1 := cell_below (hb8.trans (hW.1.mono hgC)) I1.out
      have j8 := cell_below (hb8.trans (hW.1.mono hgC)) I8.out
      have j9 := cell_below (hb8.trans (hW.1.mono hgC)) I9.out
      first | (go_simp; done) | (go_simp; with_reducible rfl)
    refine wpD_take (i := 7) (v := ?_) rfl (by kernel_rfl) (by kernel_rfl) (by kernel_rfl) (fun _ _ _ h => h) HSG.out hS0 ⟨by rfl, fun W hW => ?_⟩ ?_
    rotate_left
    · have j1 := cell_below (hb8.trans (hW.1.mono hgC)) I1.out
      have j8 := cell_below (hb8.trans (hW.1.mono hgC)) I8.out
      have j9 := cell_below (hb8.trans (hW.1.mono hgC)) I9.out
      first | (go_simp; done) | (go_simp; with_reducible rfl)
    refine wpD_take (i := 8) (v := ?_) rfl (by kernel_rfl) (by kernel_rfl) (by kernel_rfl) (fun _ _ _ h => h) HSG.out hS0 ⟨by rfl, fun W hW => ?_⟩ ?_
    rotate_left
    · have j1 := cell_below (hb8.trans (hW.1.mono hgC)) I1.out
      have j8 := cell_below (hb8.trans (hW.1.mono hgC)) I8.out
      have j9 := cell_below (hb8.trans (hW.1.mono hgC)) I9.out
      first | (go_simp; done) | (go_simp; with_reducible rfl)
    refine wpD_take (i := 9) (v := ?_) rfl (by kernel_rfl) (by kernel_rfl) (by kernel_rfl) (fun _ _ _ h => h) HSG.out hS0 ⟨by rfl, fun W hW => ?_⟩ ?_
    rotate_left
    · have j1 := cell_below (hb8.trans (hW.1.mono hgC)) I1.out
      have j8 := cell_below (hb8.trans (hW.1.mono hgC)) I8.out
      have j9 := cell_below (hb8.trans (hW.1.mono hgC)) I9.out
      first | (go_simp; done) | (go_simp; with_reducible rfl)
    refine wpD_take (i := 10) (v := ?_) rfl (by kernel_rfl) (by kernel_rfl) (by kernel_rfl) (fun _ _ _ h => h) HSG.out hS0 ⟨by rfl, fun W hW => ?_⟩ ?_
    rotate_left
    · have j1 := cell_below (hb8.trans (hW.1.mono hgC)) I1.out
      have j8 := cell_below (hb8.trans (hW.1.mono hgC)) I8.out
      have j9 := cell_below (hb8.trans (hW.1.mono hgC)) I9.out
      first | (go_simp; done) | (go_simp; with_reducible rfl)
    refine wpD_take (i := 11) (v := ?_) rfl (by kernel_rfl) (by kernel_rfl) (by kernel_rfl) (fun _ _ _ h => h) HSG.out hS0 ⟨by rfl, fun W hW => ?_⟩ ?_
    rotate_left
    · have j1 := cell_below (hb8.trans (hW.1.mono hgC)) I1.out
      have j8 := cell_below (hb8.trans (hW.1.mono hgC)) I8.out
      have j9 := cell_below (hb8.trans (hW.1.mono hgC)) I9.out
      first | (go_simp; done) | (go_simp; with_reducible rfl)
    refine wpD_take (i := 12) (v := ?_) rfl (by kernel_rfl) (by kernel_rfl) (by kernel_rfl) (fun _ _ _ h => h) HSG.out hS0 ⟨by rfl, fun W hW => ?_⟩ ?_
    rotate_left
    · have j1 := cell_below (hb8.trans (hW.1.mono hgC)) I1.out
      have j8 := cell_below (hb8.trans (hW.1.mono hgC)) I8.out
      have j9 := cell_below (hb8.trans (hW.1.mono hgC)) I9.out
      first | (go_simp; done) | (go_simp; with_reducible rfl)
    refine wpD_take (i := 13) (v := ?_) rfl (by kernel_rfl) (by kernel_rfl) (by kernel_rfl) (fun _ _ _ h => h) HSG.out hS0 ⟨by rfl, fun W hW => ?_⟩ ?_
    rotate_left
    · have j1 := cell_below (hb8.trans (hW.1.mono hgC)) I1.out
      have j8 := cell_below (hb8.trans (hW.1.mono hgC)) I8.out
      have j9 := cell_below (hb8.trans (hW.1.mono hgC)) I9.out
      first | (go_simp; done) | (go_simp; with_reducible rfl)
    refine wpD_take (i := 14) (v := ?_) rfl (by kernel_rfl) (by kernel_rfl) (by kernel_rfl) (fun _ _ _ h => h) HSG.out hS0 ⟨by rfl, fun W hW => ?_⟩ ?_
    rotate_left
    · have j1 := cell_below (hb8.trans (hW.1.mono hgC)) I1.out
      have j8 := cell_below (hb8.trans (hW.1.mono hgC)) I8.out
      have j9 := cell_below (hb8.trans (hW.1.mono hgC)) I9.out
      first | (go_simp; done) | (go_simp; with_reducible rfl)
    refine wpD_take (i := 15) (v := ?_) rfl (by kernel_rfl) (by kernel_rfl) (by kernel_rfl) (fun _ _ _ h => h) HSG.out hS0 ⟨by rfl, fun W hW => ?_⟩ ?_
    rotate_left
    · have j1 := cell_below (hb8.trans (hW.1.mono hgC)) I1.out
      have j8 := cell_below (hb8.trans (hW.1.mono hgC)) I8.out
      have j9 := cell_below (hb8.trans (hW.1.mono hgC)) I9.out
      first | (go_simp; done) | (go_simp; with_reducible rfl)
    refine wpD_take (i := 16) (v := ?_) rfl (by kernel_rfl) (by kernel_rfl) (by kernel_rfl) (fun _ _ _ h => h) HSG.out hS0 ⟨by rfl, fun W hW => ?_⟩ ?_
    rotate_left
    · have j1 := cell_below (hb8.trans (hW.1.mono hgC)) I1.out
      have j8 := cell_below (hb8.trans (hW.1.mono hgC)) I8.out
      have j9 := cell_below (hb8.trans (hW.1.mono hgC)) I9.out
      first | (go_simp; done) | (go_simp; with_reducible rfl)
    refine wpD_take (i := 17) (v := ?_) rfl (by kernel_rfl) (by kernel_rfl) (by kernel_rfl) (fun _ _ _ h => h) HSG.out hS0 ⟨by rfl, fun W hW => ?_⟩ ?_
    rotate_left
    · have j1 := cell_below (hb8.trans (hW.1.mono hgC)) I1.out
      have j8 := cell_below (hb8.trans (hW.1.mono hgC)) I8.out
      have j9 := cell_below (hb8.trans (hW.1.mono hgC)) I9.out
      first | (go_simp; done) | (go_simp; with_reducible rfl)
    refine wpD_take (i := 18) (v := ?_) rfl (by kernel_rfl) (by kernel_rfl) (by kernel_rfl) (fun _ _ _ h => h) HSG.out hS0 ⟨by rfl, fun W hW => ?_⟩ ?_
    rotate_left
    · have j1 := cell_below (hb8.trans (hW.1.mono hgC)) I1.out
      have j8 := cell_below (hb8.trans (hW.1.mono hgC)) I8.out
      have j9 := cell_below (hb8.trans (hW.1.mono hgC)) I9.out
      first | (go_simp; done) | (go_simp; with_reducible rfl)
    refine wpD_take (i := 19) (v := ?_) rfl (by kernel_rfl) (by kernel_rfl) (by kernel_rfl) (fun _ _ _ h => h) HSG.out hS0 ⟨by rfl, fun W hW => ?_⟩ ?_
    rotate_left
    · have j1 := cell_below (hb8.trans (hW.1.mono hgC)) I1.out
      have j8 := cell_below (hb8.trans (hW.1.mono hgC)) I8.out
      have j9 := cell_below (hb8.trans (hW.1.mono hgC)) I9.out
      first | (go_simp; done) | (go_simp; with_reducible rfl)
    refine wpD_take (i := 20) (v := .int .i64 (Go.Proofs.Ytdjldipiggfjdaa.w4 b 12)) rfl (by kernel_rfl) (by kernel_rfl) (by kernel_rfl) (fun _ _ _ h => h) HSG.out hS0 ⟨by rfl, fun W hW => ?_⟩ ?_
    · have j1 := cell_below (hb8.trans (hW.1.mono hgC)) I1.out
      have j8 := cell_below (hb8.trans (hW.1.mono hgC)) I8.out
      have j9 := cell_below (hb8.trans (hW.1.mono hgC)) I9.out
      go_simp
      exact (four_any b _ c _ W (HX.out.below (hb8.trans (hW.1.mono hgC))) (by decide) (by assumption)).mono fun _ _ h => ⟨h.1, h.2.below⟩
    refine wpD_take (i := 21) (v := ?_) rfl (by kernel_rfl) (by kernel_rfl) (by kernel_rfl) (fun _ _ _ h => h) HSG.out hS0 ⟨by rfl, fun W hW => ?_⟩ ?_
    rotate_left
    · have j1 := cell_below (hb8.trans (hW.1.mono hgC)) I1.out
      have j8 := cell_below (hb8.trans (hW.1.mono hgC)) I8.out
      have j9 := cell_below (hb8.trans (hW.1.mono hgC)) I9.out
      first | (go_simp; done) | (go_simp; with_reducible rfl)
    refine wpD_take (i := 22) (v := ?_) rfl (by kernel_rfl) (by kernel_rfl) (by kernel_rfl) (fun _ _ _ h => h) HSG.out hS0 ⟨by rfl, fun W hW => ?_⟩ ?_
    rotate_left
    · have j1 := cell_below (hb8.trans (hW.1.mono hgC)) I1.out
      have j8 := cell_below (hb8.trans (hW.1.mono hgC)) I8.out
      have j9 := cell_below (hb8.trans (hW.1.mono hgC)) I9.out
      first | (go_simp; done) | (go_simp; with_reducible rfl)
    refine wpD_take (i := 23) (v := .int .i64 (Go.Proofs.Ytdjldipiggfjdaa.w4 b 16)) rfl (by kernel_rfl) (by kernel_rfl) (by kernel_rfl) (fun _ _ _ h => h) HSG.out hS0 ⟨by rfl, fun W hW => ?_⟩ ?_
    · have j1 := cell_below (hb8.trans (hW.1.mono hgC)) I1.out
      have j8 := cell_below (hb8.trans (hW.1.mono hgC)) I8.out
      have j9 := cell_below (hb8.trans (hW.1.mono hgC)) I9.out
      go_simp
      exact (four_any b _ c _ W (HX.out.below (hb8.trans (hW.1.mono hgC))) (by decide) (by assumption)).mono fun _ _ h => ⟨h.1, h.2.below⟩
    refine wpD_take (i := 24) (v := ?_) rfl (by kernel_rfl) (by kernel_rfl) (by kernel_rfl) (fun _ _ _ h => h) HSG.out hS0 ⟨by rfl, fun W hW => ?_⟩ ?_
    rotate_left
    · have j1 := cell_below (hb8.trans (hW.1.mono hgC)) I1.out
      have j8 := cell_below (hb8.trans (hW.1.mono hgC)) I8.out
      have j9 := cell_below (hb8.trans (hW.1.mono hgC)) I9.out
      first | (go_simp; done) | (go_simp; with_reducible rfl)
    refine wpD_take (i := 25) (v := ?_) rfl (by kernel_rfl) (by kernel_rfl) (by kernel_rfl) (fun _ _ _ h => h) HSG.out hS0 ⟨by rfl, fun W hW => ?_⟩ ?_
    rotate_left
    · have j1 := cell_below (hb8.trans (hW.1.mono hgC)) I1.out
      have j8 := cell_below (hb8.trans (hW.1.mono hgC)) I8.out
      have j9 := cell_below (hb8.trans (hW.1.mono hgC)) I9.out
      first | (go_simp; done) | (go_simp; with_reducible rfl)
    refine wpD_take (i := 26) (v := ?_) rfl (by kernel_rfl) (by kernel_rfl) (by kernel_rfl) (fun _ _ _ h => h) HSG.out hS0 ⟨by rfl, fun W hW => ?_⟩ ?_
    rotate_left
    · have j1 := cell_below (hb8.trans (hW.1.mono hgC)) I1.out
      have j8 := cell_below (hb8.trans (hW.1.mono hgC)) I8.out
      have j9 := cell_below (hb8.trans (hW.1.mono hgC)) I9.out
      first | (go_simp; done) | (go_simp; with_reducible rfl)
    refine wpD_take (i := 27) (v := ?_) rfl (by kernel_rfl) (by kernel_rfl) (by kernel_rfl) (fun _ _ _ h => h) HSG.out hS0 ⟨by rfl, fun W hW => ?_⟩ ?_
    rotate_left
    · have j1 := cell_below (hb8.trans (hW.1.mono hgC)) I1.out
      have j8 := cell_below (hb8.trans (hW.1.mono hgC)) I8.out
      have j9 := cell_below (hb8.trans (hW.1.mono hgC)) I9.out
      first | (go_simp; done) | (go_simp; with_reducible rfl)
    refine wpD_one (k := 28) rfl (by kernel_rfl) (by rfl) fun W1 hW1 K hK => ?_
    have hC1 := hkC.drew.below hW1
    have hS1 := HSG.out _ _ hS0 hW1
    go_simp
    refine (clone3_any os OA oc W1 (HRO.out.below (hb8.trans (hS1.1.mono hgC)))).mono ?_
    rintro e W2 ⟨A1, c1, rfl, ho1, hbc⟩
    refine hK _ _ (HSG.out _ _ hS1 hbc) ?_
    clear hK K
    have hC2 := hC1.below hbc
    refine wpD_one (k := 29) rfl (by kernel_rfl) (by rfl) fun W3 hW3 K hK => ?_
    have hS3 := HSG.out _ _ (HSG.out _ _ hS1 hbc) hW3
    go_simp
    refine hK _ _ hS3 ?_
    clear hK K
    have hC3 := hC2.below hW3
    have ho3 := ho1.below hW3
    refine wpD_take (i := 30) (v := ?_) rfl (by kernel_rfl) (by kernel_rfl) (by kernel_rfl) (fun _ _ _ h => h) HSG.out hS3 ⟨by rfl, fun W hW => ?_⟩ ?_
    rotate_left
    · have j1 := cell_below (hb8.trans (hW.1.mono hgC)) I1.out
      have j8 := cell_below (hb8.trans (hW.1.mono hgC)) I8.out
      have j9 := cell_below (hb8.trans (hW.1.mono hgC)) I9.out
      first | (go_simp; done) | (go_simp; with_reducible rfl)
    refine wpD_one (k := 31) rfl (by kernel_rfl) (by rfl) fun W4 hW4 K hK => ?_
    have hS4 := HSG.out _ _ hS3 hW4
    have hC4 := hC3.below hW4
    have ho4 := ho3.below hW4
    refine st_mid_wp 35 (.tmp 95) (.tmp 94) rfl gC 0 (.agg (hcells ⟨rb b 1, Go.Proofs.Ytdjldipiggfjdaa.w2 b 4, df, mf, 8 * (f % 8192), rb b 8, rb b 9, Go.Proofs.Ytdjldipiggfjdaa.w4 b 12, Go.Proofs.Ytdjldipiggfjdaa.w4 b 16, os⟩ A1 os.length c1)) (by go_simp) (by kernel_rfl) 37 _ (pcells ⟨rb b 1, Go.Proofs.Ytdjldipiggfjdaa.w2 b 4, df, mf, 8 * (f % 8192), rb b 8, rb b 9, Go.Proofs.Ytdjldipiggfjdaa.w4 b 12, Go.Proofs.Ytdjldipiggfjdaa.w4 b 16, os⟩ A1 os.length c1 none 0 0) hC4 (show (0:Nat) + 10 ≤ 11 from by decide) (headSize' _ _ _ _) (hcells_one _ _ _ _) (by kernel_rfl) ?_
    intro W5 hC5 hf5 hbb5
    have hS5 : Below gC w8 W5 ∧ gC ≤ W5.heap.size := ⟨hbb5 _ _ hS4.1 (Nat.le_refl _), Nat.le_trans hS4.2 hf5.size⟩
    refine hK _ _ hS5 ?_
    refine wpD_done (by kernel_rfl) fun W6 hW6 => ?_
    have hC6 := hC5.below hW6
    have hlt1 : gC < W1.heap.size := hC1.lt
    have ho6 := (ho4.off hlt1 hf5).below hW6
    have hbW5 : Below w.heap.size w W5 := hb8.trans (hS5.1.mono hgC)
    have hb6 := below_on hbW5 hW6
    have hkA6 : Blk W6 gA 37 (pcells Hd.zero none 0 0 none 0 0) := (show Blk W5 gA 37 (pcells Hd.zero none 0 0 none 0 0) from ⟨(hS5.1.block gA hAC).trans hkA8.out⟩).below hW6
    have hw1 : w.heap.size ≤ W1.heap.size := Nat.le_trans hgC (Nat.le_of_lt hlt1)
    clear hS5 hS4 hS3 hS1 hS0 HSG x1 x2 x3 x4 x5 hK K
    go_wp2_with fail
    refine (clone3_any bs BA bc W6 (HRB.out.below hb6)).mono ?_
    rintro e W7 ⟨A2, c2, rfl, ho7, hb67⟩
    have hb7 := below_on hb6 hb67
    have hC7 := hC6.below hb67
    have hkA7 := hkA6.below hb67
    have ho1' := ho6.below hb67
    have hlt2 : gC < W6.heap.size := hC6.lt
    have hlt3 : gA < W1.heap.size := Nat.lt_trans hAC hlt1
    have hlt4 : gA < W6.heap.size := Nat.lt_trans hAC hlt2
    have hnAC : gA ≠ gC := Nat.ne_of_lt hAC
    go_wp2_with (refine st_mid (w0 := w) w.heap.size rfl 30 (.tmp 101) (.tmp 100) rfl gC 10 (.slice A2 bs.length c2) ?x1a ?x2a 37 _ (pcells ⟨rb b 1, Go.Proofs.Ytdjldipiggfjdaa.w2 b 4, df, mf, 8 * (f % 8192), rb b 8, rb b 9, Go.Proofs.Ytdjldipiggfjdaa.w4 b 12, Go.Proofs.Ytdjldipiggfjdaa.w4 b 16, os⟩ A1 os.length c1 A2 bs.length c2) hC7 ?x3a ?x4a ?x5a ?x6a hb7 hgC ?_)
    case x1a => rfl
    case x2a => rfl
    case x3a => exact (show (10:Nat) + 1 ≤ 11 from by decide)
    case x4a => kernel_rfl
    case x5a => simp [Value.cells, Value.oneCell']
    case x6a => kernel_rfl
    intro W8 hC8 hb8' hf8 hs8'
    have hkA8' := hkA7.fr hf8 (fun _ => hnAC)
    have ho8 := ho1'.off hlt1 hf8
    have ho9 := ho7.off hlt2 hf8
    clear hs8'
    go_wp2_with (first
      | (with_reducible refine ld_row rfl 37 (.tmp 12) rfl gC rfl 37 _ hC8 _ Try.underlying37 rfl (pktSize' _ _ _ _ _ _ _) ?_)
      | (with_reducible refine st_row (w0 := w) w.heap.size rfl 37 (.tmp 4) _ rfl gA _ rfl rfl 37 _ hkA8' (pktSize' _ _ _ _ _ _ _) (pcells_sizes _ _ _ _ _ _ _ _ _ _ _ _ _ _) (pcells_one _ _ _ _ _ _ _) hb8' hgA ?_
         intro w9 hk9 hb9 hf9 hs9))
    have HDV : Sec (hdS b = ⟨rb b 1, Go.Proofs.Ytdjldipiggfjdaa.w2 b 4, df, mf, 8 * (f % 8192), rb b 8, rb b 9, Go.Proofs.Ytdjldipiggfjdaa.w4 b 12, Go.Proofs.Ytdjldipiggfjdaa.w4 b 16, os⟩) := ⟨by rw [HDF.out, HMF.out, HF6.out, HOS2.out, HH.out]; rfl⟩
    refine bodyPost_ret (res_ct rfl rfl hk9 Try.underlying37 rfl (pktSize' _ _ _ _ _ _ _)) rfl ⟨A1, c1, A2, c2, ?_, ?_, ?_, hb9⟩
    rw [HE.out, ifH_ok _ rfl, ifB_ok _ rfl, HBODY.out, HDV.out]
    rfl
    rw [HE.out, ifH_ok _ rfl, HDV.out]
    exact (ho8.off hlt3 hf9).base hw1
    rw [HE.out, ifB_ok _ rfl, HBODY.out]
    exact (ho9.off hlt4 hf9).base hb6.size
  · have hlt0 : (b.length : Int) < t := by omega
    obtain ⟨BA, bc, bs, HBS, hbl, HRB, hbcc, hcut3⟩ := cut_lohi (P := Try.prog) Try.underlying30 byteInfo HX.out hc .i64 .i64 h b.length (by omega) f4 (by omega)
    have HBODY : Sec (bodyS b = bs) := ⟨by
      rw [HBS.out]
      unfold bodyS
      rw [← HH.out, ← HT.out, List.take_of_length_le (show b.length ≤ t.toNat by omega), List.take_of_length_le (show b.length ≤ ((b.length : Int)).toNat by omega)]⟩
    have HBL := Sec.mk hbl
    clear hbl hle
    go_enter Try.func98, Try.ntmps98
    go_wp2_with (first
      | (with_reducible refine al_step w.heap.size rfl 4 rfl 37 rfl _ pktZero (Below.refl _ _) (Nat.le_refl _) ?_; intro gA w1 hgA hkA hb0 hb1 hs1)
      | (with_reducible refine al_step w.heap.size rfl 6 rfl 37 rfl _ pktZero hb1 hb1.size ?_; intro gB w2 hgB hkB hb20 hb2 hs2
         have hAB : gA < gB := Nat.lt_of_lt_of_le hkA.lt hgB
         have hkA := hkA.below hb20))
    refine (front_any b _ c whole _ (HX.out.below hb2)).mono ?_
    rintro e w3 ⟨rfl, ⟨m1, rfl⟩⟩
    have hkA := hkA.drewN m1
    have hkB := hkB.drewN m1
    have hb3 := below_drewN hb2 m1
    clear hb0 hb1 hs1 hb20 hb2 hs2
    rw [C1.out, ifz_ok _ rfl, ifz_ok _ rfl, ← HH.out, ← HT.out]
    go_wp2_with fail
    refine (rsum_any [ys] _ _ _ (RDs.alloc1 (by simp) 30 hyc (HRY.out.below hb3)) (by simp; omega)).mono ?_
    rintro e w4 ⟨rfl, hb4⟩
    rw [show [ys].flatten = ys from by simp]
    have hkA := (hkA.alloc (.cells #[.slice (some ad) ys.length c] 30)).below hb4
    have hkB := (hkB.alloc (.cells #[.slice (some ad) ys.length c] 30)).below hb4
    have hb3 := below_on (below_new hb3 (.cells #[.slice (some ad) ys.length c] 30)) hb4
    have i6 := cell_below hb3 I6.out
    go_wp2_with fail
    refine (area_any os _ _ _ (HRO.out.below hb3)).mono ?_
    rintro e w5 ⟨rfl, ⟨m5, rfl⟩⟩
    rw [HAR.out]
    go_wp2_with fail
    refine (two_any b (some ad) c 6 _ (HX.out.below (below_drewN hb3 _)) (by omega) (by omega)).mono ?_
    rintro e w6 ⟨rfl, ⟨m6, rfl⟩⟩
    rw [← HF6.out]
    go_wp2_with fail
    refine (piece_any _ _ mf _ (by omega) (by omega) (by omega) (by omega)).mono ?_
    rintro e w7 ⟨rfl, rfl⟩
    rw [HPC.out]
    go_wp2_with (with_reducible refine al_own (w0 := w) rfl 12 rfl 37 rfl _ pktZero (by repeat (first | exact hb3 | refine below_drewN ?_ _)) ?_; intro gC w8 hgC0 hkC hb80 hb8 hs8
                 have hkA8 := (show Blk _ gA 37 (pcells Hd.zero none 0 0 none 0 0) from by repeat (first | exact hkA | refine Blk.drewN ?_ _)).below hb80
                 have hAC : gA < gC := Nat.lt_of_lt_of_le (show Blk _ gA 37 (pcells Hd.zero none 0 0 none 0 0) from by repeat (first | exact hkA | refine Blk.drewN ?_ _)).lt hgC0
                 have hgC : w.heap.size ≤ gC := Nat.le_trans (show Below w.heap.size w _ from (by repeat (first | exact hb3 | refine below_drewN ?_ _))).size hgC0)
    clear hkA hkB hb3
    have hlt8 : gC < w8.heap.size := hkC.lt
    have HSG : Sec (∀ W W' : World, (Below gC w8 W ∧ gC ≤ W.heap.size) → Grew W W' → (Below gC w8 W' ∧ gC ≤ W'.heap.size)) := ⟨fun W W' h k => ⟨h.1.trans (Below.mono k h.2), Nat.le_trans h.2 k.size⟩⟩
    refine wp_region_drift (fun W => Below gC w8 W ∧ gC ≤ W.heap.size) (by kernel_rfl) ?_
    change wpD _ _ _ _ _ _ _ _ w8.drew
    have u1 := w2_lo b 4
    have u2 := w2_hi b 4
    have u3 := w4_lo b 12
    have u4 := w4_hi b 12
    have u5 := w4_lo b 16
    have u6 := w4_hi b 16
    have l4 : (4 : Int) + 1 < b.length := by omega
    have l12 : (12 : Int) + 3 < b.length := by omega
    have l16 : (16 : Int) + 3 < b.length := by omega
    have x1 : IntKind.u16.wrap (Go.Proofs.Ytdjldipiggfjdaa.w2 b 4) = Go.Proofs.Ytdjldipiggfjdaa.w2 b 4 := Go.IntWalk.u16_in _ (by omega)
    have x2 : IntKind.i64.wrap (R.tdiv 2) = R / 2 := by rw [Int.tdiv_eq_ediv_of_nonneg R0]; exact Go.IntWalk.i64_in _ (by omega)
    have x3 : R.tmod 2 = R % 2 := Int.tmod_eq_emod_of_nonneg R0
    have x4 : IntKind.u32.wrap (Go.Proofs.Ytdjldipiggfjdaa.w4 b 12) = Go.Proofs.Ytdjldipiggfjdaa.w4 b 12 := Go.IntWalk.u32_in _ (by omega)
    have x5 : IntKind.u32.wrap (Go.Proofs.Ytdjldipiggfjdaa.w4 b 16) = Go.Proofs.Ytdjldipiggfjdaa.w4 b 16 := Go.IntWalk.u32_in _ (by omega)
    have hS0 : Below gC w8 w8.drew ∧ gC ≤ w8.drew.heap.size := ⟨(Below.refl _ _).drew, Nat.le_of_lt hlt8⟩
    refine wpD_take (i := 0) (v := ?_) rfl (by kernel_rfl) (by kernel_rfl) (by kernel_rfl) (fun _ _ _ h => h) HSG.out hS0 ⟨by rfl, fun W hW => ?_⟩ ?_
    rotate_left
    · have j1 := cell_below (hb8.trans (hW.1.mono hgC)) I1.out
      have j8 := cell_below (hb8.trans (hW.1.mono hgC)) I8.out
      have j9 := cell_below (hb8.trans (hW.1.mono hgC)) I9.out
      first | (go_simp; done) | (go_simp; with_reducible rfl)
    refine wpD_take (i := 1) (v := ?_) rfl (by kernel_rfl) (by kernel_rfl) (by kernel_rfl) (fun _ _ _ h => h) HSG.out hS0 ⟨by rfl, fun W hW => ?_⟩ ?_
    rotate_left
    · have j1 := cell_below (hb8.trans (hW.1.mono hgC)) I1.out
      have j8 := cell_below (hb8.trans (hW.1.mono hgC)) I8.out
      have j9 := cell_below (hb8.trans (hW.1.mono hgC)) I9.out
      first | (go_simp; done) | (go_simp; with_reducible rfl)
    refine wpD_take (i := 2) (v := ?_) rfl (by kernel_rfl) (by kernel_rfl) (by kernel_rfl) (fun _ _ _ h => h) HSG.out hS0 ⟨by rfl, fun W hW => ?_⟩ ?_
    rotate_left
    · have j1 := cell_below (hb8.trans (hW.1.mono hgC)) I1.out
      have j8 := cell_below (hb8.trans (hW.1.mono hgC)) I8.out
      have j9 := cell_below (hb8.trans (hW.1.mono hgC)) I9.out
      first | (go_simp; done) | (go_simp; with_reducible rfl)
    refine wpD_take (i := 3) (v := ?_) rfl (by kernel_rfl) (by kernel_rfl) (by kernel_rfl) (fun _ _ _ h => h) HSG.out hS0 ⟨by rfl, fun W hW => ?_⟩ ?_
    rotate_left
    · have j1 := cell_below (hb8.trans (hW.1.mono hgC)) I1.out
      have j8 := cell_below (hb8.trans (hW.1.mono hgC)) I8.out
      have j9 := cell_below (hb8.trans (hW.1.mono hgC)) I9.out
      first | (go_simp; done) | (go_simp; with_reducible rfl)
    refine wpD_take (i := 4) (v := .int .i64 (Go.Proofs.Ytdjldipiggfjdaa.w2 b 4)) rfl (by kernel_rfl) (by kernel_rfl) (by kernel_rfl) (fun _ _ _ h => h) HSG.out hS0 ⟨by rfl, fun W hW => ?_⟩ ?_
    · have j1 := cell_below (hb8.trans (hW.1.mono hgC)) I1.out
      have j8 := cell_below (hb8.trans (hW.1.mono hgC)) I8.out
      have j9 := cell_below (hb8.trans (hW.1.mono hgC)) I9.out
      go_simp
      exact (two_any b _ c _ W (HX.out.below (hb8.trans (hW.1.mono hgC))) (by decide) (by assumption)).mono fun _ _ h => ⟨h.1, h.2.below⟩
    refine wpD_take (i := 5) (v := ?_) rfl (by kernel_rfl) (by kernel_rfl) (by kernel_rfl) (fun _ _ _ h => h) HSG.out hS0 ⟨by rfl, fun W hW => ?_⟩ ?_
    rotate_left
    · have j1 := cell_below (hb8.trans (hW.1.mono hgC)) I1.out
      have j8 := cell_below (hb8.trans (hW.1.mono hgC)) I8.out
      have j9 := cell_below (hb8.trans (hW.1.mono hgC)) I9.out
      first | (go_simp; done) | (go_simp; with_reducible rfl)
    refine wpD_take (i := 6) (v := ?_) rfl (by kernel_rfl) (by kernel_rfl) (by kernel_rfl) (fun _ _ _ h => h) HSG.out hS0 ⟨by rfl, fun W hW => ?_⟩ ?_
    rotate_left
    · have j1 := cell_below (hb8.trans (hW.1.mono hgC)) I1.out
      have j8 := cell_below (hb8.trans (hW.1.mono hgC)) I8.out
      have j9 := cell_below (hb8.trans (hW.1.mono hgC)) I9.out
      first | (go_simp; done) | (go_simp; with_reducible rfl)
    refine wpD_take (i := 7) (v := ?_) rfl (by kernel_rfl) (by kernel_rfl) (by kernel_rfl) (fun _ _ _ h => h) HSG.out hS0 ⟨by rfl, fun W hW => ?_⟩ ?_
    rotate_left
    · have j1 := cell_below (hb8.trans (hW.1.mono hgC)) I1.out
      have j8 := cell_below (hb8.trans (hW.1.mono hgC)) I8.out
      have j9 := cell_below (hb8.trans (hW.1.mono hgC)) I9.out
      first | (go_simp; done) | (go_simp; with_reducible rfl)
    refine wpD_take (i := 8) (v := ?_) rfl (by kernel_rfl) (by kernel_rfl) (by kernel_rfl) (fun _ _ _ h => h) HSG.out hS0 ⟨by rfl, fun W hW => ?_⟩ ?_
    rotate_left
    · have j1 := cell_below (hb8.trans (hW.1.mono hgC)) I1.out
      have j8 := cell_below (hb8.trans (hW.1.mono hgC)) I8.out
      have j9 := cell_below (hb8.trans (hW.1.mono hgC)) I9.out
      first | (go_simp; done) | (go_simp; with_reducible rfl)
    refine wpD_take (i := 9) (v := ?_) rfl (by kernel_rfl) (by kernel_rfl) (by kernel_rfl) (fun _ _ _ h => h) HSG.out hS0 ⟨by rfl, fun W hW => ?_⟩ ?_
    rotate_left
    · have j1 := cell_below (hb8.trans (hW.1.mono hgC)) I1.out
      have j8 := cell_below (hb8.trans (hW.1.mono hgC)) I8.out
      have j9 := cell_below (hb8.trans (hW.1.mono hgC)) I9.out
      first | (go_simp; done) | (go_simp; with_reducible rfl)
    refine wpD_take (i := 10) (v := ?_) rfl (by kernel_rfl) (by kernel_rfl) (by kernel_rfl) (fun _ _ _ h => h) HSG.out hS0 ⟨by rfl, fun W hW => ?_⟩ ?_
    rotate_left
    · have j1 := cell_below (hb8.trans (hW.1.mono hgC)) I1.out
      have j8 := cell_below (hb8.trans (hW.1.mono hgC)) I8.out
      have j9 := cell_below (hb8.trans (hW.1.mono hgC)) I9.out
      first | (go_simp; done) | (go_simp; with_reducible rfl)
    refine wpD_take (i := 11) (v := ?_) rfl (by kernel_rfl) (by kernel_rfl) (by kernel_rfl) (fun _ _ _ h => h) HSG.out hS0 ⟨by rfl, fun W hW => ?_⟩ ?_
    rotate_left
    · have j1 := cell_below (hb8.trans (hW.1.mono hgC)) I1.out
      have j8 := cell_below (hb8.trans (hW.1.mono hgC)) I8.out
      have j9 := cell_below (hb8.trans (hW.1.mono hgC)) I9.out
      first | (go_simp; done) | (go_simp; with_reducible rfl)
    refine wpD_take (i := 12) (v := ?_) rfl (by kernel_rfl) (by kernel_rfl) (by kernel_rfl) (fun _ _ _ h => h) HSG.out hS0 ⟨by rfl, fun W hW => ?_⟩ ?_
    rotate_left
    · have j1 := cell_below (hb8.trans (hW.1.mono hgC)) I1.out
      have j8 := cell_below (hb8.trans (hW.1.mono hgC)) I8.out
      have j9 := cell_below (hb8.trans (hW.1.mono hgC)) I9.out
      first | (go_simp; done) | (go_simp; with_reducible rfl)
    refine wpD_take (i := 13) (v := ?_) rfl (by kernel_rfl) (by kernel_rfl) (by kernel_rfl) (fun _ _ _ h => h) HSG.out hS0 ⟨by rfl, fun W hW => ?_⟩ ?_
    rotate_left
    · have j1 := cell_below (hb8.trans (hW.1.mono hgC)) I1.out
      have j8 := cell_below (hb8.trans (hW.1.mono hgC)) I8.out
      have j9 := cell_below (hb8.trans (hW.1.mono hgC)) I9.out
      first | (go_simp; done) | (go_simp; with_reducible rfl)
    refine wpD_take (i := 14) (v := ?_) rfl (by kernel_rfl) (by kernel_rfl) (by kernel_rfl) (fun _ _ _ h => h) HSG.out hS0 ⟨by rfl, fun W hW => ?_⟩ ?_
    rotate_left
    · have j1 := cell_below (hb8.trans (hW.1.mono hgC)) I1.out
      have j8 := cell_below (hb8.trans (hW.1.mono hgC)) I8.out
      have j9 := cell_below (hb8.trans (hW.1.mono hgC)) I9.out
      first | (go_simp; done) | (go_simp; with_reducible rfl)
    refine wpD_take (i := 15) (v := ?_) rfl (by kernel_rfl) (by kernel_rfl) (by kernel_rfl) (fun _ _ _ h => h) HSG.out hS0 ⟨by rfl, fun W hW => ?_⟩ ?_
    rotate_left
    · have j1 := cell_below (hb8.trans (hW.1.mono hgC)) I1.out
      have j8 := cell_below (hb8.trans (hW.1.mono hgC)) I8.out
      have j9 := cell_below (hb8.trans (hW.1.mono hgC)) I9.out
      first | (go_simp; done) | (go_simp; with_reducible rfl)
    refine wpD_take (i := 16) (v := ?_) rfl (by kernel_rfl) (by kernel_rfl) (by kernel_rfl) (fun _ _ _ h => h) HSG.out hS0 ⟨by rfl, fun W hW => ?_⟩ ?_
    rotate_left
    · have j1 := cell_below (hb8.trans (hW.1.mono hgC)) I1.out
      have j8 := cell_below (hb8.trans (hW.1.mono hgC)) I8.out
      have j9 := cell_below (hb8.trans (hW.1.mono hgC)) I9.out
      first | (go_simp; done) | (go_simp; with_reducible rfl)
    refine wpD_take (i := 17) (v := ?_) rfl (by kernel_rfl) (by kernel_rfl) (by kernel_rfl) (fun _ _ _ h => h) HSG.out hS0 ⟨by rfl, fun W hW => ?_⟩ ?_
    rotate_left
    · have j1 := cell_below (hb8.trans (hW.1.mono hgC)) I1.out
      have j8 := cell_below (hb8.trans (hW.1.mono hgC)) I8.out
      have j9 := cell_below (hb8.trans (hW.1.mono hgC)) I9.out
      first | (go_simp; done) | (go_simp; with_reducible rfl)
    refine wpD_take (i := 18) (v := ?_) rfl (by kernel_rfl) (by kernel_rfl) (by kernel_rfl) (fun _ _ _ h => h) HSG.out hS0 ⟨by rfl, fun W hW => ?_⟩ ?_
    rotate_left
    · have j1 := cell_below (hb8.trans (hW.1.mono hgC)) I1.out
      have j8 := cell_below (hb8.trans (hW.1.mono hgC)) I8.out
      have j9 := cell_below (hb8.trans (hW.1.mono hgC)) I9.out
      first | (go_simp; done) | (go_simp; with_reducible rfl)
    refine wpD_take (i := 19) (v := ?_) rfl (by kernel_rfl) (by kernel_rfl) (by kernel_rfl) (fun _ _ _ h => h) HSG.out hS0 ⟨by rfl, fun W hW => ?_⟩ ?_
    rotate_left
    · have j1 := cell_below (hb8.trans (hW.1.mono hgC)) I1.out
      have j8 := cell_below (hb8.trans (hW.1.mono hgC)) I8.out
      have j9 := cell_below (hb8.trans (hW.1.mono hgC)) I9.out
      first | (go_simp; done) | (go_simp; with_reducible rfl)
    refine wpD_take (i := 20) (v := .int .i64 (Go.Proofs.Ytdjldipiggfjdaa.w4 b 12)) rfl (by kernel_rfl) (by kernel_rfl) (by kernel_rfl) (fun _ _ _ h => h) HSG.out hS0 ⟨by rfl, fun W hW => ?_⟩ ?_
    · have j1 := cell_below (hb8.trans (hW.1.mono hgC)) I1.out
      have j8 := cell_below (hb8.trans (hW.1.mono hgC)) I8.out
      have j9 := cell_below (hb8.trans (hW.1.mono hgC)) I9.out
      go_simp
      exact (four_any b _ c _ W (HX.out.below (hb8.trans (hW.1.mono hgC))) (by decide) (by assumption)).mono fun _ _ h => ⟨h.1, h.2.below⟩
    refine wpD_take (i := 21) (v := ?_) rfl (by kernel_rfl) (by kernel_rfl) (by kernel_rfl) (fun _ _ _ h => h) HSG.out hS0 ⟨by rfl, fun W hW => ?_⟩ ?_
    rotate_left
    · have j1 := cell_below (hb8.trans (hW.1.mono hgC)) I1.out
      have j8 := cell_below (hb8.trans (hW.1.mono hgC)) I8.out
      have j9 := cell_below (hb8.trans (hW.1.mono hgC)) I9.out
      first | (go_simp; done) | (go_simp; with_reducible rfl)
    refine wpD_take (i := 22) (v := ?_) rfl (by kernel_rfl) (by kernel_rfl) (by kernel_rfl) (fun _ _ _ h => h) HSG.out hS0 ⟨by rfl, fun W hW => ?_⟩ ?_
    rotate_left
    · have j1 := cell_below (hb8.trans (hW.1.mono hgC)) I1.out
      have j8 := cell_below (hb8.trans (hW.1.mono hgC)) I8.out
      have j9 := cell_below (hb8.trans (hW.1.mono hgC)) I9.out
      first | (go_simp; done) | (go_simp; with_reducible rfl)
    refine wpD_take (i := 23) (v := .int .i64 (Go.Proofs.Ytdjldipiggfjdaa.w4 b 16)) rfl (by kernel_rfl) (by kernel_rfl) (by kernel_rfl) (fun _ _ _ h => h) HSG.out hS0 ⟨by rfl, fun W hW => ?_⟩ ?_
    · have j1 := cell_below (hb8.trans (hW.1.mono hgC)) I1.out
      have j8 := cell_below (hb8.trans (hW.1.mono hgC)) I8.out
      have j9 := cell_below (hb8.trans (hW.1.mono hgC)) I9.out
      go_simp
      exact (four_any b _ c _ W (HX.out.below (hb8.trans (hW.1.mono hgC))) (by decide) (by assumption)).mono fun _ _ h => ⟨h.1, h.2.below⟩
    refine wpD_take (i := 24) (v := ?_) rfl (by kernel_rfl) (by kernel_rfl) (by kernel_rfl) (fun _ _ _ h => h) HSG.out hS0 ⟨by rfl, fun W hW => ?_⟩ ?_
    rotate_left
    · have j1 := cell_below (hb8.trans (hW.1.mono hgC)) I1.out
      have j8 := cell_below (hb8.trans (hW.1.mono hgC)) I8.out
      have j9 := cell_below (hb8.trans (hW.1.mono hgC)) I9.out
      first | (go_simp; done) | (go_simp; with_reducible rfl)
    refine wpD_take (i := 25) (v := ?_) rfl (by kernel_rfl) (by kernel_rfl) (by kernel_rfl) (fun _ _ _ h => h) HSG.out hS0 ⟨by rfl, fun W hW => ?_⟩ ?_
    rotate_left
    · have j1 := cell_below (hb8.trans (hW.1.mono hgC)) I1.out
      have j8 := cell_below (hb8.trans (hW.1.mono hgC)) I8.out
      have j9 := cell_below (hb8.trans (hW.1.mono hgC)) I9.out
      first | (go_simp; done) | (go_simp; with_reducible rfl)
    refine wpD_take (i := 26) (v := ?_) rfl (by kernel_rfl) (by kernel_rfl) (by kernel_rfl) (fun _ _ _ h => h) HSG.out hS0 ⟨by rfl, fun W hW => ?_⟩ ?_
    rotate_left
    · have j1 := cell_below (hb8.trans (hW.1.mono hgC)) I1.out
      have j8 := cell_below (hb8.trans (hW.1.mono hgC)) I8.out
      have j9 := cell_below (hb8.trans (hW.1.mono hgC)) I9.out
      first | (go_simp; done) | (go_simp; with_reducible rfl)
    refine wpD_take (i := 27) (v := ?_) rfl (by kernel_rfl) (by kernel_rfl) (by kernel_rfl) (fun _ _ _ h => h) HSG.out hS0 ⟨by rfl, fun W hW => ?_⟩ ?_
    rotate_left
    · have j1 := cell_below (hb8.trans (hW.1.mono hgC)) I1.out
      have j8 := cell_below (hb8.trans (hW.1.mono hgC)) I8.out
      have j9 := cell_below (hb8.trans (hW.1.mono hgC)) I9.out
      first | (go_simp; done) | (go_simp; with_reducible rfl)
    refine wpD_one (k := 28) rfl (by kernel_rfl) (by rfl) fun W1 hW1 K hK => ?_
    have hC1 := hkC.drew.below hW1
    have hS1 := HSG.out _ _ hS0 hW1
    go_simp
    refine (clone3_any os OA oc W1 (HRO.out.below (hb8.trans (hS1.1.mono hgC)))).mono ?_
    rintro e W2 ⟨A1, c1, rfl, ho1, hbc⟩
    refine hK _ _ (HSG.out _ _ hS1 hbc) ?_
    clear hK K
    have hC2 := hC1.below hbc
    refine wpD_one (k := 29) rfl (by kernel_rfl) (by rfl) fun W3 hW3 K hK => ?_
    have hS3 := HSG.out _ _ (HSG.out _ _ hS1 hbc) hW3
    go_simp
    refine hK _ _ hS3 ?_
    clear hK K
    have hC3 := hC2.below hW3
    have ho3 := ho1.below hW3
    refine wpD_take (i := 30) (v := ?_) rfl (by kernel_rfl) (by kernel_rfl) (by kernel_rfl) (fun _ _ _ h => h) HSG.out hS3 ⟨by rfl, fun W hW => ?_⟩ ?_
    rotate_left
    · have j1 := cell_below (hb8.trans (hW.1.mono hgC)) I1.out
      have j8 := cell_below (hb8.trans (hW.1.mono hgC)) I8.out
      have j9 := cell_below (hb8.trans (hW.1.mono hgC)) I9.out
      first | (go_simp; done) | (go_simp; with_reducible rfl)
    refine wpD_one (k := 31) rfl (by kernel_rfl) (by rfl) fun W4 hW4 K hK => ?_
    have hS4 := HSG.out _ _ hS3 hW4
    have hC4 := hC3.below hW4
    have ho4 := ho3.below hW4
    refine st_mid_wp 35 (.tmp 95) (.tmp 94) rfl gC 0 (.agg (hcells ⟨rb b 1, Go.Proofs.Ytdjldipiggfjdaa.w2 b 4, df, mf, 8 * (f % 8192), rb b 8, rb b 9, Go.Proofs.Ytdjldipiggfjdaa.w4 b 12, Go.Proofs.Ytdjldipiggfjdaa.w4 b 16, os⟩ A1 os.length c1)) (by go_simp) (by kernel_rfl) 37 _ (pcells ⟨rb b 1, Go.Proofs.Ytdjldipiggfjdaa.w2 b 4, df, mf, 8 * (f % 8192), rb b 8, rb b 9, Go.Proofs.Ytdjldipiggfjdaa.w4 b 12, Go.Proofs.Ytdjldipiggfjdaa.w4 b 16, os⟩ A1 os.length c1 none 0 0) hC4 (show (0:Nat) + 10 ≤ 11 from by decide) (headSize' _ _ _ _) (hcells_one _ _ _ _) (by kernel_rfl) ?_
    intro W5 hC5 hf5 hbb5
    have hS5 : Below gC w8 W5 ∧ gC ≤ W5.heap.size := ⟨hbb5 _ _ hS4.1 (Nat.le_refl _), Nat.le_trans hS4.2 hf5.size⟩
    refine hK _ _ hS5 ?_
    refine wpD_done (by kernel_rfl) fun W6 hW6 => ?_
    have hC6 := hC5.below hW6
    have hlt1 : gC < W1.heap.size := hC1.lt
    have ho6 := (ho4.off hlt1 hf5).below hW6
    have hbW5 : Below w.heap.size w W5 := hb8.trans (hS5.1.mono hgC)
    have hb6 := below_on hbW5 hW6
    have hkA6 : Blk W6 gA 37 (pcells Hd.zero none 0 0 none 0 0) := (show Blk W5 gA 37 (pcells Hd.zero none 0 0 none 0 0) from ⟨(hS5.1.block gA hAC).trans hkA8.out⟩).below hW6
    have hw1 : w.heap.size ≤ W1.heap.size := Nat.le_trans hgC (Nat.le_of_lt hlt1)
    clear hS5 hS4 hS3 hS1 hS0 HSG x1 x2 x3 x4 x5 hK K
    go_wp2_with fail
    refine (clone3_any bs BA bc W6 (HRB.out.below hb6)).mono ?_
    rintro e W7 ⟨A2, c2, rfl, ho7, hb67⟩
    have hb7 := below_on hb6 hb67
    have hC7 := hC6.below hb67
    have hkA7 := hkA6.below hb67
    have ho1' := ho6.below hb67
    have hlt2 : gC < W6.heap.size := hC6.lt
    have hlt3 : gA < W1.heap.size := Nat.lt_trans hAC hlt1
    have hlt4 : gA < W6.heap.size := Nat.lt_trans hAC hlt2
    have hnAC : gA ≠ gC := Nat.ne_of_lt hAC
    go_wp2_with (refine st_mid (w0 := w) w.heap.size rfl 30 (.tmp 101) (.tmp 100) rfl gC 10 (.slice A2 bs.length c2) ?x1b ?x2b 37 _ (pcells ⟨rb b 1, Go.Proofs.Ytdjldipiggfjdaa.w2 b 4, df, mf, 8 * (f % 8192), rb b 8, rb b 9, Go.Proofs.Ytdjldipiggfjdaa.w4 b 12, Go.Proofs.Ytdjldipiggfjdaa.w4 b 16, os⟩ A1 os.length c1 A2 bs.length c2) hC7 ?x3b ?x4b ?x5b ?x6b hb7 hgC ?_)
    case x1b => rfl
    case x2b => rfl
    case x3b => exact (show (10:Nat) + 1 ≤ 11 from by decide)
    case x4b => kernel_rfl
    case x5b => simp [Value.cells, Value.oneCell']
    case x6b => kernel_rfl
    intro W8 hC8 hb8' hf8 hs8'
    have hkA8' := hkA7.fr hf8 (fun _ => hnAC)
    have ho8 := ho1'.off hlt1 hf8
    have ho9 := ho7.off hlt2 hf8
    clear hs8'
    go_wp2_with (first
      | (with_reducible refine ld_row rfl 37 (.tmp 12) rfl gC rfl 37 _ hC8 _ Try.underlying37 rfl (pktSize' _ _ _ _ _ _ _) ?_)
      | (with_reducible refine st_row (w0 := w) w.heap.size rfl 37 (.tmp 4) _ rfl gA _ rfl rfl 37 _ hkA8' (pktSize' _ _ _ _ _ _ _) (pcells_sizes _ _ _ _ _ _ _ _ _ _ _ _ _ _) (pcells_one _ _ _ _ _ _ _) hb8' hgA ?_
         intro w9 hk9 hb9 hf9 hs9))
    have HDV : Sec (hdS b = ⟨rb b 1, Go.Proofs.Ytdjldipiggfjdaa.w2 b 4, df, mf, 8 * (f % 8192), rb b 8, rb b 9, Go.Proofs.Ytdjldipiggfjdaa.w4 b 12, Go.Proofs.Ytdjldipiggfjdaa.w4 b 16, os⟩) := ⟨by rw [HDF.out, HMF.out, HF6.out, HOS2.out, HH.out]; rfl⟩
    refine bodyPost_ret (res_ct rfl rfl hk9 Try.underlying37 rfl (pktSize' _ _ _ _ _ _ _)) rfl ⟨A1, c1, A2, c2, ?_, ?_, ?_, hb9⟩
    rw [HE.out, ifH_ok _ rfl, ifB_ok _ rfl, HBODY.out, HDV.out]
    rfl
    rw [HE.out, ifH_ok _ rfl, HDV.out]
    exact (ho8.off hlt3 hf9).base hw1
    rw [HE.out, ifB_ok _ rfl, HBODY.out]
    exact (ho9.off hlt4 hf9).base hb6.size

end Go.Proofs.Ytdjldipiggfjdaa
