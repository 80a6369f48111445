/-
  LAYER 3's program: a packet is read from its front alone: by contract, in any world. Conditions: as in the text before.
-/
import Derived.Test.YtdjldipiggfjdaaPacket
namespace Go.Proofs.Ytdjldipiggfjdaa
open Go.RowKit
set_option linter.unusedVariables false
set_option linter.unusedSimpArgs false

set_option maxHeartbeats 1600000 in
set_option maxRecDepth 100000 in
theorem peek_any (b : List UInt8) (A : Option Addr) (c : Nat) (w : World) (hx : RD w A b) (hc : b.length ≤ c) :
    Calls Try.prog 56 #[.slice A b.length c] w fun e w' => ∃ A1 c1 A2 c2,
      e = .returned (.tuple #[.agg (hcells (ifH (parseE b false) (hdS b)) A1 (ifH (parseE b false) (hdS b)).opts.length c1), .slice A2 (ifB (parseE b false) (bodyS b)).length c2, .int .i64 (parseE b false)]) ∧
      Own 5 w' w.heap.size A1 c1 (ifH (parseE b false) (hdS b)).opts ∧ Own 5 w' w.heap.size A2 c2 (ifB (parseE b false) (bodyS b)) ∧ Apart A1 c1 A2 c2 ∧ Below w.heap.size w w' := by
  have HX := Sec.mk hx
  have lx := hx.len
  clear hx
  by_cases c1 : parseE b false = 0
  rotate_left
  · obtain ⟨E, hE⟩ : ∃ E, E = parseE b false := ⟨_, rfl⟩
    have HE := Sec.mk hE
    have c1b : (E != 0) = true := bne_iff_ne.mpr (by rw [hE]; exact c1)
    have HH := Sec.mk (ifH_no (hdS b) (show E ≠ 0 by rw [hE]; exact c1))
    have HB := Sec.mk (ifB_no (bodyS b) (show E ≠ 0 by rw [hE]; exact c1))
    have HZ := Sec.mk (fun x => ifz_no (e := E) x (show E ≠ 0 by rw [hE]; exact c1))
    rw [← hE]
    clear c1 hE
    go_enter Try.func56, Try.ntmps56
    go_wp2_with (with_reducible refine al_step w.heap.size rfl 2 rfl 35 rfl (hcells Hd.zero none 0 0) headZero (Below.refl _ _) (Nat.le_refl _) ?_; intro g w1 hg hblk hb0 hb1 hs1)
    refine (read_any b A c false _ (HX.out.below hb1) hc).mono ?_
    rintro e w2 ⟨rfl, hb2⟩
    rw [← HE.out, HH.out, HZ.out, HZ.out]
    have hbw := below_on hb1 hb2
    have hblk2 := hblk.below hb2
    go_wp2_with (first
      | (with_reducible refine al_step w.heap.size rfl 5 rfl 35 rfl (hcells Hd.zero none 0 0) headZero hbw hbw.size ?_; intro g3 w3 hg3 hk3 hb30 hb3 hs3
         have hblk3 := hblk2.below hb30
         have hne : g ≠ g3 := by have := hblk2.lt; omega)
      | (with_reducible refine st_row (w0 := w) w.heap.size rfl 35 (.tmp 5) _ rfl g3 _ rfl rfl 35 _ hk3 (headSize' _ _ _ _) (hcells_sizes _ _ _ _ _ _ _ _) (hcells_one _ _ _ _) hb3 (Nat.le_trans hbw.size hg3) ?_
         intro w4 hk4 hb4 hf4 hs4
         have hblk4 := hblk3.fr hf4 (fun _ => hne))
      | (refine st_row (w0 := w) w.heap.size rfl 35 (.tmp 2) _ rfl g (hcells Hd.zero none 0 0) rfl rfl 35 _ hblk4 (headSize' _ _ _ _) (hcells_sizes _ _ _ _ _ _ _ _) (hcells_one _ _ _ _) hb4 hg ?_
         intro w5 hk5 hb5 hf5 hs5))
    rw [HH.out, HB.out]
    refine bodyPost_ret (res_ctt rfl rfl hk5 Try.underlying35 rfl (headSize' _ _ _ _)) rfl ⟨none, 0, none, 0, rfl, .nil, .nil, (fun a1 a2 h1 => by cases h1), hb5⟩
  · obtain ⟨f1, f2, f3, f4, f5, f6⟩ := frontE_ok (parseE_ok c1)
    clear f6
    have C1 := Sec.mk c1
    obtain ⟨h, hh⟩ : ∃ h, h = hdS b := ⟨_, rfl⟩
    obtain ⟨hd, hhd⟩ : ∃ hd, hd = headS b := ⟨_, rfl⟩
    obtain ⟨t0, ht0⟩ : ∃ t, t = w2 b 2 := ⟨_, rfl⟩
    obtain ⟨t, ht⟩ : ∃ t : Int, t = min t0 b.length := ⟨_, rfl⟩
    rw [← hhd] at f3 f4 f5
    rw [← ht0] at f5
    have f6 : t ≤ b.length := by omega
    have f7 : hd ≤ t := by omega
    obtain ⟨OA, oc, os, HOS, hol, HRO, hoc, hcut1⟩ := cut_lohi (P := Try.prog) Try.underlying30 byteInfo HX.out hc .i64 .i64 20 hd (by omega) f3 f4
    obtain ⟨BA, bc, bs, HBS, hbl, HRB, hbc, hcut2⟩ := cut_lohi (P := Try.prog) Try.underlying30 byteInfo HX.out hc .i64 .i64 hd t (by omega) f7 f6
    have HOPT : Sec (h.opts = os) := ⟨by rw [HOS.out, hh, hhd]; rfl⟩
    have HBODY : Sec (bodyS b = bs) := ⟨by
      rw [HBS.out]
      unfold bodyS
      rw [← hhd, ← ht0]
      congr 1
      rcases Int.le_total t0 b.length with hle | hle
      · rw [show t = t0 from by omega]
      · rw [show t = (b.length : Int) from by omega, List.take_of_length_le (by omega), List.take_of_length_le (by omega)]⟩
    have hsum : os.length + bs.length ≤ 140737488351232 := by omega
    have HOL := Sec.mk hol
    have HBL := Sec.mk hbl
    have HH := Sec.mk hh
    have HD := Sec.mk hhd
    have HT := Sec.mk ht
    have HT0 := Sec.mk ht0
    rw [c1, ifH_ok _ rfl, ifB_ok _ rfl, ← hh, HBODY.out, HOPT.out]
    clear c1 f2 hh hhd hol hbl
    by_cases hle : t0 ≤ b.length
    · obtain rfl : t = t0 := by omega
      clear ht ht0
      go_enter Try.func56, Try.ntmps56
      go_wp2_with (with_reducible refine al_step w.heap.size rfl 2 rfl 35 rfl (hcells Hd.zero none 0 0) headZero (Below.refl _ _) (Nat.le_refl _) ?_; intro g w1 hg hblk hb0 hb1 hs1)
      refine (read_any b A c false _ (HX.out.below hb1) hc).mono ?_
      rintro e w2 ⟨rfl, hb2⟩
      rw [C1.out, ifH_ok _ rfl, ifz_ok _ rfl, ifz_ok _ rfl, ← HH.out, ← HD.out, ← HT0.out]
      have hbw := below_on hb1 hb2
      have hblk2 := hblk.below hb2
      go_wp2_with (first
        | (with_reducible refine al_step w.heap.size rfl 5 rfl 35 rfl (hcells Hd.zero none 0 0) headZero hbw hbw.size ?_; intro g3 w3 hg3 hk3 hb30 hb3 hs3
           have hblk3 := hblk2.below hb30
           have hne : g ≠ g3 := by have := hblk2.lt; omega)
        | (with_reducible refine st_row (w0 := w) w.heap.size rfl 35 (.tmp 5) _ rfl g3 _ rfl rfl 35 _ hk3 (headSize' _ _ _ _) (hcells_sizes _ _ _ _ _ _ _ _) (hcells_one _ _ _ _) hb3 (Nat.le_trans hbw.size hg3) ?_
           intro w4 hk4 hb4 hf4 hs4
           have hblk4 := hblk3.fr hf4 (fun _ => hne)))
      go_region_with (go_at_call 97
                      go_loud (refine (apart_any os bs OA BA oc bc _ (HRO.out.below hb4.drew) (HRB.out.below hb4.drew) hsum).mono ?_
                               rintro e w7 ⟨A1, c1, A2, c2, rfl, ho1, ho2, hap, hb7⟩
                               have hk7 := Blk.below hk4.drew hb7
                               have q9 := hk7.cell 9 _ rfl
                               have q9f := hk7.frozen))
      have hlt : g3 < w4.drew.heap.size := hk4.lt
      have hgl : g < w4.drew.heap.size := by show g < w4.heap.size; have := hblk4.lt; omega
      have hgn : g ≠ g3 := by have := hblk2.lt; omega
      have hblk8 := ((hblk4.drew.below hb7).far (p := ⟨g3, 9, none⟩) hgn (.slice A1 os.length c1))
      have hk8 := (hk7.set 9 (.slice A1 os.length c1) (hcells h A1 os.length c1) rfl)
      have ho1' := ho1.set hlt 9 (.slice A1 os.length c1)
      have ho2' := ho2.set hlt 9 (.slice A1 os.length c1)
      have hgw : w.heap.size ≤ g3 := Nat.le_trans hbw.size hg3
      have hb8 := (below_on hb4.drew hb7).setCell (p := ⟨g3, 9, none⟩) hgw (.slice A1 os.length c1)
      generalize (w7.setCell ⟨g3, 9, none⟩ (.slice A1 os.length c1)) = W8 at hblk8 hk8 ho1' ho2' hb8 ⊢
      clear ho1 ho2 hk7 q9 q9f hb7 hk4
      go_wp2_with (first
        | (with_reducible refine ld_row rfl 35 (.tmp 5) rfl g3 rfl 35 _ hk8 _ Try.underlying35 rfl (headSize' _ _ _ _) ?_)
        | (with_reducible refine st_row (w0 := w) w.heap.size rfl 35 (.tmp 2) _ rfl g _ rfl rfl 35 _ hblk8 (headSize' _ _ _ _) (hcells_sizes _ _ _ _ _ _ _ _) (hcells_one _ _ _ _) hb8 hg ?_
           intro w9 hk9 hb9 hf9 hs9))
      refine bodyPost_ret (res_ctt rfl rfl hk9 Try.underlying35 rfl (headSize' _ _ _ _)) rfl ⟨A1, c1, A2, c2, rfl, (ho1'.off hgl hf9).base hb4.size, (ho2'.off hgl hf9).base hb4.size, hap, hb9⟩
    · have hlt0 : (b.length : Int) < t0 := by omega
      obtain rfl : t = b.length := by omega
      clear ht ht0 hle
      go_enter Try.func56, Try.ntmps56
      go_wp2_with (with_reducible refine al_step w.heap.size rfl 2 rfl 35 rfl (hcells Hd.zero none 0 0) headZero (Below.refl _ _) (Nat.le_refl _) ?_; intro g w1 hg hblk hb0 hb1 hs1)
      refine (read_any b A c false _ (HX.out.below hb1) hc).mono ?_
      rintro e w2 ⟨rfl, hb2⟩
      rw [C1.out, ifH_ok _ rfl, ifz_ok _ rfl, ifz_ok _ rfl, ← HH.out, ← HD.out, ← HT0.out]
      have hbw := below_on hb1 hb2
      have hblk2 := hblk.below hb2
      go_wp2_with (first
        | (with_reducible refine al_step w.heap.size rfl 5 rfl 35 rfl (hcells Hd.zero none 0 0) headZero hbw hbw.size ?_; intro g3 w3 hg3 hk3 hb30 hb3 hs3
           have hblk3 := hblk2.below hb30
           have hne : g ≠ g3 := by have := hblk2.lt; omega)
        | (with_reducible refine st_row (w0 := w) w.heap.size rfl 35 (.tmp 5) _ rfl g3 _ rfl rfl 35 _ hk3 (headSize' _ _ _ _) (hcells_sizes _ _ _ _ _ _ _ _) (hcells_one _ _ _ _) hb3 (Nat.le_trans hbw.size hg3) ?_
           intro w4 hk4 hb4 hf4 hs4
           have hblk4 := hblk3.fr hf4 (fun _ => hne)))
      go_region_with (go_at_call 97
                      go_loud (refine (apart_any os bs OA BA oc bc _ (HRO.out.below hb4.drew) (HRB.out.below hb4.drew) hsum).mono ?_
                               rintro e w7 ⟨A1, c1, A2, c2, rfl, ho1, ho2, hap, hb7⟩
                               have hk7 := Blk.below hk4.drew hb7
                               have q9 := hk7.cell 9 _ rfl
                               have q9f := hk7.frozen))
      have hlt : g3 < w4.drew.heap.size := hk4.lt
      have hgl : g < w4.drew.heap.size := by show g < w4.heap.size; have := hblk4.lt; omega
      have hgn : g ≠ g3 := by have := hblk2.lt; omega
      have hblk8 := ((hblk4.drew.below hb7).far (p := ⟨g3, 9, none⟩) hgn (.slice A1 os.length c1))
      have hk8 := (hk7.set 9 (.slice A1 os.length c1) (hcells h A1 os.length c1) rfl)
      have ho1' := ho1.set hlt 9 (.slice A1 os.length c1)
      have ho2' := ho2.set hlt 9 (.slice A1 os.length c1)
      have hgw : w.heap.size ≤ g3 := Nat.le_trans hbw.size hg3
      have hb8 := (below_on hb4.drew hb7).setCell (p := ⟨g3, 9, none⟩) hgw (.slice A1 os.length c1)
      generalize (w7.setCell ⟨g3, 9, none⟩ (.slice A1 os.length c1)) = W8 at hblk8 hk8 ho1' ho2' hb8 ⊢
      clear ho1 ho2 hk7 q9 q9f hb7 hk4
      go_wp2_with (first
        | (with_reducible refine ld_row rfl 35 (.tmp 5) rfl g3 rfl 35 _ hk8 _ Try.underlying35 rfl (headSize' _ _ _ _) ?_)
        | (with_reducible refine st_row (w0 := w) w.heap.size rfl 35 (.tmp 2) _ rfl g _ rfl rfl 35 _ hblk8 (headSize' _ _ _ _) (hcells_sizes _ _ _ _ _ _ _ _) (hcells_one _ _ _ _) hb8 hg ?_
           intro w9 hk9 hb9 hf9 hs9))
      refine bodyPost_ret (res_ctt rfl rfl hk9 Try.underlying35 rfl (headSize' _ _ _ _)) rfl ⟨A1, c1, A2, c2, rfl, (ho1'.off hgl hf9).base hb4.size, (ho2'.off hgl hf9).base hb4.size, hap, hb9⟩

end Go.Proofs.Ytdjldipiggfjdaa
