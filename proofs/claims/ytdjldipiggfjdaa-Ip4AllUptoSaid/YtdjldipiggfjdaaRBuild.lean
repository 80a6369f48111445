/-
  LAYER 3's second writing: a packet is refused or built: by contract. Conditions: a header whose numbers are of their types; readable options and body.
-/
import Derived.Test.YtdjldipiggfjdaaHeader
namespace Go.Proofs.Ytdjldipiggfjdaa
open Go.RowKit
set_option linter.unusedVariables false
set_option linter.unusedSimpArgs false

set_option maxHeartbeats 1600000 in
set_option maxRecDepth 100000 in
theorem refused_any (h : Hd) (hi : HdIn h) (A B : Option Addr) (c d : Nat) (body : List UInt8) (w : World) (ho : RD w A h.opts) (hx : RD w B body) :
    Calls Try.prog 87 #[.agg (pcells h A h.opts.length c B body.length d)] w fun e w' => e = .returned (.int .i64 (buildE h body)) ∧ Below w.heap.size w w' := by
  have HO := Sec.mk ho
  have lo := ho.len
  have lx := hx.len
  have f0 := hi.off0
  have f1 := hi.off1
  clear ho hx
  by_cases c1 : areaS h.opts = true
  rotate_left
  · have c1' : areaS h.opts = false := by simpa using c1
    have HAR := Sec.mk c1'
    have HE := Sec.mk (show buildE h body = 34 by unfold buildE; rw [if_neg c1])
    clear c1 c1'
    go_enter Try.func87, Try.ntmps87
    go_wp2_with (with_reducible refine bx_step w.heap.size rfl 1 rfl 37 _ rfl (pcells h A h.opts.length c B body.length d) rfl (Below.refl _ _) (Nat.le_refl _) ?_; intro g1 w1 hg1 hk1 hb10 hb1 hs1
                 obtain ⟨q0, q1, q2, q3, q4, q5, q6, q7, q8, q9⟩ := hk1.phead
                 have q10 := hk1.body)
    refine (area_any h.opts A c _ (HO.out.below hb1)).mono ?_
    rintro e w4 ⟨rfl, ⟨m4, rfl⟩⟩
    rw [HAR.out]
    go_wp2_with fail
    go_ret
    exact ⟨by rw [HE.out]; rfl, below_drewN hb1 _⟩
  have HAR := Sec.mk c1
  obtain ⟨l1, l2⟩ := areaS_len c1
  clear c1
  by_cases c2 : pieceS h.off body.length h.mf = true
  rotate_left
  · have c2' : pieceS h.off body.length h.mf = false := by simpa using c2
    have HPC := Sec.mk c2'
    have HE := Sec.mk (show buildE h body = 36 by unfold buildE; rw [if_pos HAR.out, if_neg c2])
    clear c2 c2'
    go_enter Try.func87, Try.ntmps87
    go_wp2_with (with_reducible refine bx_step w.heap.size rfl 1 rfl 37 _ rfl (pcells h A h.opts.length c B body.length d) rfl (Below.refl _ _) (Nat.le_refl _) ?_; intro g1 w1 hg1 hk1 hb10 hb1 hs1
                 obtain ⟨q0, q1, q2, q3, q4, q5, q6, q7, q8, q9⟩ := hk1.phead
                 have q10 := hk1.body)
    refine (area_any h.opts A c _ (HO.out.below hb1)).mono ?_
    rintro e w4 ⟨rfl, ⟨m4, rfl⟩⟩
    rw [HAR.out]
    go_wp2_with fail
    refine (piece_any h.off body.length h.mf _ f0 f1 (by omega) (by omega)).mono ?_
    rintro e w5 ⟨rfl, rfl⟩
    rw [HPC.out]
    go_wp2_with fail
    go_ret
    exact ⟨by rw [HE.out]; rfl, below_drewN hb1 _⟩
  have HPC := Sec.mk c2
  obtain ⟨p1, p2, p3, p4⟩ := pieceS_off c2
  clear c2
  by_cases c3 : (20 + h.opts.length + body.length : Int) > 65535
  · have HE := Sec.mk (show buildE h body = 37 by unfold buildE; rw [if_pos HAR.out, if_pos HPC.out, if_pos c3])
    go_enter Try.func87, Try.ntmps87
    go_wp2_with (with_reducible refine bx_step w.heap.size rfl 1 rfl 37 _ rfl (pcells h A h.opts.length c B body.length d) rfl (Below.refl _ _) (Nat.le_refl _) ?_; intro g1 w1 hg1 hk1 hb10 hb1 hs1
                 obtain ⟨q0, q1, q2, q3, q4, q5, q6, q7, q8, q9⟩ := hk1.phead
                 have q10 := hk1.body)
    refine (area_any h.opts A c _ (HO.out.below hb1)).mono ?_
    rintro e w4 ⟨rfl, ⟨m4, rfl⟩⟩
    rw [HAR.out]
    go_wp2_with fail
    refine (piece_any h.off body.length h.mf _ f0 f1 (by omega) (by omega)).mono ?_
    rintro e w5 ⟨rfl, rfl⟩
    rw [HPC.out]
    go_wp2_with fail
    go_ret
    exact ⟨by rw [HE.out]; rfl, below_drewN hb1 _⟩
  · have HE := Sec.mk (show buildE h body = 0 by unfold buildE; rw [if_pos HAR.out, if_pos HPC.out, if_neg c3])
    have c3b : decide ((65535 : Int) < 20 + h.opts.length + body.length) = false := decide_eq_false (by omega)
    have c3' : (20 + h.opts.length + body.length : Int) ≤ 65535 := by omega
    clear c3
    go_enter Try.func87, Try.ntmps87
    go_wp2_with (with_reducible refine bx_step w.heap.size rfl 1 rfl 37 _ rfl (pcells h A h.opts.length c B body.length d) rfl (Below.refl _ _) (Nat.le_refl _) ?_; intro g1 w1 hg1 hk1 hb10 hb1 hs1
                 obtain ⟨q0, q1, q2, q3, q4, q5, q6, q7, q8, q9⟩ := hk1.phead
                 have q10 := hk1.body)
    refine (area_any h.opts A c _ (HO.out.below hb1)).mono ?_
    rintro e w4 ⟨rfl, ⟨m4, rfl⟩⟩
    rw [HAR.out]
    go_wp2_with fail
    refine (piece_any h.off body.length h.mf _ f0 f1 (by omega) (by omega)).mono ?_
    rintro e w5 ⟨rfl, rfl⟩
    rw [HPC.out]
    go_wp2_with fail
    go_ret
    exact ⟨by rw [HE.out]; rfl, below_drewN hb1 _⟩

theorem buildE_ok {h : Hd} {body : List UInt8} (he : buildE h body = 0) : areaS h.opts = true ∧ pieceS h.off body.length h.mf = true ∧ (20 + h.opts.length + body.length : Int) ≤ 65535 := by
  unfold buildE at he
  split at he
  · split at he
    · split at he
      · omega
      · exact ⟨by assumption, by assumption, by omega⟩
    · omega
  · omega

set_option maxHeartbeats 1600000 in
set_option maxRecDepth 100000 in
theorem rbuild_any (h : Hd) (hi : HdIn h) (A B : Option Addr) (c d : Nat) (body : List UInt8) (w : World) (ho : RD w A h.opts) (hoc : h.opts.length ≤ c) (hx : RD w B body) :
    Calls Try.prog 43 #[.agg (pcells h A h.opts.length c B body.length d)] w fun e w' => ∃ A1 c1,
      e = .returned (.tuple #[.slice A1 (ifB (buildE h body) (buildS h body)).length c1, .int .i64 (buildE h body)]) ∧ Own 5 w' w.heap.size A1 c1 (ifB (buildE h body) (buildS h body)) ∧ Below w.heap.size w w' := by
  have HO := Sec.mk ho
  have HX := Sec.mk hx
  have lo := ho.len
  have lx := hx.len
  clear ho hx
  by_cases ce : buildE h body = 0
  rotate_left
  · obtain ⟨E, hE⟩ : ∃ E, E = buildE h body := ⟨_, rfl⟩
    have HE := Sec.mk hE
    have c1b : (E != 0) = true := bne_iff_ne.mpr (by rw [hE]; exact ce)
    have HB := Sec.mk (ifB_no (buildS h body) ce)
    clear ce hE
    go_enter Try.func43, Try.ntmps43
    go_wp2_with (first
      | (with_reducible refine bx_step w.heap.size rfl 1 rfl 37 _ rfl (pcells h A h.opts.length c B body.length d) rfl (Below.refl _ _) (Nat.le_refl _) ?_; intro g1 w1 hg1 hk1 hb10 hb1 hs1)
      | (with_reducible refine ld_row rfl 37 (.tmp 1) rfl g1 rfl 37 _ hk1 _ Try.underlying37 rfl (pktSize' _ _ _ _ _ _ _) ?_))
    refine (refused_any h hi A B c d body _ (HO.out.below hb1) (HX.out.below hb1)).mono ?_
    rintro e w2 ⟨rfl, hb2⟩
    rw [← HE.out]
    go_wp2_with fail
    go_ret2
    rw [HB.out]
    exact ⟨none, 0, by rw [← HE.out]; rfl, .nil, below_on hb1 hb2⟩
  · obtain ⟨e1, e2, e3⟩ := buildE_ok ce
    obtain ⟨l1, l2⟩ := areaS_len e1
    obtain ⟨p1, p2, p3, p4⟩ := pieceS_off e2
    have HE := Sec.mk ce
    have HB := Sec.mk (ifB_ok (buildS h body) ce)
    clear ce e1 e2
    obtain ⟨N, hN⟩ : ∃ N : Int, N = 20 + h.opts.length + body.length := ⟨_, rfl⟩
    have N0 : 0 ≤ N := by omega
    have N1 : N ≤ 65535 := by omega
    have HN := Sec.mk hN
    clear hN
    go_enter Try.func43, Try.ntmps43
    go_wp2_with (first
      | (with_reducible refine bx_step w.heap.size rfl 1 rfl 37 _ rfl (pcells h A h.opts.length c B body.length d) rfl (Below.refl _ _) (Nat.le_refl _) ?_; intro g1 w1 hg1 hk1 hb10 hb1 hs1)
      | (with_reducible refine ld_row rfl 37 (.tmp 1) rfl g1 rfl 37 _ hk1 _ Try.underlying37 rfl (pktSize' _ _ _ _ _ _ _) ?_))
    refine (refused_any h hi A B c d body _ (HO.out.below hb1) (HX.out.below hb1)).mono ?_
    rintro e w2 ⟨rfl, hb2⟩
    rw [HE.out]
    have hk2 := hk1.below hb2
    have hbw2 := below_on hb1 hb2
    obtain ⟨q0, q1, q2, q3, q4, q5, q6, q7, q8, q9⟩ := hk2.phead
    have q10 := hk2.body
    go_wp2_with (refine ld_mid rfl 35 (.tmp 24) rfl g1 0 rfl 37 _ hk2 (hcells h A h.opts.length c) (by kernel_rfl) _ Try.underlying35 rfl (headSize' _ _ _ _) ?_)
    rw [← HN.out]
    refine (header_any h hi A c N 0 _ (HO.out.below hbw2) l1 p1 p2 N0 N1 (by omega) (by omega)).mono ?_
    rintro e w3 ⟨A3, c3, z3, rfl, hz3, ho3, hb3⟩
    have hbw3 := below_on hbw2 hb3
    have hk3 := hk2.below hb3
    clear q0 q1 q2 q3 q4 q5 q6 q7 q8 q9 q10
    have lz3 : z3.length ≤ 60 := by rw [hz3.out, List.length_append, hdr_length]; omega
    go_wp2_with fail
    refine (rsum_any [z3] _ _ _ (RDs.alloc1 (by simp) 30 ho3.cap ho3.reads) (by simp; omega)).mono ?_
    rintro e w4 ⟨rfl, hb4⟩
    rw [show [z3].flatten = z3 from by simp]
    obtain ⟨sm, hsm⟩ : ∃ sm, sm = sumS z3 := ⟨_, rfl⟩
    have sm0 : 0 ≤ sm := by rw [hsm]; exact sumS_lo _
    have sm1 : sm ≤ 65535 := by rw [hsm]; exact sumS_hi _
    have HSM : Sec (sm = sumS (hdr h N 0 ++ h.opts)) := ⟨by rw [hsm, hz3.out]⟩
    rw [← hsm]
    clear hsm
    have hk4 := (hk3.alloc (.cells #[.slice A3 z3.length c3] 30)).below hb4
    have hbw4 := below_on (below_new hbw3 (.cells #[.slice A3 z3.length c3] 30)) hb4
    obtain ⟨q0, q1, q2, q3, q4, q5, q6, q7, q8, q9⟩ := hk4.phead
    have q10 := hk4.body
    go_wp2_with (refine ld_mid rfl 35 (.tmp 31) rfl g1 0 rfl 37 _ hk4 (hcells h A h.opts.length c) (by kernel_rfl) _ Try.underlying35 rfl (headSize' _ _ _ _) ?_)
    refine (header_any h hi A c N sm _ (HO.out.below hbw4) l1 p1 p2 N0 N1 sm0 sm1).mono ?_
    rintro e w5 ⟨A5, c5, z5, rfl, hz5, ho5, hb5⟩
    have hbw5 := below_on hbw4 hb5
    have hk5 := hk4.below hb5
    clear q0 q1 q2 q3 q4 q5 q6 q7 q8 q9 q10
    have lz5 : z5.length ≤ 60 := by rw [hz5.out, List.length_append, hdr_length]; omega
    have q10 := hk5.body
    obtain ⟨b5, hb5e⟩ : ∃ b, b = w4.heap.size := ⟨_, rfl⟩
    have g1lt : g1 < b5 := by rw [hb5e]; exact hk4.lt
    have hwb : w.heap.size ≤ b5 := by rw [hb5e]; exact hbw4.size
    have hge : b5 ≤ w5.heap.size := by rw [hb5e]; exact hb5.size
    rw [← hb5e] at ho5
    clear hb5e
    clear q10
    have LX : body.length ≤ 65535 := by omega
    have K10 : Sec (∀ W : World, Below b5 w5 W → W.cell? ⟨g1, 10, none⟩ = some (.slice B body.length d)) := ⟨fun W hb => (show Blk W g1 37 (pcells h A h.opts.length c B body.length d) from ⟨(hb.block _ g1lt).trans hk5.out⟩).body⟩
    have q10 := K10.out w5 (Below.refl _ _)
    go_wp2_with fail
    go_loopw [8, 9] (fun v i wr => ∃ (k : Int) (D : Option Addr) (dd : Nat) (zs : List UInt8), 0 ≤ k ∧ k ≤ body.length ∧ i = .int .i64 k ∧ v = .slice D zs.length dd ∧ Sec (zs = z5 ++ body.take k.toNat) ∧ Sec (Own 5 wr b5 D dd zs) ∧ Sec (Below b5 w5 wr) ∧ Sec (b5 ≤ wr.heap.size)) (fun _ i _ => body.length - (intOf i).toNat)
    case atStart => exact ⟨0, A5, c5, _, by omega, by omega, rfl, rfl, ⟨by simp⟩, ⟨ho5⟩, ⟨Below.refl _ _⟩, ⟨hge⟩⟩
    case round =>
      obtain ⟨k, D, dd, zs, hk0, hk, rfl, rfl, HZ, HO', HB', HG'⟩ := hrel
      have r10 := K10.out _ HB'.out
      by_cases hlt : k < (body.length : Int)
      · obtain ⟨ad, rfl, ha⟩ := (HX.out.below (hbw5.trans (HB'.out.mono hwb))).get k hk0 hlt
        have b0 := rb_lo body k
        have b1' := rb_hi body k
        go_wp2_with (first
          | (at_builtin; refine app_one (w0 := w5) b5 rfl (.tmp 43) (.tmp 49) 30 5 rfl Try.underlying30 byteInfo D dd zs (rb body k) zs.length rfl b0 b1' rfl rfl HO'.out HB'.out HG'.out (by have := congrArg List.length HZ.out; rw [List.length_append, List.length_take] at this; omega) ?_
             intro A2 c2 w2 ys hz2 ho2 hb2 hs2))
        go_roundw
        case rel => exact ⟨k + 1, A2, c2, ys, by omega, by omega, rfl, rfl, ⟨by rw [hz2.out, HZ.out, take_rb body k hk0 hlt, List.append_assoc]⟩, ⟨ho2⟩, ⟨hb2⟩, ⟨Nat.le_trans HG'.out hs2⟩⟩
        case measure => simp [intOf]; omega
      · go_wp2
        go_ret2
        have hz : zs = buildS h body := by
          rw [HZ.out, List.take_of_length_le (by omega), hz5.out, HSM.out]
          unfold buildS headW
          rw [← HN.out]
        subst hz
        rw [HB.out, HE.out]
        exact ⟨D, dd, rfl, HO'.out.base hwb, hbw5.trans (HB'.out.mono hwb)⟩

end Go.Proofs.Ytdjldipiggfjdaa
