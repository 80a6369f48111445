/-
  LAYER 3's statements: what they compare with: same, heads, packets, join: by contract, in any world: equal data are told equal. Conditions: readable bytes.
-/
import Derived.Test.YtdjldipiggfjdaaAge
import Derived.Test.YtdjldipiggfjdaaCopy
import Derived.Test.YtdjldipiggfjdaaRPeek
namespace Go.Proofs.Ytdjldipiggfjdaa
open Go.RowKit
set_option linter.unusedVariables false
set_option linter.unusedSimpArgs false

set_option maxHeartbeats 800000 in
theorem same_true (xs : List UInt8) (A B : Option Addr) (c d : Nat) (w : World) (hx : RD w A xs) (hy : RD w B xs) :
    Calls Try.prog 48 #[.slice A xs.length c, .slice B xs.length d] w fun e w' => e = .returned (.bool true) ∧ Dr w w' := by
  have HX := Sec.mk hx
  have HY := Sec.mk hy
  have lx := hx.len
  clear hx hy
  go_enter Try.func48, Try.ntmps48
  go_wp2
  go_loopw [5] (fun i wr => ∃ k : Int, 0 ≤ k ∧ k ≤ xs.length ∧ i = .int .i64 k ∧ Sec (Dr w wr)) (fun i _ => xs.length - (intOf i).toNat)
  case atStart => exact ⟨0, by omega, by omega, rfl, ⟨Dr.refl _⟩⟩
  case round =>
    obtain ⟨k, hk0, hk, rfl, HD⟩ := hrel
    by_cases hlt : k < (xs.length : Int)
    · obtain ⟨ad, rfl, ha⟩ := (HX.out.dr HD.out).get k hk0 hlt
      obtain ⟨bd, rfl, hb⟩ := (HY.out.dr HD.out).get k hk0 hlt
      go_wp2
      go_quiet (fail)
      go_wp2
      go_roundw
      case rel => exact ⟨k + 1, by omega, by omega, rfl, ⟨HD.out.step _⟩⟩
      case measure => simp [intOf]; omega
    · go_wp2
      go_ret
      exact ⟨rfl, HD.out⟩

set_option maxHeartbeats 1600000 in
set_option maxRecDepth 100000 in
theorem heads_true (h : Hd) (A B : Option Addr) (c d : Nat) (w : World) (hx : RD w A h.opts) (hy : RD w B h.opts) :
    Calls Try.prog 58 #[.agg (hcells h A h.opts.length c), .agg (hcells h B h.opts.length d)] w fun e w' => e = .returned (.bool true) ∧ Below w.heap.size w w' := by
  have HX := Sec.mk hx
  have HY := Sec.mk hy
  clear hx hy
  go_enter Try.func58, Try.ntmps58
  go_wp2_with (first
    | (with_reducible refine bx_step w.heap.size rfl 2 rfl 35 _ rfl (hcells h A h.opts.length c) rfl (Below.refl _ _) (Nat.le_refl _) ?_; intro g1 w1 hg1 hk1 hb10 hb1 hs1)
    | (with_reducible refine bx_step w.heap.size rfl 3 rfl 35 _ rfl (hcells h B h.opts.length d) rfl hb1 hb1.size ?_; intro g2 w2 hg2 hk2 hb20 hb2 hs2
       have hk1 := hk1.below hb20
       obtain ⟨q0, q1, q2, q3, q4, q5, q6, q7, q8, q9⟩ := hk1.head
       obtain ⟨p0, p1, p2, p3, p4, p5, p6, p7, p8, p9⟩ := hk2.head)
    | (go_at_call 48
       refine (same_true h.opts A B c d _ (HX.out.below hb2) (HY.out.below hb2)).mono ?_
       rintro e w3 ⟨rfl, hd3⟩))
  go_ret
  exact ⟨rfl, below_on hb2 hd3.below⟩

set_option maxHeartbeats 1600000 in
set_option maxRecDepth 100000 in
theorem packets_true (h : Hd) (A B : Option Addr) (c d : Nat) (bs : List UInt8) (A2 B2 : Option Addr) (c2 d2 : Nat) (w : World) (hx : RD w A h.opts) (hy : RD w B h.opts) (hx2 : RD w A2 bs) (hy2 : RD w B2 bs) :
    Calls Try.prog 54 #[.agg (pcells h A h.opts.length c A2 bs.length c2), .agg (pcells h B h.opts.length d B2 bs.length d2)] w fun e w' => e = .returned (.bool true) ∧ Below w.heap.size w w' := by
  have HX := Sec.mk hx
  have HY := Sec.mk hy
  have HX2 := Sec.mk hx2
  have HY2 := Sec.mk hy2
  clear hx hy hx2 hy2
  go_enter Try.func54, Try.ntmps54
  go_wp2_with (first
    | (with_reducible refine bx_step w.heap.size rfl 2 rfl 37 _ rfl (pcells h A h.opts.length c A2 bs.length c2) rfl (Below.refl _ _) (Nat.le_refl _) ?_; intro g1 w1 hg1 hk1 hb10 hb1 hs1)
    | (with_reducible refine bx_step w.heap.size rfl 3 rfl 37 _ rfl (pcells h B h.opts.length d B2 bs.length d2) rfl hb1 hb1.size ?_; intro g2 w2 hg2 hk2 hb20 hb2 hs2
       have hk1 := hk1.below hb20)
    | (refine ld_mid rfl 35 (.tmp 5) rfl g1 0 rfl 37 _ hk1 (hcells h A h.opts.length c) (by kernel_rfl) _ Try.underlying35 rfl (headSize' _ _ _ _) ?_)
    | (refine ld_mid rfl 35 (.tmp 7) rfl g2 0 rfl 37 _ hk2 (hcells h B h.opts.length d) (by kernel_rfl) _ Try.underlying35 rfl (headSize' _ _ _ _) ?_)
    | (go_at_call 58
       refine (heads_true h A B c d _ (HX.out.below hb2) (HY.out.below hb2)).mono ?_
       rintro e w3 ⟨rfl, hb3⟩
       have hk13 := hk1.below hb3
       have hk23 := hk2.below hb3
       have q10 := hk13.cell 10 (.slice A2 bs.length c2) rfl
       have p10 := hk23.cell 10 (.slice B2 bs.length d2) rfl)
    | (go_at_call 48
       refine (same_true bs A2 B2 c2 d2 _ (HX2.out.below (below_on hb2 hb3)) (HY2.out.below (below_on hb2 hb3))).mono ?_
       rintro e w4 ⟨rfl, hd4⟩))
  go_ret
  exact ⟨rfl, below_on (below_on hb2 hb3) hd4.below⟩

set_option maxHeartbeats 800000 in
theorem join_any (xss : List (List UInt8)) (A : Option Addr) (c : Nat) (w : World) (hx : RDs w A xss) (hlen : xss.flatten.length ≤ 140737488351231) :
    Calls Try.prog 63 #[.slice A xss.length c] w fun e w' => ∃ A1 c1, e = .returned (.slice A1 xss.flatten.length c1) ∧ Own 5 w' w.heap.size A1 c1 xss.flatten ∧ Below w.heap.size w w' := by
  have HX := Sec.mk hx
  have lx := hx.len
  obtain ⟨F, hF⟩ : ∃ F, F = xss.flatten := ⟨_, rfl⟩
  have HF := Sec.mk hF
  have HLEN := Sec.mk hlen
  rw [← hF]
  clear hx hF hlen
  go_enter Try.func63, Try.ntmps63
  go_wp2
  go_loopw [3, 4] (fun v i wr => ∃ (k : Int) (A1 : Option Addr) (c1 : Nat) (zs : List UInt8), 0 ≤ k ∧ k ≤ xss.length ∧ i = .int .i64 k ∧ v = .slice A1 zs.length c1 ∧ Sec (zs = (xss.take k.toNat).flatten) ∧ Sec (Own 5 wr w.heap.size A1 c1 zs) ∧ Sec (Below w.heap.size w wr)) (fun _ i _ => xss.length - (intOf i).toNat)
  case atStart => exact ⟨0, none, 0, [], by omega, by omega, rfl, rfl, ⟨by simp⟩, ⟨.nil⟩, ⟨Below.refl _ _⟩⟩
  case round =>
    obtain ⟨k, A1, c1, zs, hk0, hk, rfl, rfl, HZ, HO, HB⟩ := hrel
    obtain ⟨wo, rfl⟩ : ∃ wo : World, wo = wr := ⟨_, rfl⟩
    by_cases hlt : k < (xss.length : Int)
    · obtain ⟨ad, A2, c2, rfl, hc, hle, hr⟩ := HX.out.get k hk0 hlt
      obtain ⟨ys, hys⟩ : ∃ ys, ys = ri xss k := ⟨_, rfl⟩
      rw [← hys] at hc hle hr
      have HYS := Sec.mk hys
      have HR := Sec.mk hr
      have HC := Sec.mk hc
      have ly := hr.len
      have hpl : zs.length + ys.length ≤ 140737488351231 := by
        have := flat_take_le xss (k + 1).toNat
        rw [flat_take_succ xss k hk0 hlt, List.length_append, ← hys] at this
        rw [HZ.out]
        have := HLEN.out
        omega
      have HA : Sec (zs ++ ys = (xss.take (k + 1).toNat).flatten) := ⟨by rw [flat_take_succ xss k hk0 hlt, HZ.out, ← hys]⟩
      clear hys hr hc
      go_wp2
      go_loopw [3, 5] (fun v i wr => ∃ (q : Int) (A3 : Option Addr) (c3 : Nat) (us : List UInt8), 0 ≤ q ∧ q ≤ ys.length ∧ i = .int .i64 q ∧ v = .slice A3 us.length c3 ∧ Sec (us = zs ++ ys.take q.toNat) ∧ Sec (Own 5 wr w.heap.size A3 c3 us) ∧ Sec (Below w.heap.size w wr)) (fun _ i _ => ys.length - (intOf i).toNat)
      case atStart => exact ⟨0, A1, c1, zs, by omega, by omega, rfl, rfl, ⟨by simp⟩, HO, HB⟩
      case round =>
        obtain ⟨q, A3, c3, us, hq0, hq, rfl, rfl, HU, HO3, HB3⟩ := hrel
        have hc := cell_below HB3.out HC.out
        by_cases hlq : q < (ys.length : Int)
        · obtain ⟨bd, rfl, hb⟩ := (HR.out.below HB3.out).get q hq0 hlq
          have b0 := rb_lo ys q
          have b1 := rb_hi ys q
          have HUL : Sec (us.length + 1 ≤ 140737488351232) := ⟨by rw [HU.out, List.length_append, List.length_take]; omega⟩
          go_wp2_with (first
            | (at_builtin; refine app_one w.heap.size rfl (.tmp 21) (.tmp 29) 30 5 rfl Try.underlying30 byteInfo A3 c3 us (rb ys q) us.length rfl b0 b1 rfl rfl HO3.out HB3.out HB3.out.size HUL.out ?_
               intro A4 c4 w4 ts hts ho4 hb4 hs4))
          go_roundw
          case rel => exact ⟨q + 1, A4, c4, ts, by omega, by omega, rfl, rfl, ⟨by rw [hts.out, HU.out, take_rb ys q hq0 hlq, List.append_assoc]⟩, ⟨ho4⟩, ⟨hb4⟩⟩
          case measure => simp [intOf]; omega
        · go_wp2
          go_roundw
          case rel => exact ⟨k + 1, A3, c3, us, by omega, by omega, rfl, rfl, ⟨by rw [HU.out, List.take_of_length_le (by omega), HA.out]⟩, HO3, HB3⟩
          case measure => simp [intOf]; omega
    · go_wp2
      go_ret
      have hz : zs = F := by rw [HF.out, HZ.out, List.take_of_length_le (by omega)]
      subst hz
      exact ⟨A1, c1, rfl, HO.out, HB.out⟩

end Go.Proofs.Ytdjldipiggfjdaa
