/-
  LAYER 3's second writing: a number's two bytes are appended, a header is written out, a packet is refused: by contract. Conditions: numbers of their types; readable options.
-/
import Derived.Test.YtdjldipiggfjdaaBuild
namespace Go.Proofs.Ytdjldipiggfjdaa
open Go.RowKit
set_option linter.unusedVariables false
set_option linter.unusedSimpArgs false

theorem bv2 (a b : Int) (a0 : 0 ≤ a) (a1 : a ≤ 255) (b0 : 0 ≤ b) (b1 : b ≤ 255) : (#[.int .u8 a, .int .u8 b] : Array Value) = (bv [u8 a, u8 b]).toArray := by
  simp [bv, u8_val' a a0 a1, u8_val' b b0 b1]

set_option maxHeartbeats 800000 in
theorem put2_any (xs : List UInt8) (A : Option Addr) (c base : Nat) (v : Int) (w0 w : World) (hown : Own 5 w base A c xs) (HB : Below base w0 w) (hbase : base ≤ w.heap.size) (hl : xs.length + 2 ≤ 140737488351232) (v0 : 0 ≤ v) (v1 : v ≤ 65535) :
    Calls Try.prog 110 #[.slice A xs.length c, .int .i64 v] w fun e w' => ∃ A1 c1 zs, e = .returned (.slice A1 zs.length c1) ∧ Sec (zs = xs ++ [u8 (v / 256), u8 (v % 256)]) ∧ Own 5 w' base A1 c1 zs ∧ Below base w0 w' ∧ base ≤ w'.heap.size := by
  have HO := Sec.mk hown
  have HBB := Sec.mk HB
  have hq0 : 0 ≤ v / 256 := by omega
  have hq1 : v / 256 ≤ 255 := by omega
  have hr0 : 0 ≤ v % 256 := by omega
  have hr1 : v % 256 ≤ 255 := by omega
  clear hown HB
  go_enter Try.func110, Try.ntmps110
  go_wp2_with (at_builtin; refine app_many (w0 := w0) base rfl (.tmp 5) (.tmp 12) 30 5 rfl Try.underlying30 byteInfo A c xs _ [u8 (v / 256), u8 (v % 256)] (bv2 _ _ hq0 hq1 hr0 hr1) xs.length 2 rfl rfl rfl rfl HO.out HBB.out hbase (by simp; omega) ?_
               intro A1 c1 w1 zs hz ho1 hb1 hs1)
  go_ret
  exact ⟨A1, c1, zs, rfl, hz, ho1, hb1, Nat.le_trans hbase hs1⟩

/-- How the memory stands while a header is written out: the header's block, the bytes. -/
structure HS (w1 W : World) (g3 b1 : Nat) (h : Hd) (A : Option Addr) (c : Nat) (B : Option Addr) (d : Nat) (zs : List UInt8) : Prop where
  k3 : Blk W g3 35 (hcells h A h.opts.length c)
  own : Own 5 W b1 B d zs
  bel : Below b1 w1 W
  ge : b1 ≤ W.heap.size
  lt : g3 < b1
  k1 : Blk w1 g3 35 (hcells h A h.opts.length c)
theorem HS.next {w1 W W' : World} {g3 b1 : Nat} {h : Hd} {A : Option Addr} {c : Nat} {B B' : Option Addr} {d d' : Nat} {zs zs' : List UInt8} (s : HS w1 W g3 b1 h A c B d zs) (ho : Own 5 W' b1 B' d' zs') (hb : Below b1 w1 W') (hs : b1 ≤ W'.heap.size) : HS w1 W' g3 b1 h A c B' d' zs' :=
  ⟨⟨(hb.block _ s.lt).trans s.k1.out⟩, ho, hb, hs, s.lt, s.k1⟩
theorem hdr_laid (h : Hd) (n s : Int) : [u8 (69 + (h.opts.length : Int) / 4), u8 h.tos] ++ [u8 (n / 256), u8 (n % 256)] ++ [u8 (h.id / 256), u8 (h.id % 256)] ++ [u8 (fragW h / 256), u8 (fragW h % 256)] ++ [u8 h.ttl, u8 h.proto] ++ [u8 (s / 256), u8 (s % 256)] ++
    [u8 (h.src / 65536 / 256), u8 (h.src / 65536 % 256)] ++ [u8 (h.src % 65536 / 256), u8 (h.src % 65536 % 256)] ++ [u8 (h.dst / 65536 / 256), u8 (h.dst / 65536 % 256)] ++ [u8 (h.dst % 65536 / 256), u8 (h.dst % 65536 % 256)] = hdr h n s := rfl

set_option maxHeartbeats 3200000 in
set_option maxRecDepth 100000 in
theorem header_any (h : Hd) (hi : HdIn h) (A : Option Addr) (c : Nat) (n s : Int) (w : World) (hx : RD w A h.opts) (hlo : h.opts.length ≤ 40) (p1 : 0 ≤ h.off) (p2 : h.off ≤ 65528) (n0 : 0 ≤ n) (n1 : n ≤ 65535) (sm0 : 0 ≤ s) (sm1 : s ≤ 65535) :
    Calls Try.prog 88 #[.agg (hcells h A h.opts.length c), .int .i64 n, .int .u16 s] w fun e w' => ∃ A1 c1 zs,
      e = .returned (.slice A1 zs.length c1) ∧ Sec (zs = hdr h n s ++ h.opts) ∧ Own 5 w' w.heap.size A1 c1 zs ∧ Below w.heap.size w w' := by
  have HX := Sec.mk hx
  clear hx
  have r0 : 0 ≤ h.off / 8 := by omega
  have r1 : h.off / 8 ≤ 8191 := by omega
  have o1 : 69 + (h.opts.length : Int) / 4 ≤ 255 := by omega
  have o0 : 0 ≤ 69 + (h.opts.length : Int) / 4 := by omega
  have t0 := hi.tos0
  have t1 := hi.tos1
  have i0 := hi.id0
  have i1 := hi.id1
  have tt0 := hi.ttl0
  have tt1 := hi.ttl1
  have pr0 := hi.pro0
  have pr1 := hi.pro1
  have a0 := hi.src0
  have a1 := hi.src1
  have d0' := hi.dst0
  have d1' := hi.dst1
  have j0 : 0 ≤ h.src / 65536 := by omega
  have j1 : h.src / 65536 ≤ 65535 := by omega
  have j2 : 0 ≤ h.dst / 65536 := by omega
  have j3 : h.dst / 65536 ≤ 65535 := by omega
  obtain ⟨F1, hF1⟩ : ∃ F1 : Int, F1 = h.off / 8 + (if h.df then 16384 else 0) := ⟨_, rfl⟩
  have F10 : 0 ≤ F1 := by rw [hF1]; split <;> omega
  have F11 : F1 ≤ 24575 := by rw [hF1]; split <;> omega
  have HF1 := Sec.mk hF1
  have HFW : Sec (fragW h = F1 + (if h.mf then 8192 else 0)) := ⟨by rw [hF1]; rfl⟩
  have F20 : 0 ≤ fragW h := by rw [HFW.out]; split <;> omega
  have F21 : fragW h ≤ 65535 := by rw [HFW.out]; split <;> omega
  clear hF1
  obtain ⟨dv, hdv⟩ : ∃ dv, dv = h.df := ⟨_, rfl⟩
  obtain ⟨mv, hmv⟩ : ∃ mv, mv = h.mf := ⟨_, rfl⟩
  have HDV := Sec.mk hdv
  have HMV := Sec.mk hmv
  clear hdv hmv
  go_enter Try.func88, Try.ntmps88
  go_wp2_with (first
    | (with_reducible refine bx_step w.heap.size rfl 3 rfl 35 _ rfl (hcells h A h.opts.length c) rfl (Below.refl _ _) (Nat.le_refl _) ?_; intro g3 w1 hg1 hk1 hb10 hb1 hs1
       have lt1 := hk1.lt
       obtain ⟨b1, hb1e⟩ : ∃ b, b = w1.heap.size := ⟨_, rfl⟩
       rw [← hb1e] at lt1
       have s1 : HS w1 w1 g3 b1 h A c none 0 [] := ⟨hk1, .nil, Below.refl _ _, by omega, lt1, hk1⟩
       obtain ⟨q0, q1, q2, q3, q4, q5, q6, q7, q8, q9⟩ := hk1.head
       have HBE := Sec.mk hb1e
       clear hb1e)
    | (at_builtin; refine app_many (w0 := w1) b1 rfl (.tmp 10) (.tmp 19) 30 5 rfl Try.underlying30 byteInfo none 0 [] _ [u8 (69 + (h.opts.length : Int) / 4), u8 h.tos] (bv2 _ _ o0 o1 t0 t1) 0 2 rfl rfl rfl rfl s1.own s1.bel s1.ge (by simp) ?_
       intro B2 d2 W2 Z2 hz ho hb hs
       have l2 : Z2.length ≤ 2 := by rw [hz.out]; simp
       have H2 := hz
       have s2 := s1.next ho hb (Nat.le_trans s1.ge hs)
       clear hz ho hb hs q0 q1 q2 q3 q4 q5 q6 q7 q8 q9
       obtain ⟨q0, q1, q2, q3, q4, q5, q6, q7, q8, q9⟩ := s2.k3.head))
  refine (put2_any Z2 B2 d2 b1 (n) w1 W2 s2.own s2.bel s2.ge (by have := l2; omega) n0 n1).mono ?_
  rintro e W3 ⟨B3, d3, Z3, rfl, hz, ho, hb, hs⟩
  have l3 : Z3.length ≤ 4 := by rw [hz.out]; simp; omega
  have H3 := hz
  have s3 := s2.next ho hb hs
  clear hz ho hb hs
  clear q0 q1 q2 q3 q4 q5 q6 q7 q8 q9
  obtain ⟨q0, q1, q2, q3, q4, q5, q6, q7, q8, q9⟩ := s3.k3.head
  go_wp2_with fail
  refine (put2_any Z3 B3 d3 b1 (h.id) w1 W3 s3.own s3.bel s3.ge (by have := l3; omega) i0 i1).mono ?_
  rintro e W4 ⟨B4, d4, Z4, rfl, hz, ho, hb, hs⟩
  have l4 : Z4.length ≤ 6 := by rw [hz.out]; simp; omega
  have H4 := hz
  have s4 := s3.next ho hb hs
  clear hz ho hb hs
  clear q0 q1 q2 q3 q4 q5 q6 q7 q8 q9
  obtain ⟨q0, q1, q2, q3, q4, q5, q6, q7, q8, q9⟩ := s4.k3.head
  rw [← HDV.out] at q2
  rw [← HMV.out] at q3
  go_upto_if 33 with fail
  go_cut [8] from 34 to 35 (fun v wx => v = .int .i64 F1 ∧ wx = W4)
  case first =>
    have hd1 := HDV.out
    have hf1 := HF1.out
    rw [← hd1] at hf1
    have HFF := Sec.mk hf1
    clear HDV hd1 hf1
    cases dv
    · go_wp2_with fail
      go_meet
      exact ⟨by rw [HFF.out]; simp, rfl⟩
    · go_wp2_with fail
      go_meet
      exact ⟨by rw [HFF.out]; simp, rfl⟩
  obtain ⟨rfl, hwc⟩ := hcut
  obtain rfl := hwc.symm
  go_upto_if 37 with fail
  go_cut [8] from 38 to 39 (fun v wx => v = .int .i64 (fragW h) ∧ wx = W4)
  case first =>
    have hd1 := HMV.out
    have hf1 := HFW.out
    rw [← hd1] at hf1
    have HFF := Sec.mk hf1
    clear HMV hd1 hf1
    cases mv
    · go_wp2_with fail
      go_meet
      exact ⟨by rw [HFF.out]; simp, rfl⟩
    · go_wp2_with fail
      go_meet
      exact ⟨by rw [HFF.out]; simp, rfl⟩
  obtain ⟨rfl, hwc⟩ := hcut
  obtain rfl := hwc.symm
  go_wp2_with fail
  refine (put2_any Z4 B4 d4 b1 (fragW h) w1 W4 s4.own s4.bel s4.ge (by have := l4; omega) F20 F21).mono ?_
  rintro e W5 ⟨B5, d5, Z5, rfl, hz, ho, hb, hs⟩
  have l5 : Z5.length ≤ 8 := by rw [hz.out]; simp; omega
  have H5 := hz
  have s5 := s4.next ho hb hs
  clear hz ho hb hs
  clear q0 q1 q2 q3 q4 q5 q6 q7 q8 q9
  obtain ⟨q0, q1, q2, q3, q4, q5, q6, q7, q8, q9⟩ := s5.k3.head
  go_wp2_with (at_builtin; refine app_many (w0 := w1) b1 rfl (.tmp 43) (.tmp 48) 30 5 rfl Try.underlying30 byteInfo B5 d5 Z5 _ [u8 (h.ttl), u8 (h.proto)] (bv2 _ _ tt0 tt1 pr0 pr1) Z5.length 2 rfl rfl rfl rfl s5.own s5.bel s5.ge (by have := l5; simp; omega) ?_
               intro B6 d6 W6 Z6 hz ho hb hs
               have l6 : Z6.length ≤ 10 := by rw [hz.out]; simp; omega
               have H6 := hz
               have s6 := s5.next ho hb (Nat.le_trans s5.ge hs)
               clear hz ho hb hs
               clear q0 q1 q2 q3 q4 q5 q6 q7 q8 q9
               obtain ⟨q0, q1, q2, q3, q4, q5, q6, q7, q8, q9⟩ := s6.k3.head)
  refine (put2_any Z6 B6 d6 b1 (s) w1 W6 s6.own s6.bel s6.ge (by have := l6; omega) sm0 sm1).mono ?_
  rintro e W7 ⟨B7, d7, Z7, rfl, hz, ho, hb, hs⟩
  have l7 : Z7.length ≤ 12 := by rw [hz.out]; simp; omega
  have H7 := hz
  have s7 := s6.next ho hb hs
  clear hz ho hb hs
  clear q0 q1 q2 q3 q4 q5 q6 q7 q8 q9
  obtain ⟨q0, q1, q2, q3, q4, q5, q6, q7, q8, q9⟩ := s7.k3.head
  go_wp2_with fail
  refine (put2_any Z7 B7 d7 b1 (h.src / 65536) w1 W7 s7.own s7.bel s7.ge (by have := l7; omega) j0 j1).mono ?_
  rintro e W8 ⟨B8, d8, Z8, rfl, hz, ho, hb, hs⟩
  have l8 : Z8.length ≤ 14 := by rw [hz.out]; simp; omega
  have H8 := hz
  have s8 := s7.next ho hb hs
  clear hz ho hb hs
  clear q0 q1 q2 q3 q4 q5 q6 q7 q8 q9
  obtain ⟨q0, q1, q2, q3, q4, q5, q6, q7, q8, q9⟩ := s8.k3.head
  go_wp2_with fail
  refine (put2_any Z8 B8 d8 b1 (h.src % 65536) w1 W8 s8.own s8.bel s8.ge (by have := l8; omega) (by omega) (by omega)).mono ?_
  rintro e W9 ⟨B9, d9, Z9, rfl, hz, ho, hb, hs⟩
  have l9 : Z9.length ≤ 16 := by rw [hz.out]; simp; omega
  have H9 := hz
  have s9 := s8.next ho hb hs
  clear hz ho hb hs
  clear q0 q1 q2 q3 q4 q5 q6 q7 q8 q9
  obtain ⟨q0, q1, q2, q3, q4, q5, q6, q7, q8, q9⟩ := s9.k3.head
  go_wp2_with fail
  refine (put2_any Z9 B9 d9 b1 (h.dst / 65536) w1 W9 s9.own s9.bel s9.ge (by have := l9; omega) j2 j3).mono ?_
  rintro e W10 ⟨B10, d10, Z10, rfl, hz, ho, hb, hs⟩
  have l10 : Z10.length ≤ 18 := by rw [hz.out]; simp; omega
  have H10 := hz
  have s10 := s9.next ho hb hs
  clear hz ho hb hs
  clear q0 q1 q2 q3 q4 q5 q6 q7 q8 q9
  obtain ⟨q0, q1, q2, q3, q4, q5, q6, q7, q8, q9⟩ := s10.k3.head
  go_wp2_with fail
  refine (put2_any Z10 B10 d10 b1 (h.dst % 65536) w1 W10 s10.own s10.bel s10.ge (by have := l10; omega) (by omega) (by omega)).mono ?_
  rintro e W11 ⟨B11, d11, Z11, rfl, hz, ho, hb, hs⟩
  have l11 : Z11.length ≤ 20 := by rw [hz.out]; simp; omega
  have H11 := hz
  have s11 := s10.next ho hb hs
  clear hz ho hb hs
  clear q0 q1 q2 q3 q4 q5 q6 q7 q8 q9
  obtain ⟨q0, q1, q2, q3, q4, q5, q6, q7, q8, q9⟩ := s11.k3.head
  have hF : Z11 = hdr h n s := by
    have e2 := H2.out
    have e3 := H3.out
    have e4 := H4.out
    have e5 := H5.out
    have e6 := H6.out
    have e7 := H7.out
    have e8 := H8.out
    have e9 := H9.out
    have e10 := H10.out
    have e11 := H11.out
    rw [e11, e10, e9, e8, e7, e6, e5, e4, e3, e2]
    exact hdr_laid h n s
  subst hF
  have hwb : w.heap.size ≤ b1 := by rw [HBE.out]; omega
  have hlo2 : h.opts.length ≤ 140737488351232 := by omega
  clear q0 q1 q2 q3 q4 q5 q6 q7 q8 q9
  have hlen : (hdr h n s).length = 20 := rfl
  have q9 := s11.k3.head.2.2.2.2.2.2.2.2.2
  have HLEN := Sec.mk hlen
  clear hlen
  go_wp2_with fail
  go_loopw [7, 9] (fun v i wr => ∃ (k : Int) (B : Option Addr) (d : Nat) (zs : List UInt8), 0 ≤ k ∧ k ≤ h.opts.length ∧ i = .int .i64 k ∧ v = .slice B zs.length d ∧ Sec (zs = hdr h n s ++ h.opts.take k.toNat) ∧ Sec (HS w1 wr g3 b1 h A c B d zs)) (fun _ i _ => h.opts.length - (intOf i).toNat)
  case atStart => exact ⟨0, B11, d11, _, by omega, by omega, rfl, rfl, ⟨by simp⟩, ⟨s11⟩⟩
  case round =>
    obtain ⟨k, B, d, zs, hk0, hk, rfl, rfl, HZ, HS'⟩ := hrel
    have r9 := HS'.out.k3.head.2.2.2.2.2.2.2.2.2
    by_cases hlt : k < (h.opts.length : Int)
    · obtain ⟨ad, rfl, ha⟩ := (HX.out.below (hb1.trans (HS'.out.bel.mono hwb))).get k hk0 hlt
      have b0 := rb_lo h.opts k
      have b1' := rb_hi h.opts k
      go_wp2_with (first
        | (at_builtin; refine app_one (w0 := w1) b1 rfl (.tmp 85) (.tmp 91) 30 5 rfl Try.underlying30 byteInfo B d zs (rb h.opts k) zs.length rfl b0 b1' rfl rfl HS'.out.own HS'.out.bel HS'.out.ge (by have := congrArg List.length HZ.out; rw [List.length_append, HLEN.out, List.length_take] at this; omega) ?_
           intro A2 c2 w2 ys hz2 ho2 hb2 hs2))
      go_roundw
      case rel => exact ⟨k + 1, A2, c2, ys, by omega, by omega, rfl, rfl, ⟨by rw [hz2.out, HZ.out, take_rb h.opts k hk0 hlt, List.append_assoc]⟩, ⟨HS'.out.next ho2 hb2 (Nat.le_trans HS'.out.ge hs2)⟩⟩
      case measure => simp [intOf]; omega
    · go_wp2
      go_ret
      have hz : zs = hdr h n s ++ h.opts := by rw [HZ.out, List.take_of_length_le (by omega)]
      exact ⟨B, d, zs, rfl, ⟨hz⟩, HS'.out.own.base hwb, hb1.trans (HS'.out.bel.mono hwb)⟩

end Go.Proofs.Ytdjldipiggfjdaa
