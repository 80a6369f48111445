/-
  LAYER 3, NUMBERS AND SUMS: what the small functions of ip4 and of weftref3 on numbers, words and checksums compute. Conditions: the ranges of numbers of their types; lengths as the reading gives them.
-/
import Derived.Test.YtdjldipiggfjdaaProg
import Derived.Test.YtdjldipiggfjdaaBlk
import Derived.Test.YtdjldipiggfjdaaBits
import Derived.Test.YtdjldipiggfjdaaIp4Spec
namespace Go.Proofs.Ytdjldipiggfjdaa
open Go.RowKit
set_option linter.unusedVariables false

theorem byteInfo : (Try.prog.info? 5).map (fun i => (i.zero, i.size, i.bytes)) = some (some (.int .u8 0), 1, 1) := by kernel_rfl

set_option maxHeartbeats 400000 in
theorem folded_any (t : Int) (w : World) (h0 : 0 ≤ t) (h1 : t < 18446744073709551616) :
    Calls Try.prog 93 #[.int .u64 t] w fun e w' => e = .returned (.int .u16 (foldS t)) ∧ w = w' := by
  go_enter Try.func93, Try.ntmps93
  go_wp2
  go_loop [0] (fun v => ∃ s : Int, 0 ≤ s ∧ s ≤ t ∧ Sec (foldS s = foldS t) ∧ v = .int .u64 s) (fun v => (intOf v).toNat)
  case atStart => exact ⟨t, h0, by omega, ⟨rfl⟩, rfl⟩
  case round =>
    obtain ⟨s, hs0, hst, HS, rfl⟩ := hrel
    by_cases hc : 65535 < s
    · have ha : bits .and .u64 s 65535 = s % 65536 := and64_16 s hs0 (by omega)
      go_wp2
      go_round
      case rel => exact ⟨s / 65536 + s % 65536, by omega, by omega, ⟨(foldS_step s hc).trans HS.out⟩, rfl⟩
      case measure => simp [intOf]; omega
    · go_wp2
      go_ret
      refine ⟨?_, rfl⟩
      rw [← HS.out, foldS_small s hs0 (by omega)]
      rfl
set_option maxHeartbeats 400000 in
theorem adjust_any (s o n : Int) (w : World) (h0 : 0 ≤ s) (h1 : s ≤ 65535) (h2 : 0 ≤ o) (h3 : o ≤ 65535) (h4 : 0 ≤ n) (h5 : n ≤ 65535) :
    Calls Try.prog 65 #[.int .u16 s, .int .u16 o, .int .u16 n] w fun e w' => e = .returned (.int .u16 (adjS s o n)) ∧ w = w' := by
  have e1 := not16 s h0 h1
  have e2 := not16 o h2 h3
  have f0 := foldS_lo ((65535 - s) + (65535 - o) + n) (by omega)
  have f1 := foldS_hi ((65535 - s) + (65535 - o) + n) (by omega)
  have e3 := not16 (foldS ((65535 - s) + (65535 - o) + n)) f0 f1
  have hu := u16_unsigned
  go_enter Try.func65, Try.ntmps65
  go_wp2_with (go_at_call 93; refine (folded_any _ _ (by omega) (by omega)).mono ?_; rintro e w' ⟨rfl, rfl⟩)
  go_ret
  exact ⟨rfl, rfl⟩

theorem totF_take_succ (hi : Bool) (pre xs : List UInt8) (k : Int) (h0 : 0 ≤ k) (h : k < xs.length) :
    totF hi (pre ++ xs.take (k + 1).toNat) = totF hi (pre ++ xs.take k.toNat) + (if flip hi (pre ++ xs.take k.toNat).length then 256 * rb xs k else rb xs k) := by
  rw [take_rb xs k h0 h, ← List.append_assoc, totF_append]
  have := u8_val' (rb xs k) (rb_lo _ _) (rb_hi _ _)
  simp only [totF, this]
  omega
set_option maxHeartbeats 400000 in
theorem sum_any (xss : List (List UInt8)) (A : Option Addr) (c : Nat) (w : World) (hx : RDs w A xss) (hlen : xss.flatten.length ≤ 140737488351232) :
    Calls Try.prog 46 #[.slice A xss.length c] w fun e w' => e = .returned (.int .u16 (sumS xss.flatten)) ∧ w = w' := by
  have HX := Sec.mk hx
  have lx := hx.len
  clear hx
  go_enter Try.func46, Try.ntmps46
  go_wp2
  go_loop [3, 4, 11] (fun t hi i => ∃ (k tv : Int) (hv : Bool), 0 ≤ k ∧ k ≤ xss.length ∧ i = .int .i64 k ∧ t = .int .u64 tv ∧ hi = .bool hv ∧ Sec (tv = totF true (xss.take k.toNat).flatten) ∧ Sec (hv = flip true (xss.take k.toNat).flatten.length)) (fun _ _ i => xss.length - (intOf i).toNat)
  case atStart => exact ⟨0, 0, true, by omega, by omega, rfl, rfl, rfl, ⟨by simp [totF]⟩, ⟨by simp [flip]⟩⟩
  case round =>
    obtain ⟨k, tv, hv, hk0, hk, rfl, rfl, rfl, HT, HH⟩ := hrel
    by_cases hlt : k < (xss.length : Int)
    · obtain ⟨ad, A1, c1, rfl, hc, hle, hr⟩ := HX.out.get k hk0 hlt
      obtain ⟨ys, hys⟩ : ∃ ys, ys = ri xss k := ⟨_, rfl⟩
      rw [← hys] at hc hle hr
      have HYS := Sec.mk hys
      have HR := Sec.mk hr
      have ly := hr.len
      clear hys hr
      obtain ⟨pre, hpre⟩ : ∃ pre, pre = (xss.take k.toNat).flatten := ⟨_, rfl⟩
      have HP := Sec.mk hpre
      have HT2 : Sec (tv = totF true (pre ++ ys.take (0 : Int).toNat)) := ⟨by rw [hpre]; simpa using HT.out⟩
      have HH2 : Sec (hv = flip true (pre ++ ys.take (0 : Int).toNat).length) := ⟨by rw [hpre]; simpa using HH.out⟩
      have hpl : pre.length + ys.length ≤ 140737488351232 := by
        have := flat_take_le xss (k + 1).toNat
        rw [flat_take_succ xss k hk0 hlt, List.length_append, ← hpre, ← HYS.out] at this
        omega
      clear hpre HT HH
      go_wp2
      go_loop [3, 4, 17] (fun t hi i => ∃ (q sv : Int) (gv : Bool), 0 ≤ q ∧ q ≤ ys.length ∧ i = .int .i64 q ∧ t = .int .u64 sv ∧ hi = .bool gv ∧ Sec (sv = totF true (pre ++ ys.take q.toNat)) ∧ Sec (gv = flip true (pre ++ ys.take q.toNat).length)) (fun _ _ i => ys.length - (intOf i).toNat)
      case atStart => exact ⟨0, tv, hv, by omega, by omega, rfl, rfl, rfl, HT2, HH2⟩
      case round =>
        clear HT2 HH2
        obtain ⟨q, sv, gv, hq0, hq, rfl, rfl, rfl, HS, HG⟩ := hrel
        by_cases hlq : q < (ys.length : Int)
        · obtain ⟨bd, rfl, hb⟩ := HR.out.get q hq0 hlq
          have b0 := rb_lo ys q
          have b1 := rb_hi ys q
          have s0 : 0 ≤ sv := by rw [HS.out]; exact totF_lo _ _
          have s1 : sv ≤ 9187343239798784000 := by
            have := totF_hi true (pre ++ ys.take q.toNat)
            rw [← HS.out, List.length_append, List.length_take] at this
            omega
          have hstep := totF_take_succ true pre ys q hq0 hlq
          rw [← HS.out, ← HG.out] at hstep
          have HST := Sec.mk hstep
          have hlen1 : (pre ++ ys.take (q + 1).toNat).length = (pre ++ ys.take q.toNat).length + 1 := by
            rw [List.length_append, List.length_append, List.length_take, List.length_take]; omega
          have HL := Sec.mk hlen1
          clear hstep hlen1
          cases gv with
          | true =>
            go_wp2
            go_round
            case rel => exact ⟨q + 1, sv + rb ys q * 256, false, by omega, by omega, rfl, rfl, rfl, ⟨by rw [HST.out, if_pos rfl]; omega⟩, ⟨by rw [HL.out, flip_succ, ← HG.out]; rfl⟩⟩
            case measure => simp [intOf]; omega
          | false =>
            go_wp2
            go_round
            case rel => exact ⟨q + 1, sv + rb ys q, true, by omega, by omega, rfl, rfl, rfl, ⟨by rw [HST.out]; simp⟩, ⟨by rw [HL.out, flip_succ, ← HG.out]; rfl⟩⟩
            case measure => simp [intOf]; omega
        · have hall : pre ++ ys.take q.toNat = (xss.take (k + 1).toNat).flatten := by
            rw [flat_take_succ xss k hk0 hlt, HP.out, ← HYS.out, List.take_of_length_le (show ys.length ≤ q.toNat by omega)]
          have HA := Sec.mk hall
          clear hall
          go_wp2
          go_round
          case rel => exact ⟨k + 1, sv, gv, by omega, by omega, rfl, rfl, rfl, ⟨by rw [HS.out, HA.out]⟩, ⟨by rw [HG.out, HA.out]⟩⟩
          case measure => simp [intOf]; omega
    · have hall : (xss.take k.toNat).flatten = xss.flatten := by rw [List.take_of_length_le (by omega)]
      have e1 : tv = totF true xss.flatten := by rw [HT.out, hall]
      have s0 := totF_lo true xss.flatten
      have s1 := totF_hi true xss.flatten
      rw [← e1] at s0 s1
      have f0 := foldS_lo tv s0
      have f1 := foldS_hi tv s0
      have e3 := not16 (foldS tv) f0 f1
      have hu := u16_unsigned
      have E1 := Sec.mk e1
      clear hall e1 HT HH
      go_wp2_with (go_at_call 93; refine (folded_any _ _ (by omega) (by omega)).mono ?_; rintro e w' ⟨rfl, rfl⟩)
      go_ret
      refine ⟨?_, rfl⟩
      unfold sumS
      rw [← E1.out]
      rfl

/-! ### the document's sums -/
set_option maxHeartbeats 400000 in
theorem total_any (xs : List UInt8) (A : Option Addr) (c : Nat) (w : World) (hx : RD w A xs) :
    Calls Try.prog 94 #[.slice A xs.length c] w fun e w' => e = .returned (.int .i64 (totF true xs)) ∧ w = w' := by
  have HX := Sec.mk hx
  have lx := hx.len
  clear hx
  go_enter Try.func94, Try.ntmps94
  go_wp2
  go_loop [3, 4] (fun t i => ∃ (k tv : Int), 0 ≤ k ∧ k ≤ xs.length ∧ i = .int .i64 k ∧ t = .int .i64 tv ∧ Sec (tv = totF true (xs.take k.toNat))) (fun _ i => xs.length - (intOf i).toNat)
  case atStart => exact ⟨0, 0, by omega, by omega, rfl, rfl, ⟨by simp [totF]⟩⟩
  case round =>
    obtain ⟨k, tv, hk0, hk, rfl, rfl, HT⟩ := hrel
    by_cases hlt : k < (xs.length : Int)
    · obtain ⟨ad, rfl, ha⟩ := HX.out.get k hk0 hlt
      have b0 := rb_lo xs k
      have b1 := rb_hi xs k
      have t0 := totF_lo true (xs.take k.toNat)
      have t1 := totF_hi true (xs.take k.toNat)
      rw [← HT.out] at t0 t1
      have t2 : tv ≤ 9187343239798784000 := by rw [List.length_take] at t1; omega
      have hst := totF_take_succ true [] xs k hk0 hlt
      rw [List.nil_append, List.nil_append, ← HT.out, List.length_take, show min k.toNat xs.length = k.toNat from by omega] at hst
      have HST := Sec.mk hst
      clear hst t1
      by_cases hp : k % 2 = 0
      · have hb : (k % 2 == 0) = true := beq_iff_eq.mpr hp
        have HP := Sec.mk hp
        clear hp
        go_wp2
        go_round
        case rel => exact ⟨k + 1, tv + 256 * rb xs k, by omega, by omega, rfl, rfl, ⟨by rw [HST.out, if_pos (by unfold flip; rw [if_pos (by have := HP.out; omega)])]⟩⟩
        case measure => simp [intOf]; omega
      · have hb : (k % 2 == 0) = false := beq_eq_false_iff_ne.mpr hp
        have HP := Sec.mk hp
        clear hp
        go_wp2
        go_round
        case rel => exact ⟨k + 1, tv + rb xs k, by omega, by omega, rfl, rfl, ⟨by rw [HST.out, if_neg (by unfold flip; rw [if_neg (by have := HP.out; omega)]; simp)]⟩⟩
        case measure => simp [intOf]; omega
    · go_wp2
      go_ret
      refine ⟨?_, rfl⟩
      rw [HT.out, List.take_of_length_le (by omega)]
      rfl
set_option maxHeartbeats 400000 in
theorem fold_any (t : Int) (w : World) (h0 : 0 ≤ t) (h1 : t < 9223372036854775807) :
    Calls Try.prog 95 #[.int .i64 t] w fun e w' => e = .returned (.int .i64 (foldS t)) ∧ w = w' := by
  by_cases hz : t = 0
  · subst hz
    go_enter Try.func95, Try.ntmps95
    go_wp2
    go_ret
    exact ⟨rfl, rfl⟩
  · have hb : (t == 0) = false := beq_eq_false_iff_ne.mpr hz
    have h2 : 1 ≤ t := by omega
    have hf : foldS t = 1 + (t - 1) % 65535 := by unfold foldS; rw [if_neg hz]
    have HF := Sec.mk hf
    clear hz hf
    go_enter Try.func95, Try.ntmps95
    go_wp2
    go_ret
    refine ⟨?_, rfl⟩
    rw [HF.out]
    rfl
set_option maxHeartbeats 400000 in
theorem rsum_any (xss : List (List UInt8)) (A : Option Addr) (c : Nat) (w : World) (hx : RDs w A xss) (hlen : xss.flatten.length ≤ 140737488351232) :
    Calls Try.prog 47 #[.slice A xss.length c] w fun e w' => e = .returned (.int .u16 (sumS xss.flatten)) ∧ Below w.heap.size w w' := by
  have HX := Sec.mk hx
  have lx := hx.len
  clear hx
  go_enter Try.func47, Try.ntmps47
  go_wp2
  go_loopw [3, 4] (fun v i wr => ∃ (k : Int) (A1 : Option Addr) (c1 : Nat) (zs : List UInt8), 0 ≤ k ∧ k ≤ xss.length ∧ i = .int .i64 k ∧ v = .slice A1 zs.length c1 ∧ Sec (zs = (xss.take k.toNat).flatten) ∧ Sec (Own 5 wr w.heap.size A1 c1 zs) ∧ Sec (Below w.heap.size w wr)) (fun _ i _ => xss.length - (intOf i).toNat)
  case atStart => exact ⟨0, none, 0, [], by omega, by omega, rfl, rfl, ⟨by simp⟩, ⟨.nil⟩, ⟨Below.refl _ _⟩⟩
  case round =>
    obtain ⟨k, A1, c1, zs, hk0, hk, rfl, rfl, HZ, HO, HB⟩ := hrel
    by_cases hlt : k < (xss.length : Int)
    · obtain ⟨ad, A2, c2, rfl, hc, hle, hr⟩ := (HX.out.below HB.out).get k hk0 hlt
      obtain ⟨ys, hys⟩ : ∃ ys, ys = ri xss k := ⟨_, rfl⟩
      rw [← hys] at hc hle hr
      have HYS := Sec.mk hys
      have HR := Sec.mk hr
      have hfl := flat_take_succ xss k hk0 hlt
      rw [← HZ.out, ← hys] at hfl
      have HFL := Sec.mk hfl
      have hsz : zs.length + ys.length ≤ 140737488351232 := by
        have := flat_take_le xss (k + 1).toNat
        rw [hfl, List.length_append] at this
        omega
      clear hys hr hfl
      go_wp2_with (at_builtin; refine app_step w.heap.size rfl (.tmp 12) (.tmp 16) 30 5 rfl Try.underlying30 byteInfo A1 c1 zs A2 c2 ys zs.length ys.length rfl rfl rfl rfl HO.out HR.out HB.out HB.out.size hsz ?_; intro A3 c3 w3 vs hz3 ho3 hb3 hs3)
      go_roundw
      case rel => exact ⟨k + 1, A3, c3, vs, by omega, by omega, rfl, rfl, ⟨by rw [HFL.out, hz3.out]⟩, ⟨ho3⟩, ⟨hb3⟩⟩
      case measure => simp [intOf]; omega
    · have hall : zs = xss.flatten := by rw [HZ.out, List.take_of_length_le (by omega)]
      have s0 := totF_lo true zs
      have s1 := totF_hi true zs
      have s2 : totF true zs < 9223372036854775807 := by rw [hall] at s1 ⊢; omega
      have f0 := foldS_lo _ s0
      have f1 := foldS_hi _ s0
      have HALL := Sec.mk hall
      have S2 := Sec.mk s2
      clear s1 s2 hall HZ
      go_wp2_with fail
      refine (total_any _ _ _ _ HO.out.reads).mono ?_
      rintro e w' ⟨rfl, rfl⟩
      go_wp2_with fail
      refine (fold_any _ _ s0 S2.out).mono ?_
      rintro e w' ⟨rfl, rfl⟩
      go_wp2
      go_ret
      refine ⟨?_, HB.out⟩
      unfold sumS
      rw [← HALL.out]
      rfl
set_option maxHeartbeats 400000 in
theorem radjust_any (s o n : Int) (w : World) (h0 : 0 ≤ s) (h1 : s ≤ 65535) (h2 : 0 ≤ o) (h3 : o ≤ 65535) (h4 : 0 ≤ n) (h5 : n ≤ 65535) :
    Calls Try.prog 66 #[.int .u16 s, .int .u16 o, .int .u16 n] w fun e w' => e = .returned (.int .u16 (adjS s o n)) ∧ w = w' := by
  have f0 := foldS_lo ((65535 - s) + (65535 - o) + n) (by omega)
  have f1 := foldS_hi ((65535 - s) + (65535 - o) + n) (by omega)
  go_enter Try.func66, Try.ntmps66
  go_wp2_with (go_at_call 95; refine (fold_any _ _ (by omega) (by omega)).mono ?_; rintro e w' ⟨rfl, rfl⟩)
  go_ret
  exact ⟨rfl, rfl⟩

/-! ### words -/
def w2 (xs : List UInt8) (i : Int) : Int := rb xs i * 256 + rb xs (i + 1)
def w4 (xs : List UInt8) (i : Int) : Int := w2 xs i * 65536 + w2 xs (i + 2)
theorem w2_lo (xs : List UInt8) (i : Int) : 0 ≤ w2 xs i := by have := rb_lo xs i; have := rb_lo xs (i + 1); unfold w2; omega
theorem w2_hi (xs : List UInt8) (i : Int) : w2 xs i ≤ 65535 := by have := rb_hi xs i; have := rb_hi xs (i + 1); unfold w2; omega
theorem w4_lo (xs : List UInt8) (i : Int) : 0 ≤ w4 xs i := by have := w2_lo xs i; have := w2_lo xs (i + 2); unfold w4; omega
theorem w4_hi (xs : List UInt8) (i : Int) : w4 xs i ≤ 4294967295 := by have := w2_hi xs i; have := w2_hi xs (i + 2); unfold w4; omega
set_option maxHeartbeats 400000 in
theorem word_any (xs : List UInt8) (A : Option Addr) (c : Nat) (i : Int) (w : World) (hx : RD w A xs) (hi : 0 ≤ i) (h : i + 1 < xs.length) :
    Calls Try.prog 112 #[.slice A xs.length c, .int .i64 i] w fun e w' => e = .returned (.int .u16 (w2 xs i)) ∧ Dr w w' := by
  have b0 := rb_lo xs i
  have b1 := rb_hi xs i
  have b2 := rb_lo xs (i+1)
  have b3 := rb_hi xs (i+1)
  have l1 : 0 ≤ i + 1 := by omega
  have l2 : i < xs.length := by omega
  have lx := hx.len
  obtain ⟨ad, rfl, ha⟩ := hx.get i hi l2
  obtain ⟨ad', e, hb⟩ := hx.get (i + 1) l1 h
  injection e with e
  subst e
  have ho := or16 (rb xs i) (rb xs (i + 1)) b0 b1 b2 b3
  clear hx
  go_enter Try.func112, Try.ntmps112
  go_wp2
  go_quiet (fail)
  go_wp2
  go_ret
  exact ⟨rfl, (Dr.refl _).step _⟩
set_option maxHeartbeats 400000 in
theorem two_any (xs : List UInt8) (A : Option Addr) (c : Nat) (i : Int) (w : World) (hx : RD w A xs) (hi : 0 ≤ i) (h : i + 1 < xs.length) :
    Calls Try.prog 115 #[.slice A xs.length c, .int .i64 i] w fun e w' => e = .returned (.int .i64 (w2 xs i)) ∧ Dr w w' := by
  have b0 := rb_lo xs i
  have b1 := rb_hi xs i
  have b2 := rb_lo xs (i+1)
  have b3 := rb_hi xs (i+1)
  have l1 : 0 ≤ i + 1 := by omega
  have l2 : i < xs.length := by omega
  have lx := hx.len
  obtain ⟨ad, rfl, ha⟩ := hx.get i hi l2
  obtain ⟨ad', e, hb⟩ := hx.get (i + 1) l1 h
  injection e with e
  subst e
  clear hx
  go_enter Try.func115, Try.ntmps115
  go_wp2
  go_quiet (fail)
  go_wp2
  go_ret
  refine ⟨?_, (Dr.refl _).step _⟩
  unfold w2
  rw [Int.mul_comm]
  rfl
set_option maxHeartbeats 400000 in
theorem long_any (xs : List UInt8) (A : Option Addr) (c : Nat) (i : Int) (w : World) (hx : RD w A xs) (hi : 0 ≤ i) (h : i + 3 < xs.length) :
    Calls Try.prog 113 #[.slice A xs.length c, .int .i64 i] w fun e w' => e = .returned (.int .u32 (w4 xs i)) ∧ Dr w w' := by
  have lx := hx.len
  have b0 := w2_lo xs i
  have b1 := w2_hi xs i
  have b2 := w2_lo xs (i+2)
  have b3 := w2_hi xs (i+2)
  have ho := or32 (w2 xs i) (w2 xs (i + 2)) b0 b1 b2 b3
  have HX := Sec.mk hx
  clear hx
  go_enter Try.func113, Try.ntmps113
  go_wp2_with fail
  refine (word_any xs A c i w HX.out hi (by omega)).mono ?_
  rintro e w1 ⟨rfl, hd1⟩
  go_wp2_with fail
  refine (word_any xs A c (i + 2) w1 (HX.out.dr hd1) (by omega) (by omega)).mono ?_
  rintro e w2 ⟨rfl, hd2⟩
  go_wp2
  go_ret
  exact ⟨rfl, hd1.trans hd2⟩
set_option maxHeartbeats 400000 in
theorem four_any (xs : List UInt8) (A : Option Addr) (c : Nat) (i : Int) (w : World) (hx : RD w A xs) (hi : 0 ≤ i) (h : i + 3 < xs.length) :
    Calls Try.prog 116 #[.slice A xs.length c, .int .i64 i] w fun e w' => e = .returned (.int .i64 (w4 xs i)) ∧ Dr w w' := by
  have lx := hx.len
  have b0 := w2_lo xs i
  have b1 := w2_hi xs i
  have b2 := w2_lo xs (i+2)
  have b3 := w2_hi xs (i+2)
  have HX := Sec.mk hx
  clear hx
  go_enter Try.func116, Try.ntmps116
  go_wp2_with fail
  refine (two_any xs A c i w HX.out hi (by omega)).mono ?_
  rintro e w1 ⟨rfl, hd1⟩
  go_wp2_with fail
  refine (two_any xs A c (i + 2) w1 (HX.out.dr hd1) (by omega) (by omega)).mono ?_
  rintro e w2 ⟨rfl, hd2⟩
  go_wp2
  go_ret
  refine ⟨?_, hd1.trans hd2⟩
  unfold w4
  rw [Int.mul_comm]
  rfl

end Go.Proofs.Ytdjldipiggfjdaa
