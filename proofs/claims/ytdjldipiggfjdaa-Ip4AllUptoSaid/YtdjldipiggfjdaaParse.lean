/-
  LAYER 3, READING: what ip4.measure, read, apart, Parse, Peek and weftref3.front, read, Parse, Peek compute. Conditions: lengths as the reading gives them.
-/
import Derived.Test.YtdjldipiggfjdaaOpts
import Derived.Test.YtdjldipiggfjdaaParseSpec
import Derived.StillTailTactics
import Derived.Outline
namespace Go.Proofs.Ytdjldipiggfjdaa
open Go.RowKit
set_option linter.unusedVariables false

theorem u8_and15' (a : Int) (h0 : 0 ≤ a) (h1 : a ≤ 255) : bits .and .u8 a 15 = a % 16 := u8_and15 a h0 (by omega)
theorem ret3 {a b c a' b' c' : Int} (h1 : a = a') (h2 : b = b') (h3 : c = c') : Ending.returned (.tuple #[.int .i64 a, .int .i64 b, .int .i64 c]) = Ending.returned (.tuple #[.int .i64 a', .int .i64 b', .int .i64 c']) := by rw [h1, h2, h3]

set_option maxHeartbeats 1600000 in
theorem measure_any (b : List UInt8) (A : Option Addr) (c : Nat) (whole : Bool) (w : World) (hx : RD w A b) :
    Calls Try.prog 111 #[.slice A b.length c, .bool whole] w fun e w' =>
      e = .returned (.tuple #[.int .i64 (ifz (frontE b whole) (headS b)), .int .i64 (ifz (frontE b whole) (w2 b 2)), .int .i64 (frontE b whole)]) ∧ Dr w w' := by
  have HX := Sec.mk hx
  have lx := hx.len
  clear hx
  by_cases c1 : (b.length : Int) < 20
  · have HF := Sec.mk (show frontE b whole = 30 by unfold frontE; rw [if_pos (by omega)])
    go_enter Try.func111, Try.ntmps111
    go_wp2
    go_ret3
    exact ⟨by rw [HF.out]; rfl, Dr.refl _⟩
  obtain ⟨ad, rfl, hi⟩ := HX.out.zero (by omega)
  have b0 := rb_lo b 0
  have b1 := rb_hi b 0
  have hand := u8_and15' (rb b 0) b0 b1
  have hpos : (0 : Int) < b.length := by omega
  by_cases c2 : rb b 0 / 16 = 4
  · have c2b : (rb b 0 / 16 != 4) = false := bne_eq_false_iff_eq.mpr c2
    have C2 := Sec.mk c2
    have HHD := Sec.mk (show headS b = rb b 0 % 16 * 4 by unfold headS; omega)
    clear c2
    by_cases c3 : rb b 0 % 16 * 4 < 20
    · have HF := Sec.mk (show frontE b whole = 32 by unfold frontE; rw [if_neg (by omega), if_pos C2.out, HHD.out, if_pos c3])
      go_enter Try.func111, Try.ntmps111
      go_wp2
      go_ret3
      exact ⟨by rw [HF.out]; rfl, Dr.refl _⟩
    by_cases c4 : (b.length : Int) < rb b 0 % 16 * 4
    · have HF := Sec.mk (show frontE b whole = 30 by unfold frontE; rw [if_neg (by omega), if_pos C2.out, HHD.out, if_neg c3, if_pos c4])
      go_enter Try.func111, Try.ntmps111
      go_wp2
      go_ret3
      exact ⟨by rw [HF.out]; rfl, Dr.refl _⟩
    have t0 := w2_lo b 2
    have t1 := w2_hi b 2
    obtain ⟨t, ht⟩ : ∃ t, t = w2 b 2 := ⟨_, rfl⟩
    rw [← ht] at t0 t1
    have HT := Sec.mk ht
    clear ht
    by_cases c5 : t < rb b 0 % 16 * 4
    · have HF := Sec.mk (show frontE b whole = 32 by unfold frontE; rw [if_neg (by omega), if_pos C2.out, HHD.out, if_neg c3, if_neg c4, ← HT.out, if_pos c5])
      go_enter Try.func111, Try.ntmps111
      go_wp2_with fail
      refine (word_any b _ c 2 w HX.out (by omega) (by omega)).mono ?_
      rintro e w1 ⟨rfl, hd1⟩
      rw [← HT.out]
      go_wp2
      go_ret3
      exact ⟨by rw [HF.out]; rfl, hd1⟩
    cases whole with
    | true =>
      by_cases c6 : (b.length : Int) < t
      · have HF := Sec.mk (show frontE b true = 30 by unfold frontE; rw [if_neg (by omega), if_pos C2.out, HHD.out, if_neg c3, if_neg c4, ← HT.out, if_neg c5, if_pos rfl, if_pos c6])
        go_enter Try.func111, Try.ntmps111
        go_wp2_with fail
        refine (word_any b _ c 2 w HX.out (by omega) (by omega)).mono ?_
        rintro e w1 ⟨rfl, hd1⟩
        rw [← HT.out]
        go_wp2
        go_ret3
        exact ⟨by rw [HF.out]; rfl, hd1⟩
      · have HF := Sec.mk (show frontE b true = 0 by unfold frontE; rw [if_neg (by omega), if_pos C2.out, HHD.out, if_neg c3, if_neg c4, ← HT.out, if_neg c5, if_pos rfl, if_neg c6])
        go_enter Try.func111, Try.ntmps111
        go_wp2_with fail
        refine (word_any b _ c 2 w HX.out (by omega) (by omega)).mono ?_
        rintro e w1 ⟨rfl, hd1⟩
        rw [← HT.out]
        go_wp2
        go_ret3
        exact ⟨ret3 (by rw [ifz_ok _ HF.out, HHD.out]) (by rw [ifz_ok _ HF.out, HT.out]) HF.out.symm, hd1⟩
    | false =>
      have HF := Sec.mk (show frontE b false = 0 by unfold frontE; rw [if_neg (by omega), if_pos C2.out, HHD.out, if_neg c3, if_neg c4, ← HT.out, if_neg c5, if_neg (by simp)])
      go_enter Try.func111, Try.ntmps111
      go_wp2_with fail
      refine (word_any b _ c 2 w HX.out (by omega) (by omega)).mono ?_
      rintro e w1 ⟨rfl, hd1⟩
      rw [← HT.out]
      go_wp2
      go_ret3
      exact ⟨ret3 (by rw [ifz_ok _ HF.out, HHD.out]) (by rw [ifz_ok _ HF.out, HT.out]) HF.out.symm, hd1⟩
  · have HF := Sec.mk (show frontE b whole = 31 by unfold frontE; rw [if_neg (by omega), if_neg c2])
    have c2b : (rb b 0 / 16 != 4) = true := bne_iff_ne.mpr c2
    clear c2
    go_enter Try.func111, Try.ntmps111
    go_wp2
    go_ret3
    exact ⟨by rw [HF.out]; rfl, Dr.refl _⟩
set_option maxHeartbeats 1600000 in
theorem front_any (b : List UInt8) (A : Option Addr) (c : Nat) (whole : Bool) (w : World) (hx : RD w A b) :
    Calls Try.prog 114 #[.slice A b.length c, .bool whole] w fun e w' =>
      e = .returned (.tuple #[.int .i64 (ifz (frontE b whole) (headS b)), .int .i64 (ifz (frontE b whole) (w2 b 2)), .int .i64 (frontE b whole)]) ∧ Dr w w' := by
  have HX := Sec.mk hx
  have lx := hx.len
  clear hx
  by_cases c1 : (b.length : Int) < 20
  · have HF := Sec.mk (show frontE b whole = 30 by unfold frontE; rw [if_pos (by omega)])
    go_enter Try.func114, Try.ntmps114
    go_wp2
    go_ret3
    exact ⟨by rw [HF.out]; rfl, Dr.refl _⟩
  obtain ⟨ad, rfl, hi⟩ := HX.out.zero (by omega)
  have b0 := rb_lo b 0
  have b1 := rb_hi b 0
  have hpos : (0 : Int) < b.length := by omega
  by_cases c2 : rb b 0 / 16 = 4
  · have c2b : (rb b 0 / 16 != 4) = false := bne_eq_false_iff_eq.mpr c2
    have C2 := Sec.mk c2
    have HHD := Sec.mk (show headS b = 4 * (rb b 0 % 16) by unfold headS; omega)
    clear c2
    by_cases c3 : 4 * (rb b 0 % 16) < 20
    · have HF := Sec.mk (show frontE b whole = 32 by unfold frontE; rw [if_neg (by omega), if_pos C2.out, HHD.out, if_pos c3])
      go_enter Try.func114, Try.ntmps114
      go_wp2
      go_ret3
      exact ⟨by rw [HF.out]; rfl, Dr.refl _⟩
    by_cases c4 : (b.length : Int) < 4 * (rb b 0 % 16)
    · have HF := Sec.mk (show frontE b whole = 30 by unfold frontE; rw [if_neg (by omega), if_pos C2.out, HHD.out, if_neg c3, if_pos c4])
      go_enter Try.func114, Try.ntmps114
      go_wp2
      go_ret3
      exact ⟨by rw [HF.out]; rfl, Dr.refl _⟩
    have t0 := w2_lo b 2
    have t1 := w2_hi b 2
    obtain ⟨t, ht⟩ : ∃ t, t = w2 b 2 := ⟨_, rfl⟩
    rw [← ht] at t0 t1
    have HT := Sec.mk ht
    clear ht
    by_cases c5 : t < 4 * (rb b 0 % 16)
    · have HF := Sec.mk (show frontE b whole = 32 by unfold frontE; rw [if_neg (by omega), if_pos C2.out, HHD.out, if_neg c3, if_neg c4, ← HT.out, if_pos c5])
      go_enter Try.func114, Try.ntmps114
      go_wp2_with fail
      refine (two_any b _ c 2 w HX.out (by omega) (by omega)).mono ?_
      rintro e w1 ⟨rfl, hd1⟩
      rw [← HT.out]
      go_wp2
      go_ret3
      exact ⟨by rw [HF.out]; rfl, hd1⟩
    cases whole with
    | true =>
      by_cases c6 : (b.length : Int) < t
      · have HF := Sec.mk (show frontE b true = 30 by unfold frontE; rw [if_neg (by omega), if_pos C2.out, HHD.out, if_neg c3, if_neg c4, ← HT.out, if_neg c5, if_pos rfl, if_pos c6])
        go_enter Try.func114, Try.ntmps114
        go_wp2_with fail
        refine (two_any b _ c 2 w HX.out (by omega) (by omega)).mono ?_
        rintro e w1 ⟨rfl, hd1⟩
        rw [← HT.out]
        go_wp2
        go_ret3
        exact ⟨by rw [HF.out]; rfl, hd1⟩
      · have HF := Sec.mk (show frontE b true = 0 by unfold frontE; rw [if_neg (by omega), if_pos C2.out, HHD.out, if_neg c3, if_neg c4, ← HT.out, if_neg c5, if_pos rfl, if_neg c6])
        go_enter Try.func114, Try.ntmps114
        go_wp2_with fail
        refine (two_any b _ c 2 w HX.out (by omega) (by omega)).mono ?_
        rintro e w1 ⟨rfl, hd1⟩
        rw [← HT.out]
        go_wp2
        go_ret3
        exact ⟨ret3 (by rw [ifz_ok _ HF.out, HHD.out]) (by rw [ifz_ok _ HF.out, HT.out]) HF.out.symm, hd1⟩
    | false =>
      have HF := Sec.mk (show frontE b false = 0 by unfold frontE; rw [if_neg (by omega), if_pos C2.out, HHD.out, if_neg c3, if_neg c4, ← HT.out, if_neg c5, if_neg (by simp)])
      go_enter Try.func114, Try.ntmps114
      go_wp2_with fail
      refine (two_any b _ c 2 w HX.out (by omega) (by omega)).mono ?_
      rintro e w1 ⟨rfl, hd1⟩
      rw [← HT.out]
      go_wp2
      go_ret3
      exact ⟨ret3 (by rw [ifz_ok _ HF.out, HHD.out]) (by rw [ifz_ok _ HF.out, HT.out]) HF.out.symm, hd1⟩
  · have HF := Sec.mk (show frontE b whole = 31 by unfold frontE; rw [if_neg (by omega), if_neg c2])
    have c2b : (rb b 0 / 16 != 4) = true := bne_iff_ne.mpr c2
    clear c2
    go_enter Try.func114, Try.ntmps114
    go_wp2
    go_ret3
    exact ⟨by rw [HF.out]; rfl, Dr.refl _⟩

set_option maxHeartbeats 1600000 in
set_option maxRecDepth 100000 in
theorem apart_any (x y : List UInt8) (A B : Option Addr) (c d : Nat) (w : World) (hx : RD w A x) (hy : RD w B y) (hl : x.length + y.length ≤ 140737488351232) :
    Calls Try.prog 97 #[.slice A x.length c, .slice B y.length d] w fun e w' => ∃ A1 c1 A2 c2, e = .returned (.tuple #[.slice A1 x.length c1, .slice A2 y.length c2]) ∧
      Own 5 w' w.heap.size A1 c1 x ∧ Own 5 w' w.heap.size A2 c2 y ∧ Apart A1 c1 A2 c2 ∧ Below w.heap.size w w' := by
  have HX := Sec.mk hx
  have HY := Sec.mk hy
  have lx := hx.len
  have ly := hy.len
  clear hx hy
  by_cases c0 : x.length = 0
  · obtain rfl : x = [] := List.eq_nil_of_length_eq_zero c0
    clear c0
    go_enter Try.func97, Try.ntmps97
    go_wp2_with (at_builtin; refine app_step w.heap.size rfl (.const (.slice none 0 0)) (.tmp 10) 30 5 rfl Try.underlying30 byteInfo none 0 [] B d y 0 y.length rfl rfl rfl rfl .nil HY.out (Below.refl _ _) (Nat.le_refl _) (by simpa using ly) ?_; intro A3 c3 w3 vs hz3 ho3 hb3 hs3)
    go_ret2
    have hv : vs = y := by rw [hz3.out]; simp
    subst hv
    exact ⟨none, 0, A3, c3, rfl, .nil, ho3, (fun a1 a2 h1 => by cases h1), hb3⟩
  · have c0b : ((x.length : Int) == 0) = false := beq_eq_false_iff_ne.mpr (by omega)
    obtain ⟨n, hn⟩ : ∃ n, n = x.length + y.length := ⟨_, rfl⟩
    have hmk : ∀ W : World, (Instr.makeSlice 30 (.int .i64 ((x.length : Int) + y.length)) (.int .i64 ((x.length : Int) + y.length))).run Try.prog W = .ok (.slice (some ⟨W.heap.size, 0, none⟩) n n) (W.alloc (.cells (madeCells #[.int .u8 0] n) 5)) := by
      intro W
      have h := run_mk (P := Try.prog) 30 5 Try.underlying30 byteInfo (x.length + y.length : Int) (by omega) (by omega) W
      rw [show ((x.length : Int) + y.length).toNat = n from by omega] at h
      exact h
    obtain ⟨D, hD⟩ : ∃ D, D = cutA (some ⟨w.heap.size, 0, none⟩) n x.length := ⟨_, rfl⟩
    have hcut : ∀ W : World, (Instr.slice 30 (.slice (some ⟨w.heap.size, 0, none⟩) n n) (some (.int .i64 (x.length : Int))) none none).run Try.prog W = .ok (.slice D y.length y.length) W := by
      intro W
      rw [run_cut_lo 30 5 Try.underlying30 byteInfo _ n n .i64 x.length (by omega) (by omega) W, Int.toNat_natCast, ← hD, show n - x.length = y.length from by omega]
    have hc3 : ∀ W : World, (Instr.slice 30 (.slice (some ⟨w.heap.size, 0, none⟩) n n) none (some (.int .i64 (x.length : Int))) (some (.int .i64 (x.length : Int)))).run Try.prog W = .ok (.slice (some ⟨w.heap.size, 0, none⟩) x.length x.length) W := by
      intro W
      rw [run_cut_hi3 30 5 Try.underlying30 byteInfo _ n n .i64 .i64 x.length x.length (by omega) (by omega) (by omega) W, Int.toNat_natCast]
    have hc4 : ∀ W : World, (Instr.slice 30 (.slice (some ⟨w.heap.size, 0, none⟩) n n) (some (.int .i64 (x.length : Int))) (some (.int .i64 (n : Int))) (some (.int .i64 (n : Int)))).run Try.prog W = .ok (.slice D y.length y.length) W := by
      intro W
      rw [run_cut_lohi3 30 5 Try.underlying30 byteInfo _ n n .i64 .i64 .i64 x.length n n (by omega) (by omega) (by omega) (by omega) W, Int.toNat_natCast, Int.toNat_natCast, ← hD, show n - x.length = y.length from by omega]
    have hpos : 0 < y.length → D = some ⟨w.heap.size, 0 + x.length, none⟩ := fun hp => by
      rw [hD]
      unfold cutA
      rw [if_neg (by omega)]
      simp [addr_plain]
    have HD := Sec.mk hD
    have HN := Sec.mk hn
    have HPOS := Sec.mk hpos
    have hnle : n ≤ 140737488351232 := by omega
    clear c0 hD hn hpos
    go_enter Try.func97, Try.ntmps97
    go_wp2_with (first
      | (with_reducible refine cpy_step w.heap.size rfl (.tmp 18) (.tmp 19) 30 30 5 rfl Try.underlying30 byteInfo (win_made w 5 n hnle) 0 _ _ _ A c x _ rfl rfl rfl (HX.out.alloc _) (fun _ => rfl) (by have := HN.out; omega) (by have := HN.out; simp; omega) (below_new (Below.refl _ _) _) (Nat.le_refl _) ?_
         intro w1 zs1 hz1 hw1 hb1 hs1)
      | (with_reducible refine cpy_step w.heap.size rfl (.tmp 24) (.tmp 25) 30 30 5 rfl Try.underlying30 byteInfo hw1 x.length D _ _ B d y _ rfl rfl rfl (HY.out.below hb1) HPOS.out (Nat.le_refl _) (by have := HN.out; rw [hz1.out, over_length _ _ _ (by simp; omega)]; simp; omega) hb1 (Nat.le_refl _) ?_
         intro w2 zs2 hz2 hw2 hb2 hs2))
    go_quiet (fail)
    go_wp2
    go_ret2
    have hz : zs2 = x ++ y := by
      rw [hz2.out, hz1.out, over_zero _ _ (by have := HN.out; omega), over_mid _ _ _ (by have := HN.out; omega), show n - x.length - y.length = 0 from by have := HN.out; omega]
      simp
    subst hz
    refine ⟨some ⟨w.heap.size, 0, none⟩, x.length, D, y.length, rfl, .win _ _ _ _ (Nat.le_refl _) ?_ lx, ?_, ?_, below_drewN hb2 _⟩
    · have := hw2.sub 0 x.length x (by have := HN.out; omega) (Nat.le_refl _) (fun j hj => by rw [Nat.zero_add, List.getElem?_append_left hj])
      exact Win.keep this rfl
    · have hs := hw2.sub x.length y.length y (by have := HN.out; omega) (Nat.le_refl _) (fun j hj => by rw [List.getElem?_append_right (by omega)]; congr 1; omega)
      by_cases hy0 : y.length = 0
      · obtain rfl : y = [] := List.eq_nil_of_length_eq_zero hy0
        have hD0 : D = some ⟨w.heap.size, 0, none⟩ := by
          rw [HD.out]
          unfold cutA
          rw [if_pos (by have := HN.out; simpa using this)]
        rw [hD0]
        exact .win _ _ _ _ (Nat.le_refl _) (Win.keep (hw2.sub 0 0 [] (by omega) (by simp) (fun j hj => by simp at hj)) rfl) ly
      · rw [HPOS.out (by omega)]
        exact .win _ _ _ _ (Nat.le_refl _) (Win.keep hs rfl) ly
    · intro a1 a2 h1 h2
      injection h1 with h1
      subst h1
      right
      by_cases hy0 : y.length = 0
      · right
        rw [hy0]
        have hD0 : D = some ⟨w.heap.size, 0, none⟩ := by
          rw [HD.out]
          unfold cutA
          rw [if_pos (by have := HN.out; omega)]
        rw [hD0] at h2
        injection h2 with h2
        subst h2
        simp
      · left
        rw [HPOS.out (by omega)] at h2
        injection h2 with h2
        subst h2
        simp

/-! ### ip4.read -/
theorem headZero : (Try.prog.info? 35).map (·.zero) = some (some (.agg (hcells Hd.zero none 0 0))) := by kernel_rfl
theorem headSize : (Try.prog.info? 35).map (·.size) = some 10 := by kernel_rfl
theorem headSize' (h : Hd) (A : Option Addr) (n c : Nat) : (Try.prog.info? 35).map (·.size) = some (hcells h A n c).size := headSize
theorem hcells_sizes (h : Hd) (A : Option Addr) (n c : Nat) (h' : Hd) (A' : Option Addr) (n' c' : Nat) : (hcells h A n c).size = (hcells h' A' n' c').size := rfl
theorem hcells_one (h : Hd) (A : Option Addr) (n c : Nat) : (hcells h A n c).all (·.oneCell') = true := by simp [hcells, Value.oneCell']
set_option maxHeartbeats 3200000 in
set_option maxRecDepth 100000 in
theorem read_any (b : List UInt8) (A : Option Addr) (c : Nat) (whole : Bool) (w : World) (hx : RD w A b) (hc : b.length ≤ c) :
    Calls Try.prog 96 #[.slice A b.length c, .bool whole] w fun e w' =>
      e = .returned (.tuple #[.agg (hcells (ifH (parseE b whole) (hdS b)) none 0 0), .int .i64 (ifz (parseE b whole) (headS b)), .int .i64 (ifz (parseE b whole) (w2 b 2)), .int .i64 (parseE b whole)]) ∧ Below w.heap.size w w' := by
  have HX := Sec.mk hx
  have lx := hx.len
  clear hx
  by_cases c1 : frontE b whole = 0
  · have hf := frontE_ok c1
    have C1 := Sec.mk c1
    obtain ⟨f1, f2, f3, f4, f5, f6⟩ := hf
    have f7 := headS_hi b
    obtain ⟨h, hh⟩ : ∃ h, h = headS b := ⟨_, rfl⟩
    obtain ⟨t, ht⟩ : ∃ t, t = w2 b 2 := ⟨_, rfl⟩
    have t1 := w2_hi b 2
    rw [← ht] at t1 f5 f6
    rw [← hh] at f3 f4 f5 f7
    have HH := Sec.mk hh
    have HT := Sec.mk ht
    clear c1 f2 f6 hh ht
    obtain ⟨ys, HYS, hyl, HRY, hyc, hcut⟩ := cut_hi (P := Try.prog) Try.underlying30 byteInfo HX.out hc .i64 h (by omega) f4
    have HYL := Sec.mk hyl
    have hyl2 : ys.length ≤ 140737488351232 := HRY.out.len
    clear hyl
    by_cases c2 : sumS ys = 0
    rotate_left
    · have HE := Sec.mk (show parseE b whole = 33 by unfold parseE; rw [if_pos C1.out, ← HH.out, ← HYS.out, if_neg c2])
      have c2b : (sumS ys != 0) = true := bne_iff_ne.mpr c2
      clear c2
      go_enter Try.func96, Try.ntmps96
      go_wp2_with (with_reducible refine al_step w.heap.size rfl 4 rfl 35 rfl (hcells Hd.zero none 0 0) headZero (Below.refl _ _) (Nat.le_refl _) ?_; intro g w1 hg hblk hb0 hb1 hs1)
      refine (measure_any b A c whole _ (HX.out.below hb1)).mono ?_
      rintro e w2 ⟨rfl, ⟨m1, rfl⟩⟩
      rw [C1.out, ifz_ok _ rfl, ifz_ok _ rfl, ← HH.out, ← HT.out]
      go_wp2_with fail
      refine (sum_any [ys] _ _ _ (RDs.alloc1 (by simp) 30 hyc (HRY.out.below (by repeat (first | exact hb1 | exact Below.refl _ _ | refine below_drewN ?_ _ | refine below_new ?_ _)))) (by simp; omega)).mono ?_
      rintro e w1 ⟨rfl, rfl⟩
      rw [show [ys].flatten = ys from by simp]
      go_wp2_with (first
        | (with_reducible refine ld_row rfl 35 (.tmp 4) rfl g rfl 35 _ (by repeat (first | exact hblk | refine Blk.drewN ?_ _ | refine Blk.alloc ?_ _)) _ Try.underlying35 rfl (headSize' _ _ _ _) ?_)
        | (with_reducible refine st_row (w0 := w) w.heap.size rfl 35 (.tmp 4) _ rfl g _ rfl rfl 35 _ (by repeat (first | exact hblk | refine Blk.drewN ?_ _ | refine Blk.alloc ?_ _)) (headSize' _ _ _ _) (hcells_sizes _ _ _ _ _ _ _ _) (hcells_one _ _ _ _) (by repeat (first | exact hb1 | exact Below.refl _ _ | refine below_drewN ?_ _ | refine below_new ?_ _)) hg ?_
           intro w9 hblk9 hb9 hf9 hs9))
      refine bodyPost_ret (res_cttt rfl rfl hblk9 Try.underlying35 rfl (headSize' _ _ _ _)) rfl ⟨?_, hb9⟩
      rw [HE.out, ifH_no _ (by decide), ifz_no _ (by decide), ifz_no _ (by decide)]
      rfl
    have c2b : (sumS ys != 0) = false := bne_eq_false_iff_eq.mpr c2
    have C2 := Sec.mk c2
    clear c2
    obtain ⟨f, hf6⟩ : ∃ f, f = w2 b 6 := ⟨_, rfl⟩
    have g0 := w2_lo b 6
    have g1 := w2_hi b 6
    rw [← hf6] at g0 g1
    have HF6 := Sec.mk hf6
    clear hf6
    have a1 := and16_res f g0 g1
    by_cases c3 : f / 32768 = 0
    rotate_left
    · have HE := Sec.mk (show parseE b whole = 32 by unfold parseE; rw [if_pos C1.out, ← HH.out, ← HYS.out, if_pos C2.out, ← HF6.out, if_neg c3])
      have c3b : (f / 32768 * 32768 != 0) = true := bne_iff_ne.mpr (by omega)
      clear c3
      go_enter Try.func96, Try.ntmps96
      go_wp2_with (with_reducible refine al_step w.heap.size rfl 4 rfl 35 rfl (hcells Hd.zero none 0 0) headZero (Below.refl _ _) (Nat.le_refl _) ?_; intro g w1 hg hblk hb0 hb1 hs1)
      refine (measure_any b A c whole _ (HX.out.below hb1)).mono ?_
      rintro e w2 ⟨rfl, ⟨m1, rfl⟩⟩
      rw [C1.out, ifz_ok _ rfl, ifz_ok _ rfl, ← HH.out, ← HT.out]
      go_wp2_with fail
      refine (sum_any [ys] _ _ _ (RDs.alloc1 (by simp) 30 hyc (HRY.out.below (by repeat (first | exact hb1 | exact Below.refl _ _ | refine below_drewN ?_ _ | refine below_new ?_ _)))) (by simp; omega)).mono ?_
      rintro e w1 ⟨rfl, rfl⟩
      rw [show [ys].flatten = ys from by simp]
      go_wp2_with fail
      refine (word_any b A c 6 _ (HX.out.below (by repeat (first | exact hb1 | exact Below.refl _ _ | refine below_drewN ?_ _ | refine below_new ?_ _))) (by omega) (by omega)).mono ?_
      rintro e w3 ⟨rfl, ⟨m3, rfl⟩⟩
      rw [← HF6.out]
      go_wp2_with (first
        | (with_reducible refine ld_row rfl 35 (.tmp 4) rfl g rfl 35 _ (by repeat (first | exact hblk | refine Blk.drewN ?_ _ | refine Blk.alloc ?_ _)) _ Try.underlying35 rfl (headSize' _ _ _ _) ?_)
        | (with_reducible refine st_row (w0 := w) w.heap.size rfl 35 (.tmp 4) _ rfl g _ rfl rfl 35 _ (by repeat (first | exact hblk | refine Blk.drewN ?_ _ | refine Blk.alloc ?_ _)) (headSize' _ _ _ _) (hcells_sizes _ _ _ _ _ _ _ _) (hcells_one _ _ _ _) (by repeat (first | exact hb1 | exact Below.refl _ _ | refine below_drewN ?_ _ | refine below_new ?_ _)) hg ?_
           intro w9 hblk9 hb9 hf9 hs9))
      refine bodyPost_ret (res_cttt rfl rfl hblk9 Try.underlying35 rfl (headSize' _ _ _ _)) rfl ⟨?_, hb9⟩
      rw [HE.out, ifH_no _ (by decide), ifz_no _ (by decide), ifz_no _ (by decide)]
      rfl
    have c3b : (f / 32768 * 32768 != 0) = false := bne_eq_false_iff_eq.mpr (by omega)
    have C3 := Sec.mk c3
    clear c3
    obtain ⟨OA, oc, os, HOS, hol, HRO, hoc, hcut2⟩ := cut_lohi (P := Try.prog) Try.underlying30 byteInfo HX.out hc .i64 .i64 20 h (by omega) f3 f4
    have HOL := Sec.mk hol
    clear hol
    have HOS2 : Sec (os = (b.take h.toNat).drop 20) := ⟨HOS.out⟩
    by_cases c4 : areaS os = true
    rotate_left
    · have c4' : areaS os = false := by simpa using c4
      have HAR := Sec.mk c4'
      have HE := Sec.mk (show parseE b whole = 34 by unfold parseE; rw [if_pos C1.out, ← HH.out, ← HYS.out, if_pos C2.out, ← HF6.out, if_pos C3.out, HYS.out, ← HOS2.out, if_neg c4])
      clear c4 c4'
      go_enter Try.func96, Try.ntmps96
      go_wp2_with (with_reducible refine al_step w.heap.size rfl 4 rfl 35 rfl (hcells Hd.zero none 0 0) headZero (Below.refl _ _) (Nat.le_refl _) ?_; intro g w1 hg hblk hb0 hb1 hs1)
      refine (measure_any b A c whole _ (HX.out.below hb1)).mono ?_
      rintro e w2 ⟨rfl, ⟨m1, rfl⟩⟩
      rw [C1.out, ifz_ok _ rfl, ifz_ok _ rfl, ← HH.out, ← HT.out]
      go_wp2_with fail
      refine (sum_any [ys] _ _ _ (RDs.alloc1 (by simp) 30 hyc (HRY.out.below (by repeat (first | exact hb1 | exact Below.refl _ _ | refine below_drewN ?_ _ | refine below_new ?_ _)))) (by simp; omega)).mono ?_
      rintro e w1 ⟨rfl, rfl⟩
      rw [show [ys].flatten = ys from by simp]
      go_wp2_with fail
      refine (word_any b A c 6 _ (HX.out.below (by repeat (first | exact hb1 | exact Below.refl _ _ | refine below_drewN ?_ _ | refine below_new ?_ _))) (by omega) (by omega)).mono ?_
      rintro e w3 ⟨rfl, ⟨m3, rfl⟩⟩
      rw [← HF6.out]
      go_wp2_with fail
      refine (options_any os _ _ _ (HRO.out.below (by repeat (first | exact hb1 | exact Below.refl _ _ | refine below_drewN ?_ _ | refine below_new ?_ _))) hoc).mono ?_
      rintro e w4 ⟨rfl, ⟨m4, rfl⟩⟩
      rw [HAR.out]
      go_wp2_with (first
        | (with_reducible refine ld_row rfl 35 (.tmp 4) rfl g rfl 35 _ (by repeat (first | exact hblk | refine Blk.drewN ?_ _ | refine Blk.alloc ?_ _)) _ Try.underlying35 rfl (headSize' _ _ _ _) ?_)
        | (with_reducible refine st_row (w0 := w) w.heap.size rfl 35 (.tmp 4) _ rfl g _ rfl rfl 35 _ (by repeat (first | exact hblk | refine Blk.drewN ?_ _ | refine Blk.alloc ?_ _)) (headSize' _ _ _ _) (hcells_sizes _ _ _ _ _ _ _ _) (hcells_one _ _ _ _) (by repeat (first | exact hb1 | exact Below.refl _ _ | refine below_drewN ?_ _ | refine below_new ?_ _)) hg ?_
           intro w9 hblk9 hb9 hf9 hs9))
      refine bodyPost_ret (res_cttt rfl rfl hblk9 Try.underlying35 rfl (headSize' _ _ _ _)) rfl ⟨?_, hb9⟩
      rw [HE.out, ifH_no _ (by decide), ifz_no _ (by decide), ifz_no _ (by decide)]
      rfl
    have HAR := Sec.mk c4
    clear c4
    have a2 := and16_df f g0 g1
    have a3 := and16_mf f g0 g1
    have a4 := and16_off f g0 g1
    have HM : Sec ((f / 8192 % 2 * 8192 != 0) = decide (f / 8192 % 2 = 1)) := ⟨by
      by_cases hm : f / 8192 % 2 = 1
      · rw [hm]; rfl
      · rw [show f / 8192 % 2 = 0 from by omega]; rfl⟩
    obtain ⟨mf, hmf⟩ : ∃ mf, mf = decide (f / 8192 % 2 = 1) := ⟨_, rfl⟩
    have hmb : (f / 8192 % 2 * 8192 != 0) = mf := by rw [HM.out, hmf]
    have HMF := Sec.mk hmf
    clear hmf
    by_cases c5 : pieceS (f % 8192 * 8) (t - h) mf = true
    rotate_left
    · have c5' : pieceS (f % 8192 * 8) (t - h) mf = false := by simpa using c5
      have HPC := Sec.mk c5'
      have HE := Sec.mk (show parseE b whole = 36 by unfold parseE; rw [if_pos C1.out, ← HH.out, ← HYS.out, if_pos C2.out, ← HF6.out, if_pos C3.out, HYS.out, ← HOS2.out, if_pos HAR.out, ← HT.out, ← HMF.out, Int.mul_comm, if_neg c5])
      clear c5 c5'
      go_enter Try.func96, Try.ntmps96
      go_wp2_with (with_reducible refine al_step w.heap.size rfl 4 rfl 35 rfl (hcells Hd.zero none 0 0) headZero (Below.refl _ _) (Nat.le_refl _) ?_; intro g w1 hg hblk hb0 hb1 hs1)
      refine (measure_any b A c whole _ (HX.out.below hb1)).mono ?_
      rintro e w2 ⟨rfl, ⟨m1, rfl⟩⟩
      rw [C1.out, ifz_ok _ rfl, ifz_ok _ rfl, ← HH.out, ← HT.out]
      go_wp2_with fail
      refine (sum_any [ys] _ _ _ (RDs.alloc1 (by simp) 30 hyc (HRY.out.below (by repeat (first | exact hb1 | exact Below.refl _ _ | refine below_drewN ?_ _ | refine below_new ?_ _)))) (by simp; omega)).mono ?_
      rintro e w1 ⟨rfl, rfl⟩
      rw [show [ys].flatten = ys from by simp]
      go_wp2_with fail
      refine (word_any b A c 6 _ (HX.out.below (by repeat (first | exact hb1 | exact Below.refl _ _ | refine below_drewN ?_ _ | refine below_new ?_ _))) (by omega) (by omega)).mono ?_
      rintro e w3 ⟨rfl, ⟨m3, rfl⟩⟩
      rw [← HF6.out]
      go_wp2_with fail
      refine (options_any os _ _ _ (HRO.out.below (by repeat (first | exact hb1 | exact Below.refl _ _ | refine below_drewN ?_ _ | refine below_new ?_ _))) hoc).mono ?_
      rintro e w4 ⟨rfl, ⟨m4, rfl⟩⟩
      rw [HAR.out]
      go_wp2_with fail
      refine (orderly_any _ _ _ _ (by omega) (by omega) (by omega) (by omega)).mono ?_
      rintro e w5 ⟨rfl, rfl⟩
      rw [HPC.out]
      go_wp2_with (first
        | (with_reducible refine ld_row rfl 35 (.tmp 4) rfl g rfl 35 _ (by repeat (first | exact hblk | refine Blk.drewN ?_ _ | refine Blk.alloc ?_ _)) _ Try.underlying35 rfl (headSize' _ _ _ _) ?_)
        | (with_reducible refine st_row (w0 := w) w.heap.size rfl 35 (.tmp 4) _ rfl g _ rfl rfl 35 _ (by repeat (first | exact hblk | refine Blk.drewN ?_ _ | refine Blk.alloc ?_ _)) (headSize' _ _ _ _) (hcells_sizes _ _ _ _ _ _ _ _) (hcells_one _ _ _ _) (by repeat (first | exact hb1 | exact Below.refl _ _ | refine below_drewN ?_ _ | refine below_new ?_ _)) hg ?_
           intro w9 hblk9 hb9 hf9 hs9))
      refine bodyPost_ret (res_cttt rfl rfl hblk9 Try.underlying35 rfl (headSize' _ _ _ _)) rfl ⟨?_, hb9⟩
      rw [HE.out, ifH_no _ (by decide), ifz_no _ (by decide), ifz_no _ (by decide)]
      rfl
    have HPC := Sec.mk c5
    have HE := Sec.mk (show parseE b whole = 0 by unfold parseE; rw [if_pos C1.out, ← HH.out, ← HYS.out, if_pos C2.out, ← HF6.out, if_pos C3.out, HYS.out, ← HOS2.out, if_pos HAR.out, ← HT.out, ← HMF.out, Int.mul_comm, if_pos c5])
    have HDF : Sec ((f / 16384 % 2 * 16384 != 0) = decide (f / 16384 % 2 = 1)) := ⟨by
      by_cases hm : f / 16384 % 2 = 1
      · rw [hm]; rfl
      · rw [show f / 16384 % 2 = 0 from by omega]; rfl⟩
    obtain ⟨df, hdf⟩ : ∃ df, df = decide (f / 16384 % 2 = 1) := ⟨_, rfl⟩
    have hdb : (f / 16384 % 2 * 16384 != 0) = df := by rw [HDF.out, hdf]
    have HDFF := Sec.mk hdf
    clear c5 hdf
    go_enter Try.func96, Try.ntmps96
    go_wp2_with (with_reducible refine al_step w.heap.size rfl 4 rfl 35 rfl (hcells Hd.zero none 0 0) headZero (Below.refl _ _) (Nat.le_refl _) ?_; intro g w1 hg hblk hb0 hb1 hs1)
    refine (measure_any b A c whole _ (HX.out.below hb1)).mono ?_
    rintro e w2 ⟨rfl, ⟨m1, rfl⟩⟩
    rw [C1.out, ifz_ok _ rfl, ifz_ok _ rfl, ← HH.out, ← HT.out]
    go_wp2_with fail
    refine (sum_any [ys] _ _ _ (RDs.alloc1 (by simp) 30 hyc (HRY.out.below (by repeat (first | exact hb1 | exact Below.refl _ _ | refine below_drewN ?_ _ | refine below_new ?_ _)))) (by simp; omega)).mono ?_
    rintro e w1 ⟨rfl, rfl⟩
    rw [show [ys].flatten = ys from by simp]
    go_wp2_with fail
    refine (word_any b A c 6 _ (HX.out.below (by repeat (first | exact hb1 | exact Below.refl _ _ | refine below_drewN ?_ _ | refine below_new ?_ _))) (by omega) (by omega)).mono ?_
    rintro e w3 ⟨rfl, ⟨m3, rfl⟩⟩
    rw [← HF6.out]
    go_wp2_with fail
    refine (options_any os _ _ _ (HRO.out.below (by repeat (first | exact hb1 | exact Below.refl _ _ | refine below_drewN ?_ _ | refine below_new ?_ _))) hoc).mono ?_
    rintro e w4 ⟨rfl, ⟨m4, rfl⟩⟩
    rw [HAR.out]
    go_wp2_with fail
    refine (orderly_any _ _ _ _ (by omega) (by omega) (by omega) (by omega)).mono ?_
    rintro e w5 ⟨rfl, rfl⟩
    rw [HPC.out]
    go_wp2_with fail
    refine (fun (W0 : World) (hb2 : Below w.heap.size w W0) (hblk2 : Blk W0 g 35 (hcells Hd.zero none 0 0)) => (?_ : Code.wp _ _ _ _ W0)) _ (by repeat (first | exact hb1 | exact Below.refl _ _ | refine below_drewN ?_ _ | refine below_new ?_ _)) (by repeat (first | exact hblk | refine Blk.drewN ?_ _ | refine Blk.alloc ?_ _))
    have HXW := Sec.mk (HX.out.below hb2)
    obtain ⟨ad, hA, i1⟩ := HXW.out.lit 1 1 rfl (by omega) (by omega)
    subst hA
    have i8 := HXW.out.lit_ 8 8 rfl (by omega) (by omega)
    have i9 := HXW.out.lit_ 9 9 rfl (by omega) (by omega)
    have q1 : (1 : Int) < b.length := by omega
    have q8 : (8 : Int) < b.length := by omega
    have q9 : (9 : Int) < b.length := by omega
    refine wp_region_quiet_tail 21 (by kernel_rfl) (by kernel_rfl) ?_
    simp only [List.take_succ_cons, List.take_zero, List.drop_succ_cons, List.drop_zero]
    repeat (quiet_step ((first
      | (go_at_call 112; exact quiet_dr (word_any b _ c _ _ (HXW.out.drewN _) (by omega) (by omega)))
      | (go_at_call 113; exact quiet_dr (long_any b _ c _ _ (HXW.out.drewN _) (by omega) (by omega))))))
    refine wpQuiet_nil ?_
    rintro w' ⟨nq, rfl⟩
    refine st_row (w0 := w) w.heap.size rfl 35 (.tmp 4) _ rfl g (hcells ⟨rb b 1, w2 b 4, df, mf, f % 8192 * 8, rb b 8, rb b 9, w4 b 12, w4 b 16, []⟩ none 0 0) rfl rfl 35 _ (hblk2.drewN _) (headSize' _ _ _ _) (hcells_sizes _ _ _ _ _ _ _ _) (hcells_one _ _ _ _) (below_drewN hb2 _) hg ?_
    intro w8 hblk8 hb8 hf8 hs8
    go_wp2_with (first
      | (with_reducible refine ld_row rfl 35 (.tmp 4) rfl g rfl 35 _ hblk8 _ Try.underlying35 rfl (headSize' _ _ _ _) ?_)
      | (with_reducible refine st_row (w0 := w) w.heap.size rfl 35 (.tmp 4) _ rfl g _ rfl rfl 35 _ hblk8 (headSize' _ _ _ _) (hcells_sizes _ _ _ _ _ _ _ _) (hcells_one _ _ _ _) hb8 hg ?_
         intro w9 hblk9 hb9 hf9 hs9))
    refine bodyPost_ret (res_cttt rfl rfl hblk9 Try.underlying35 rfl (headSize' _ _ _ _)) rfl ⟨?_, hb9⟩
    rw [HE.out, ifH_ok _ rfl, ifz_ok _ rfl, ifz_ok _ rfl, ← HH.out, ← HT.out]
    have e1 : hcells (hdS b) none 0 0 = hcells ⟨rb b 1, w2 b 4, df, mf, f % 8192 * 8, rb b 8, rb b 9, w4 b 12, w4 b 16, []⟩ none 0 0 := by
      rw [HDFF.out, HMF.out, HF6.out, Int.mul_comm]; rfl
    rw [e1]
    rfl
  · have HE := Sec.mk (show parseE b whole = frontE b whole by unfold parseE; rw [if_neg c1])
    obtain ⟨E, hE⟩ : ∃ E, E = frontE b whole := ⟨_, rfl⟩
    have HEE := Sec.mk hE
    have c1b : (E != 0) = true := bne_iff_ne.mpr (by rw [hE]; exact c1)
    have HH := Sec.mk (ifH_no (hdS b) (show parseE b whole ≠ 0 by rw [HE.out]; exact c1))
    have HZ := Sec.mk (fun x => ifz_no (e := parseE b whole) x (by rw [HE.out]; exact c1))
    clear c1 hE
    go_enter Try.func96, Try.ntmps96
    go_wp2_with (with_reducible refine al_step w.heap.size rfl 4 rfl 35 rfl (hcells Hd.zero none 0 0) headZero (Below.refl _ _) (Nat.le_refl _) ?_; intro g w1 hg hblk hb0 hb1 hs1)
    refine (measure_any b A c whole _ (HX.out.below hb1)).mono ?_
    rintro e w2 ⟨rfl, ⟨m1, rfl⟩⟩
    rw [← HEE.out]
    go_wp2_with (first
      | (with_reducible refine ld_row rfl 35 (.tmp 4) rfl g rfl 35 _ (by repeat (first | exact hblk | refine Blk.drewN ?_ _ | refine Blk.alloc ?_ _)) _ Try.underlying35 rfl (headSize' _ _ _ _) ?_)
      | (with_reducible refine st_row (w0 := w) w.heap.size rfl 35 (.tmp 4) _ rfl g _ rfl rfl 35 _ (by repeat (first | exact hblk | refine Blk.drewN ?_ _ | refine Blk.alloc ?_ _)) (headSize' _ _ _ _) (hcells_sizes _ _ _ _ _ _ _ _) (hcells_one _ _ _ _) (by repeat (first | exact hb1 | exact Below.refl _ _ | refine below_drewN ?_ _ | refine below_new ?_ _)) hg ?_
         intro w9 hblk9 hb9 hf9 hs9))
    refine bodyPost_ret (res_cttt rfl rfl hblk9 Try.underlying35 rfl (headSize' _ _ _ _)) rfl ⟨?_, hb9⟩
    rw [HH.out, HZ.out, HZ.out, HE.out, ← HEE.out]
    rfl

end Go.Proofs.Ytdjldipiggfjdaa
