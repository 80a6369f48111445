/-
  LAYER 3's program: a router's work, ip4.Age: by contract, in any world. Conditions: readable bytes.
-/
import Derived.Test.YtdjldipiggfjdaaBuild
import Derived.Test.YtdjldipiggfjdaaCopySpec
namespace Go.Proofs.Ytdjldipiggfjdaa
open Go.RowKit
set_option linter.unusedVariables false
set_option linter.unusedSimpArgs false

section
variable {P : Program} {ops : Array Oper} {rest : List Oper} {o : Oper} {a : Act} {Q : Exit → Act → World → Prop}
/-- copy(dst, src), the source longer than all of dst, which is a window from its begin on. -/
theorem cpy_pre {w0 W : World} (base : Nat) (hgd : o.guard = none) (s x : Operand) (dT sT e : TypeId)
    (ho : o.op = .call { callee := .builtin .copy, args := #[s, x], argTypes := #[dT, sT] })
    (hu : P.underlying dT = some (.slice e)) (hinfo : (P.info? e).map (fun i => (i.zero, i.size, i.bytes)) = some (some (.int .u8 0), 1, 1))
    {g c : Nat} {xs : List UInt8} (hw : Win e W g 0 c xs) (dLen dCap : Nat) (B : Option Addr) (d : Nat) (b : List UInt8) (m : Nat) (hm : m = b.length)
    (hs : a.eval s = .slice (some ⟨g, 0, none⟩) dLen dCap) (hx : a.eval x = .slice B m d) (hr : RD W B b)
    (hpos : 0 < dLen) (hl : dLen ≤ b.length) (hk : dLen = xs.length) (HB : Below base w0 W) (hg : base ≤ g)
    (h : ∀ w1, Win e w1 g 0 c (b.take dLen) → Below base w0 w1 → W.heap.size ≤ w1.heap.size → wpList P ops Q rest (a.put o.dst (goInt dLen)) w1) :
    wpList P ops Q (o :: rest) a W := by
  subst hm
  obtain ⟨i0, hi, hzz⟩ := Option.map_eq_some_iff.1 hinfo
  simp only [Prod.mk.injEq] at hzz
  obtain ⟨hz0, hz1, hz2⟩ := hzz
  have hsz : (P.info? e).map (·.size) = some 1 := by rw [hi]; simp [hz1]
  have hr' := hr.take_ dLen
  have hlen := hw.len
  have htl : (b.take dLen).length = dLen := by rw [List.length_take]; omega
  obtain ⟨ad, rfl⟩ := hr'.some_ (by omega)
  obtain ⟨cur, h1, h2, h3⟩ := hw.blk
  have hrun := run_copy_row (P := P) W dT sT o.type e g 0 dLen dCap ad b.length d cur e (bv (b.take dLen)) hu hsz h1 (by rw [bv_length, htl]; exact (Nat.min_eq_right hl).symm) hr'.cells (by rw [bv_length]; omega) (bv_one _)
  have hwin := win_over hw 0 (b.take dLen) (by omega) (by omega) cur h1 (b.take dLen) (by omega) (fun j hj => by rw [if_pos (by omega), Nat.sub_zero])
  have hfr := fr_setRow h1 0 (bv (b.take dLen)) (by rw [bv_length]; omega)
  simp only [Nat.add_zero] at hwin
  refine wpList_plain hgd fun K hK => ?_
  unfold Oper.wp execOp
  simp only [ho, resolve, invoke, builtin, Sem.run_bind, Sem.run_pure, Result.andThen_ok, List.map_toArray, List.map_cons, List.map_nil, hs, hx, hrun]
  rw [show (bv (b.take dLen)).length = dLen from by rw [bv_length, htl]]
  rw [show (bv (b.take dLen)).length = dLen from by rw [bv_length, htl]] at hwin hfr
  exact hK _ _ (h _ hwin (HB.trans ⟨hfr.os, hfr.tape, hfr.output, hfr.size, fun k hk => hfr.keep k (Nat.lt_of_lt_of_le hk (Nat.le_trans hg (Nat.le_of_lt hw.lt))) fun o ho => by omega⟩) hfr.size)
end

set_option maxHeartbeats 1600000 in
set_option maxRecDepth 100000 in
theorem age_any (b : List UInt8) (A : Option Addr) (c : Nat) (w : World) (hx : RD w A b) (hc : b.length ≤ c) :
    Calls Try.prog 59 #[.slice A b.length c] w fun e w' => ∃ A1 c1,
      e = .returned (.tuple #[.slice A1 (ifB (ageE b) (ageS b)).length c1, .int .i64 (ageE b)]) ∧ Own 5 w' w.heap.size A1 c1 (ifB (ageE b) (ageS b)) ∧ Below w.heap.size w w' := by
  have HX := Sec.mk hx
  have lx := hx.len
  clear hx
  by_cases c1 : parseE b true = 0
  rotate_left
  · obtain ⟨E, hE⟩ : ∃ E, E = parseE b true := ⟨_, rfl⟩
    have HE := Sec.mk hE
    have c1b : (E != 0) = true := bne_iff_ne.mpr (by rw [hE]; exact c1)
    have HEN := Sec.mk (show E ≠ 0 by rw [hE]; exact c1)
    have HZ := Sec.mk (fun x => ifz_no (e := E) x (show E ≠ 0 by rw [hE]; exact c1))
    have HH := Sec.mk (ifH_no (hdS b) (show E ≠ 0 by rw [hE]; exact c1))
    have HA := Sec.mk (show ageE b = E by unfold ageE; rw [if_neg c1, hE])
    clear c1 hE
    go_enter Try.func59, Try.ntmps59
    go_wp2_with fail
    refine (read_any b A c true _ HX.out hc).mono ?_
    rintro e w2 ⟨rfl, hb2⟩
    rw [← HE.out, HH.out, HZ.out, HZ.out]
    go_wp2_with (first
      | (with_reducible refine al_step w.heap.size rfl 4 rfl 35 rfl (hcells Hd.zero none 0 0) headZero hb2 hb2.size ?_; intro g3 w3 hg3 hk3 hb30 hb3 hs3)
      | (with_reducible refine st_row (w0 := w) w.heap.size rfl 35 (.tmp 4) _ rfl g3 _ rfl rfl 35 _ hk3 (headSize' _ _ _ _) (hcells_sizes _ _ _ _ _ _ _ _) (hcells_one _ _ _ _) hb3 (Nat.le_trans hb2.size hg3) ?_
         intro w4 hk4 hb4 hf4 hs4))
    go_ret2
    refine ⟨none, 0, ?_, ?_, hb4⟩
    rw [HA.out, ifB_no _ HEN.out]
    rfl
    rw [HA.out, ifB_no _ HEN.out]
    exact .nil
  obtain ⟨p1, p2, p3, p4, p5⟩ := parseE_zero c1
  obtain ⟨f1, f2, f3, f4, f5, f6⟩ := frontE_ok p1
  have f6 := f6 rfl
  have C1 := Sec.mk c1
  have b0 := rb_lo b 8
  have b1 := rb_hi b 8
  have HLAW := Sec.mk (age_law b c1)
  have hparts := take_parts b (w2 b 2) f3 f5 f6
  have hol : ((hdS b).opts.length : Int) = headS b - 20 := by
    show (((b.take (headS b).toNat).drop 20).length : Int) = _
    rw [List.length_drop, List.length_take]
    omega
  have hbl : ((bodyS b).length : Int) = w2 b 2 - headS b := by
    unfold bodyS
    rw [List.length_drop, List.length_take]
    omega
  obtain ⟨h, hh⟩ : ∃ h, h = hdS b := ⟨_, rfl⟩
  obtain ⟨os, hos⟩ : ∃ os, os = (hdS b).opts := ⟨_, rfl⟩
  obtain ⟨bs, hbs⟩ : ∃ bs, bs = bodyS b := ⟨_, rfl⟩
  obtain ⟨hd, hhd⟩ : ∃ hd, hd = headS b := ⟨_, rfl⟩
  obtain ⟨t, ht⟩ : ∃ t, t = w2 b 2 := ⟨_, rfl⟩
  obtain ⟨ttl, httl⟩ : ∃ v, v = rb b 8 := ⟨_, rfl⟩
  have ht8 : h.ttl = ttl := by rw [hh, httl]; rfl
  have t1 := w2_hi b 2
  change b.take (w2 b 2).toNat = b.take 20 ++ ((hdS b).opts ++ bodyS b) at hparts
  rw [← hos, ← hbs, ← ht] at hparts
  rw [← hos, ← hhd] at hol
  rw [← hbs, ← hhd, ← ht] at hbl
  rw [← hhd] at f3 f4 f5
  rw [← ht] at f5 f6 t1
  rw [← httl] at b0 b1
  have HL := ageL_length b f1
  have HD := Sec.mk hhd
  have HT := Sec.mk ht
  have HH := Sec.mk hh
  have HV := Sec.mk httl
  have HOS := Sec.mk hos
  have HBS := Sec.mk hbs
  have HP := Sec.mk hparts
  have HT8 := Sec.mk ht8
  clear p1 p2 p3 p4 p5 f2 hh hhd ht httl hos hbs hparts c1 ht8
  by_cases c2 : ttl ≤ 1
  · have HA := Sec.mk (show ageE b = 35 by unfold ageE; rw [if_pos C1.out, ← HV.out, if_pos c2])
    go_enter Try.func59, Try.ntmps59
    go_wp2_with fail
    refine (read_any b A c true _ HX.out hc).mono ?_
    rintro e w2 ⟨rfl, hb2⟩
    rw [C1.out, ifH_ok _ rfl, ifz_ok _ rfl, ifz_ok _ rfl, ← HH.out, ← HD.out, ← HT.out]
    go_wp2_with (first
      | (with_reducible refine al_step w.heap.size rfl 4 rfl 35 rfl (hcells Hd.zero none 0 0) headZero hb2 hb2.size ?_; intro g3 w3 hg3 hk3 hb30 hb3 hs3)
      | (with_reducible refine st_row (w0 := w) w.heap.size rfl 35 (.tmp 4) _ rfl g3 _ rfl rfl 35 _ hk3 (headSize' _ _ _ _) (hcells_sizes _ _ _ _ _ _ _ _) (hcells_one _ _ _ _) hb3 (Nat.le_trans hb2.size hg3) ?_
         intro w4 hk4 hb4 hf4 hs4
         clear hs4 hf4
         have q5 := hk4.cell 5 (.int .u8 ttl) (by rw [← HT8.out]; rfl)))
    go_ret2
    refine ⟨none, 0, ?_, ?_, hb4⟩
    rw [HA.out, ifB_no _ (by decide)]
    rfl
    rw [HA.out, ifB_no _ (by decide)]
    exact .nil
  have HA := Sec.mk (show ageE b = 0 by unfold ageE; rw [if_pos C1.out, ← HV.out, if_neg c2])
  have c2' : 2 ≤ ttl := by omega
  clear c2
  obtain ⟨n, hn⟩ : ∃ n, n = t.toNat := ⟨_, rfl⟩
  have hnt : (n : Int) = t := by omega
  have hmk : ∀ W : World, (Instr.makeSlice 30 (.int .i64 t) (.int .i64 t)).run Try.prog W = .ok (.slice (some ⟨W.heap.size, 0, none⟩) n n) (W.alloc (.cells (madeCells #[.int .u8 0] n) 5)) := by
    intro W
    have hr := run_mk (P := Try.prog) 30 5 Try.underlying30 byteInfo t (by omega) (by omega) W
    rw [← hn] at hr
    exact hr
  have hnle : n ≤ 140737488351232 := by omega
  have hnb : n ≤ b.length := by omega
  have hn20 : 20 ≤ n := by omega
  have HN := Sec.mk hn
  have HNT := Sec.mk hnt
  have hn8 : (8 : Int) < n := by omega
  have hd0 : 20 ≤ hd := f3
  have hdn : hd ≤ n := by omega
  clear hn hnt
  go_enter Try.func59, Try.ntmps59
  go_wp2_with fail
  refine (read_any b A c true _ HX.out hc).mono ?_
  rintro e w2 ⟨rfl, hb2⟩
  rw [C1.out, ifH_ok _ rfl, ifz_ok _ rfl, ifz_ok _ rfl, ← HH.out, ← HD.out, ← HT.out]
  go_wp2_with (first
    | (with_reducible refine al_step w.heap.size rfl 4 rfl 35 rfl (hcells Hd.zero none 0 0) headZero hb2 hb2.size ?_; intro g3 w3 hg3 hk3 hb30 hb3 hs3)
    | (with_reducible refine st_row (w0 := w) w.heap.size rfl 35 (.tmp 4) _ rfl g3 _ rfl rfl 35 _ hk3 (headSize' _ _ _ _) (hcells_sizes _ _ _ _ _ _ _ _) (hcells_one _ _ _ _) hb3 (Nat.le_trans hb2.size hg3) ?_
       intro w4 hk4 hb4 hf4 hs4
       clear hs4 hf4
       have q5 := hk4.cell 5 (.int .u8 ttl) (by rw [← HT8.out]; rfl))
    | (with_reducible refine cpy_pre w.heap.size rfl (.tmp 24) (.tmp 25) 30 30 5 rfl Try.underlying30 byteInfo (win_made w4 5 n hnle) _ _ A c b _ rfl rfl rfl (HX.out.below (below_new hb4 _)) (by omega) hnb (by simp) (below_new hb4 _) hb4.size ?_
       intro w5 hw5 hb5 hs5
       rw [show b.take n = b.take 20 ++ (os ++ bs) from by rw [HN.out]; exact HP.out] at hw5
       have HW5 := Sec.mk hw5
       have q8 : w5.cell? ⟨w4.heap.size, 8, none⟩ = some (.int .u8 ttl) := by
         rw [hw5.cell0 8 (by simp; omega), rb_append_left _ _ _ (by decide) (by rw [List.length_take]; omega), HV.out]
         congr 2
         exact rb_take b 20 8 (by decide) (by decide)
       have q8f := hw5.frozen
       clear hw5))
  have l20 : (b.take 20).length = 20 := by rw [List.length_take]; omega
  have hwin := win_set HW5.out 8 (ttl - 1) (by rw [List.length_append]; omega) (by omega) (by omega)
  rw [Nat.zero_add, List.set_append_left _ _ (by omega)] at hwin
  have hwin : Win 5 (w5.setCell ⟨w4.heap.size, 8, none⟩ (.int .u8 (ttl - 1))) w4.heap.size 0 n (ageL b ++ (os ++ bs)) := by
    unfold ageL
    rw [← HV.out]
    exact hwin
  have hgm := hb4.size
  have hb6 := hb5.setCell (p := ⟨w4.heap.size, 8, none⟩) hgm (.int .u8 (ttl - 1))
  clear q8 q8f HW5 hb5 hs5 q5 hk4 hb30 hb3 hk3 hs3
  generalize w4.heap.size = gm at hwin hb6 hgm ⊢
  generalize (w5.setCell ⟨gm, 8, none⟩ (.int .u8 (ttl - 1))) = W9 at hwin hb6 ⊢
  obtain ⟨X, hX⟩ : ∃ X, X = ageL b ++ (os ++ bs) := ⟨_, rfl⟩
  have hXl : X.length = n := by have := HNT.out; rw [hX, List.length_append, List.length_append]; omega
  have hwX := hwin
  rw [← hX] at hwX
  have hrx := hwX.reads (by omega)
  obtain ⟨y1, HY1, hy1l, HR1, hy1c, hcut3⟩ := cut_hi (P := Try.prog) Try.underlying30 byteInfo hrx (show X.length ≤ n by omega) .i64 10 (by omega) (by omega)
  obtain ⟨A2, c2, y2, HY2, hy2l, HR2, hy2c, hcut4⟩ := cut_lohi (P := Try.prog) Try.underlying30 byteInfo hrx (show X.length ≤ n by omega) .i64 .i64 12 hd (by omega) (by omega) (by omega)
  rw [hXl] at hcut3 hcut4
  have HSUM : Sec ([y1, y2].flatten = (ageL b).take 10 ++ ((ageL b ++ (hdS b).opts).drop 12)) := ⟨by
    rw [show [y1, y2].flatten = y1 ++ y2 from by simp, HY1.out, HY2.out]
    have e1 : X.take hd.toNat = ageL b ++ os := by
      rw [show hd.toNat = (ageL b ++ os).length from by rw [List.length_append]; omega, hX, ← List.append_assoc, List.take_left]
    have e2 : X.take (10 : Int).toNat = (ageL b).take 10 := by
      rw [hX]
      exact List.take_append_of_le_length (by omega)
    rw [e1, e2, HOS.out]
    rfl⟩
  have HYF : [y1, y2].flatten.length ≤ 140737488351232 := by simp; omega
  obtain ⟨sm, hsm⟩ : ∃ sm, sm = sumS [y1, y2].flatten := ⟨_, rfl⟩
  have sm0 : 0 ≤ sm := by rw [hsm]; exact sumS_lo _
  have sm1 : sm ≤ 65535 := by rw [hsm]; exact sumS_hi _
  have HSM := Sec.mk hsm
  have HXX := Sec.mk hX
  clear hX hsm hrx hwX
  have hrl : (ageL b).length + (os ++ bs).length = n := by have := HNT.out; rw [List.length_append]; omega
  go_region_with (first
    | (go_at_call 46
       go_loud (refine (sum_any [y1, y2] _ _ _ (RDs.alloc2 (by simp) 30 hy1c hy2c (HR1.out.below ((Below.refl _ _).drew)) (HR2.out.below ((Below.refl _ _).drew))) HYF).mono ?_
                rintro e w1 ⟨rfl, rfl⟩
                rw [← HSM.out]))
    | (go_at_call 91
       go_loud (refine (putW_at (ageL b) (os ++ bs) n hrl gm n 10 sm _ ((hwin.keep (w' := W9.drew) rfl).keep ((below_new (Below.refl _ _) _).block _ hwin.lt)) (by omega) (by omega) (by omega) sm0 sm1).mono ?_
                rintro e W10 ⟨rfl, L10, H10, l10', hw10, hf10⟩
                have hbA := below_frg (below_new hb6.drew _) (Nat.le_trans hb6.size (by simp)) hf10 hgm)))
  go_wp2_with fail
  go_ret2
  have hB : ageS b = L10 ++ (os ++ bs) := by
    rw [H10.out, ← HLAW.out sm (by rw [HSM.out, HSUM.out]), HOS.out, HBS.out]
    rfl
  have hl : (L10 ++ (os ++ bs)).length = n := by rw [List.length_append, l10']; exact hrl
  rw [HA.out, ifB_ok _ rfl, hB]
  refine ⟨some ⟨gm, 0, none⟩, n, by rw [hl]; rfl, .win _ _ _ _ hgm hw10 (by omega), hbA⟩

end Go.Proofs.Ytdjldipiggfjdaa
