/-
  LAYER 3's second writing: Parse, Peek, Age: by contract, in any world. Conditions: readable bytes.
-/
import Derived.Test.YtdjldipiggfjdaaRRead
import Derived.Test.YtdjldipiggfjdaaCopySpec
import Derived.Deep.MidRow
namespace Go.Proofs.Ytdjldipiggfjdaa
open Go.RowKit
set_option linter.unusedVariables false
set_option linter.unusedSimpArgs false

section
variable {P : Program} {ops : Array Oper} {o : Oper} {a : Act} {Q : Exit → Act → World → Prop} {S : World → Prop} {md : Region.Mode}
/-- A struct is loaded in a region that draws its order: it may be taken first. -/
theorem yH_load (hw : Region.wanted o (yielded ops a.tmps) = true) (ty : TypeId) (x : Operand) (ho : o.op = .load ty x) (g off : Nat) (hx : a.eval x = .pointer (some ⟨g, off, none⟩)) (t : TypeId) (cs vs : Array Value) (hv : (cs.extract off (off + vs.size)) = vs)
    (hS : ∀ w, S w → Blk w g t cs) (d : TypeDesc) (hu : P.underlying ty = some d) (hd : d.isRow = true) (hi : (P.info? ty).map (·.size) = some vs.size) : YieldsIf P ops S o (.agg vs) a := by
  refine .inl ⟨hw, fun w hw' => ?_⟩
  have hr : w.rangeAt g off vs.toList := by
    have := World.rangeAt_of_block (hS w hw').out off vs.size
    rw [hv] at this
    exact this
  have hrun := run_loadVar_mid (P := P) w g off ty vs.toList d hr hu hd (by simpa using hi)
  unfold execOp
  simp only [ho, hx, Instr.loadAt, Instr.sureAddr, Sem.run_bind, Sem.run_pure, Result.andThen_ok, hrun]
/-- Number k alone may come up. -/
theorem wpH_one {k : Nat} {f : Nat} {listed : Array Bool} {w : World} (ho : ops[k]? = some o) (hr : Region.ready md ops listed = [k]) (hw : Region.wanted o (yielded ops a.tmps) = true)
    (h : ∀ K : Act → World → Prop, (∀ a' w', S w' → wpAnyH P md ops Q S f (listed.setIfInBounds k true) a' w' → K a' w') → o.wp P a w K Q) : wpAnyH P md ops Q S (f + 1) listed a w := by
  refine wpAnyH_all hr (by simp) fun i hi => ?_
  obtain rfl : i = k := by simpa using hi
  unfold wpOp
  simp only [ho, hw, if_true]
  exact .inl (h _ fun a' w' hS hd => ⟨hS, hd⟩)
end

theorem Own.lt {e : TypeId} {w : World} {base : Nat} {A : Option Addr} {c : Nat} {xs : List UInt8} (h : Own e w base A c xs) (ad : Addr) (hA : A = some ad) : ad.block < w.heap.size := by
  cases h with
  | nil => cases hA
  | win g off c xs hb hw hl => injection hA with hA; subst hA; exact hw.lt
theorem Own.past {e : TypeId} {w2 w3 w4 : World} {base g : Nat} {A : Option Addr} {c : Nat} {xs : List UInt8} (h : Own e w2 base A c xs) (hb : Below w2.heap.size w2 w3) (hf : Fr (fun k _ => k = g) w3 w4) (hg : w2.heap.size ≤ g) : Own e w4 base A c xs :=
  (h.below hb).fr hf fun ad hA o _ _ hs => by have := h.lt ad hA; omega
theorem Own.drew {e : TypeId} {w : World} {base : Nat} {A : Option Addr} {c : Nat} {xs : List UInt8} (h : Own e w base A c xs) : Own e w.drew base A c xs := h.below (Below.refl _ _).drew

set_option maxHeartbeats 1600000 in
set_option maxRecDepth 100000 in
theorem rparse_any (b : List UInt8) (A : Option Addr) (c : Nat) (w : World) (hx : RD w A b) (hc : b.length ≤ c) :
    Calls Try.prog 53 #[.slice A b.length c] w fun e w' => ∃ A1 c1 A2 c2,
      e = .returned (.tuple #[.agg (pcells (ifH (parseE b true) (hdS b)) A1 (ifH (parseE b true) (hdS b)).opts.length c1 A2 (ifB (parseE b true) (bodyS b)).length c2), .int .i64 (parseE b true)]) ∧
      Own 5 w' w.heap.size A1 c1 (ifH (parseE b true) (hdS b)).opts ∧ Own 5 w' w.heap.size A2 c2 (ifB (parseE b true) (bodyS b)) ∧ Below w.heap.size w w' := by
  have HX := Sec.mk hx
  clear hx
  obtain ⟨h, hh⟩ : ∃ h, h = ifH (parseE b true) (hdS b) := ⟨_, rfl⟩
  obtain ⟨bs, hbs⟩ : ∃ bs, bs = ifB (parseE b true) (bodyS b) := ⟨_, rfl⟩
  obtain ⟨E, hE⟩ : ∃ E, E = parseE b true := ⟨_, rfl⟩
  have HH := Sec.mk hh
  have HB := Sec.mk hbs
  have HE := Sec.mk hE
  rw [← hh, ← hbs, ← hE]
  clear hh hbs hE
  go_enter Try.func53, Try.ntmps53
  go_wp2_with (with_reducible refine al_step w.heap.size rfl 2 rfl 37 rfl _ pktZero (Below.refl _ _) (Nat.le_refl _) ?_; intro g w1 hg hblk hb0 hb1 hs1)
  refine (rread_any b A c true _ (HX.out.below hb1) hc).mono ?_
  rintro e w2 ⟨A1, c1, A2, c2, rfl, ho1, ho2, hb2⟩
  rw [← HH.out] at ho1 ⊢
  rw [← HB.out] at ho2 ⊢
  rw [← HE.out]
  have hbw := below_on hb1 hb2
  have hblk2 := hblk.below hb2
  have hgl := hblk.lt
  go_wp2_with (with_reducible refine st_row (w0 := w) w.heap.size rfl 37 (.tmp 2) _ rfl g _ rfl rfl 37 _ hblk2 (pktSize' _ _ _ _ _ _ _) (pcells_sizes _ _ _ _ _ _ _ _ _ _ _ _ _ _) (pcells_one _ _ _ _ _ _ _) hbw hg ?_
               intro w9 hk9 hb9 hf9 hs9)
  refine bodyPost_ret (res_ct rfl rfl hk9 Try.underlying37 rfl (pktSize' _ _ _ _ _ _ _)) rfl ⟨A1, c1, A2, c2, rfl, (ho1.off hgl hf9).base (Nat.le_of_lt hs1), (ho2.off hgl hf9).base (Nat.le_of_lt hs1), hb9⟩

set_option maxHeartbeats 1600000 in
set_option maxRecDepth 100000 in
theorem rpeek_any (b : List UInt8) (A : Option Addr) (c : Nat) (w : World) (hx : RD w A b) (hc : b.length ≤ c) :
    Calls Try.prog 57 #[.slice A b.length c] w fun e w' => ∃ A1 c1 A2 c2,
      e = .returned (.tuple #[.agg (hcells (ifH (parseE b false) (hdS b)) A1 (ifH (parseE b false) (hdS b)).opts.length c1), .slice A2 (ifB (parseE b false) (bodyS b)).length c2, .int .i64 (parseE b false)]) ∧
      Own 5 w' w.heap.size A1 c1 (ifH (parseE b false) (hdS b)).opts ∧ Own 5 w' w.heap.size A2 c2 (ifB (parseE b false) (bodyS b)) ∧ Below w.heap.size w w' := by
  have HX := Sec.mk hx
  clear hx
  obtain ⟨h, hh⟩ : ∃ h, h = ifH (parseE b false) (hdS b) := ⟨_, rfl⟩
  obtain ⟨bs, hbs⟩ : ∃ bs, bs = ifB (parseE b false) (bodyS b) := ⟨_, rfl⟩
  obtain ⟨E, hE⟩ : ∃ E, E = parseE b false := ⟨_, rfl⟩
  have HH := Sec.mk hh
  have HB := Sec.mk hbs
  have HE := Sec.mk hE
  rw [← hh, ← hbs, ← hE]
  clear hh hbs hE
  go_enter Try.func57, Try.ntmps57
  go_wp2_with (with_reducible refine al_step w.heap.size rfl 2 rfl 35 rfl (hcells Hd.zero none 0 0) headZero (Below.refl _ _) (Nat.le_refl _) ?_; intro g w1 hg hblk hb0 hb1 hs1)
  refine (rread_any b A c false _ (HX.out.below hb1) hc).mono ?_
  rintro e w2 ⟨A1, c1, A2, c2, rfl, ho1, ho2, hb2⟩
  rw [← HH.out] at ho1 ⊢
  rw [← HB.out] at ho2 ⊢
  rw [← HE.out]
  have hbw := below_on hb1 hb2
  have hblk2 := hblk.below hb2
  have hgl := hblk.lt
  go_wp2_with (first
    | (with_reducible refine al_step w.heap.size rfl 5 rfl 37 rfl _ pktZero hbw hbw.size ?_; intro g3 w3 hg3 hk3 hb30 hb3 hs3
       have hblk3 := hblk2.below hb30
       have hne := hblk3.ne hk3 (by decide))
    | (with_reducible refine st_row (w0 := w) w.heap.size rfl 37 (.tmp 5) _ rfl g3 _ rfl rfl 37 _ hk3 (pktSize' _ _ _ _ _ _ _) (pcells_sizes _ _ _ _ _ _ _ _ _ _ _ _ _ _) (pcells_one _ _ _ _ _ _ _) hb3 (Nat.le_trans hbw.size hg3) ?_
       intro w4 hk4 hb4 hf4 hs4
       have hblk4 := hblk3.fr hf4 (fun _ => hne)
       have q10 := hk4.cell 10 _ rfl
       clear hs4))
  refine wp_region_held (S := fun W => Blk W g3 37 (pcells h A1 h.opts.length c1 A2 bs.length c2)) (by kernel_rfl) ?_
  change wpAnyH _ _ _ _ _ _ _ _ w4.drew
  refine wpAnyH_take (i := 0) (v := ?_) rfl (by kernel_rfl) (by kernel_rfl) (by kernel_rfl) (fun _ _ _ h => h) (.inl ⟨by rfl, fun W hW => ?_⟩) hk4.drew ?_
  rotate_left
  · have j10 := Blk.cell hW 10 _ rfl
    first | (go_simp; done) | (go_simp; with_reducible rfl)
  refine wpAnyH_take (i := 1) (v := .agg (hcells h A1 h.opts.length c1)) rfl (by kernel_rfl) (by kernel_rfl) (by kernel_rfl) (fun _ _ _ h => h) (yH_load (by rfl) 35 (.tmp 12) rfl g3 0 rfl 37 _ (hcells h A1 h.opts.length c1) (by kernel_rfl) (fun W hW => hW) _ Try.underlying35 rfl (headSize' _ _ _ _)) hk4.drew ?_
  refine wpAnyH_take (i := 2) (v := ?_) rfl (by kernel_rfl) (by kernel_rfl) (by kernel_rfl) (fun _ _ _ h => h) (.inl ⟨by rfl, fun W hW => ?_⟩) hk4.drew ?_
  rotate_left
  · have j10 := Blk.cell hW 10 _ rfl
    first | (go_simp; done) | (go_simp; with_reducible rfl)
  refine wpAnyH_take (i := 3) (v := .slice A2 bs.length c2) rfl (by kernel_rfl) (by kernel_rfl) (by kernel_rfl) (fun _ _ _ h => h) (.inl ⟨by rfl, fun W hW => ?_⟩) hk4.drew ?_
  · have j10 := Blk.cell hW 10 (.slice A2 bs.length c2) rfl
    first | (go_simp; done) | (go_simp; with_reducible rfl)
  refine wpAnyH_take (i := 4) (v := ?_) rfl (by kernel_rfl) (by kernel_rfl) (by kernel_rfl) (fun _ _ _ h => h) (.inl ⟨by rfl, fun W hW => ?_⟩) hk4.drew ?_
  rotate_left
  · have j10 := Blk.cell hW 10 _ rfl
    first | (go_simp; done) | (go_simp; with_reducible rfl)
  refine wpH_one (k := 5) rfl (by kernel_rfl) (by rfl) fun K hK => ?_
  have hblkd : Blk w4.drew g 35 (hcells Hd.zero none 0 0) := ⟨hblk4.out⟩
  refine @st_mid_wp _ _ _ _ _ _ ?v0 ?v1 ?v2 ?z0 ?v3 ?v4 ?v5 ?z1 ?z2 ?v6 ?v7 ?v8 ?v9 ?z3 ?z5 ?z6 ?z4 ?_
  case v0 => exact 35
  case v1 => exact .tmp 2
  case v2 => exact .tmp 13
  case v3 => exact g
  case v4 => exact 0
  case v5 => exact .agg (hcells h A1 h.opts.length c1)
  case v6 => exact 35
  case v7 => exact hcells Hd.zero none 0 0
  case v8 => exact hcells h A1 h.opts.length c1
  case v9 => exact hblkd
  case z0 => rfl
  case z5 => exact headSize' _ _ _ _
  case z6 => exact hcells_one _ _ _ _
  case z1 => rfl
  case z2 => kernel_rfl
  case z3 => exact (show (0:Nat) + 10 ≤ 10 from by decide)
  case z4 => kernel_rfl
  intro w9 hk9 hf9 hbb9
  have hk39 := hk4.drew.fr hf9 (fun _ h => hne h.symm)
  refine hK _ _ hk39 ?_
  clear hK K
  refine wpAnyH_take (i := 6) (v := ?_) rfl (by kernel_rfl) (by kernel_rfl) (by kernel_rfl) (fun _ _ _ h => h) (.inl ⟨by rfl, fun W hW => ?_⟩) hk39 ?_
  rotate_left
  · have j10 := Blk.cell hW 10 _ rfl
    first | (go_simp; done) | (go_simp; with_reducible rfl)
  refine wpAnyH_take (i := 7) (v := ?_) rfl (by kernel_rfl) (by kernel_rfl) (by kernel_rfl) (fun _ _ _ h => h) (.inl ⟨by rfl, fun W hW => ?_⟩) hk39 ?_
  rotate_left
  · have j10 := Blk.cell hW 10 _ rfl
    first | (go_simp; done) | (go_simp; with_reducible rfl)
  refine wpAnyH_done (by kernel_rfl) ?_ _
  have hb9 := hbb9 _ _ hb4.drew hg
  go_wp2_with fail
  refine bodyPost_ret (v := .tuple #[.agg (hcells h A1 h.opts.length c1), .slice A2 bs.length c2, .int .i64 E]) ?_ rfl ⟨A1, c1, A2, c2, rfl, ?_, ?_, hb9⟩
  · exact (res_ctt (p := 2) (u := 3) (v := 4) (by kernel_rfl) (by kernel_rfl) hk9 Try.underlying35 rfl (headSize' _ _ _ _)).trans (by kernel_rfl)
  · exact ((ho1.past hb30 hf4 hg3).drew.off hgl hf9).base (Nat.le_of_lt hs1)
  · exact ((ho2.past hb30 hf4 hg3).drew.off hgl hf9).base (Nat.le_of_lt hs1)

set_option maxHeartbeats 1600000 in
set_option maxRecDepth 100000 in
theorem rage_any (b : List UInt8) (A : Option Addr) (c : Nat) (w : World) (hx : RD w A b) (hc : b.length ≤ c) :
    Calls Try.prog 60 #[.slice A b.length c] w fun e w' => ∃ A1 c1,
      e = .returned (.tuple #[.slice A1 (ifB (ageE b) (ageS b)).length c1, .int .i64 (ageE b)]) ∧ Own 5 w' w.heap.size A1 c1 (ifB (ageE b) (ageS b)) ∧ Below w.heap.size w w' := by
  have HX := Sec.mk hx
  clear hx
  by_cases c1 : parseE b true = 0
  rotate_left
  · obtain ⟨E, hE⟩ : ∃ E, E = parseE b true := ⟨_, rfl⟩
    have HE := Sec.mk hE
    have c1b : (E != 0) = true := bne_iff_ne.mpr (by rw [hE]; exact c1)
    have HEN := Sec.mk (show E ≠ 0 by rw [hE]; exact c1)
    have HH := Sec.mk (ifH_no (hdS b) (show E ≠ 0 by rw [hE]; exact c1))
    have HB := Sec.mk (ifB_no (bodyS b) (show E ≠ 0 by rw [hE]; exact c1))
    have HA := Sec.mk (show ageE b = E by unfold ageE; rw [if_neg c1, hE])
    clear c1 hE
    go_enter Try.func60, Try.ntmps60
    go_wp2_with fail
    refine (rparse_any b A c _ HX.out hc).mono ?_
    rintro e w2 ⟨A1, c1, A2, c2, rfl, ho1, ho2, hb2⟩
    rw [← HE.out, HH.out, HB.out]
    go_wp2_with (first
      | (with_reducible refine al_step w.heap.size rfl 4 rfl 37 rfl _ pktZero hb2 hb2.size ?_; intro g3 w3 hg3 hk3 hb30 hb3 hs3)
      | (with_reducible refine st_row (w0 := w) w.heap.size rfl 37 (.tmp 4) _ rfl g3 _ rfl rfl 37 _ hk3 (pktSize' _ _ _ _ _ _ _) (pcells_sizes _ _ _ _ _ _ _ _ _ _ _ _ _ _) (pcells_one _ _ _ _ _ _ _) hb3 (Nat.le_trans hb2.size hg3) ?_
         intro w4 hk4 hb4 hf4 hs4))
    go_ret2
    refine ⟨none, 0, ?_, ?_, hb4⟩
    rw [HA.out, ifB_no _ HEN.out]
    rfl
    rw [HA.out, ifB_no _ HEN.out]
    exact .nil
  have C1 := Sec.mk c1
  have b0 := rb_lo b 8
  have b1 := rb_hi b 8
  have HBE := Sec.mk (age_build b c1)
  obtain ⟨h, hh⟩ : ∃ h, h = hdS b := ⟨_, rfl⟩
  obtain ⟨bs, hbs⟩ : ∃ bs, bs = bodyS b := ⟨_, rfl⟩
  obtain ⟨ttl, httl⟩ : ∃ v, v = rb b 8 := ⟨_, rfl⟩
  have hin : HdIn h.aged ∨ ttl ≤ 1 := by
    by_cases h2 : ttl ≤ 1
    · exact .inr h2
    · left
      have g1 := rb_lo b 1; have g2 := rb_hi b 1; have g3 := rb_lo b 9; have g4 := rb_hi b 9
      have g5 := w2_lo b 4; have g6 := w2_hi b 4; have g7 := w2_lo b 6; have g8 := w2_hi b 6
      have g9 := w4_lo b 12; have g10 := w4_hi b 12; have g11 := w4_lo b 16; have g12 := w4_hi b 16
      rw [hh]
      exact ⟨g1, g2, g5, g6, (by show _ ≤ 8 * (Go.Proofs.Ytdjldipiggfjdaa.w2 b 6 % 8192); omega), (by show 8 * (Go.Proofs.Ytdjldipiggfjdaa.w2 b 6 % 8192) ≤ _; omega), (by show 0 ≤ rb b 8 - 1; omega), (by show rb b 8 - 1 ≤ 255; omega), g3, g4, g9, g10, g11, g12⟩
  have ht8 : h.ttl = ttl := by rw [hh, httl]; rfl
  have HH := Sec.mk hh
  have HBS := Sec.mk hbs
  have HV := Sec.mk httl
  have HT8 := Sec.mk ht8
  rw [← httl] at b0 b1
  clear hh hbs httl ht8 c1
  by_cases c2 : ttl ≤ 1
  · have HA := Sec.mk (show ageE b = 35 by unfold ageE; rw [if_pos C1.out, ← HV.out, if_pos c2])
    have c2b : decide (ttl < 2) = true := decide_eq_true (by omega)
    clear hin
    go_enter Try.func60, Try.ntmps60
    go_wp2_with fail
    refine (rparse_any b A c _ HX.out hc).mono ?_
    rintro e w2 ⟨A1, c1, A2, c2, rfl, ho1, ho2, hb2⟩
    rw [C1.out, ifH_ok _ rfl, ifB_ok _ rfl, ← HH.out, ← HBS.out]
    go_wp2_with (first
      | (with_reducible refine al_step w.heap.size rfl 4 rfl 37 rfl _ pktZero hb2 hb2.size ?_; intro g3 w3 hg3 hk3 hb30 hb3 hs3)
      | (with_reducible refine st_row (w0 := w) w.heap.size rfl 37 (.tmp 4) _ rfl g3 _ rfl rfl 37 _ hk3 (pktSize' _ _ _ _ _ _ _) (pcells_sizes _ _ _ _ _ _ _ _ _ _ _ _ _ _) (pcells_one _ _ _ _ _ _ _) hb3 (Nat.le_trans hb2.size hg3) ?_
         intro w4 hk4 hb4 hf4 hs4
         clear hs4
         have q5 := hk4.cell 5 (.int .u8 ttl) (by rw [← HT8.out]; rfl)))
    go_ret2
    refine ⟨none, 0, ?_, ?_, hb4⟩
    rw [HA.out, ifB_no _ (by decide)]
    rfl
    rw [HA.out, ifB_no _ (by decide)]
    exact .nil
  have HA := Sec.mk (show ageE b = 0 by unfold ageE; rw [if_pos C1.out, ← HV.out, if_neg c2])
  have HIN : Sec (HdIn h.aged) := ⟨hin.resolve_right c2⟩
  have c2' : 2 ≤ ttl := by omega
  have HAG : Sec (h.aged = { h with ttl := ttl - 1 }) := ⟨by unfold Hd.aged; rw [HT8.out]⟩
  clear c2 hin
  go_enter Try.func60, Try.ntmps60
  go_wp2_with fail
  refine (rparse_any b A c _ HX.out hc).mono ?_
  rintro e w2 ⟨A1, c1, A2, c2, rfl, ho1, ho2, hb2⟩
  rw [C1.out, ifH_ok _ rfl, ifB_ok _ rfl, ← HH.out, ← HBS.out]
  rw [C1.out, ifH_ok _ rfl, ← HH.out] at ho1
  rw [C1.out, ifB_ok _ rfl, ← HBS.out] at ho2
  go_wp2_with (first
    | (with_reducible refine al_step w.heap.size rfl 4 rfl 37 rfl _ pktZero hb2 hb2.size ?_; intro g3 w3 hg3 hk3 hb30 hb3 hs3)
    | (with_reducible refine st_row (w0 := w) w.heap.size rfl 37 (.tmp 4) _ rfl g3 _ rfl rfl 37 _ hk3 (pktSize' _ _ _ _ _ _ _) (pcells_sizes _ _ _ _ _ _ _ _ _ _ _ _ _ _) (pcells_one _ _ _ _ _ _ _) hb3 (Nat.le_trans hb2.size hg3) ?_
       intro w4 hk4 hb4 hf4 hs4
       clear hs4
       have q5 := hk4.cell 5 (.int .u8 ttl) (by rw [← HT8.out]; rfl)
       have q5f := hk4.frozen 5
       have hks := hk4.set 5 (.int .u8 (ttl - 1)) (pcells { h with ttl := ttl - 1 } A1 h.opts.length c1 A2 bs.length c2) rfl
       have hbs := hb4.setCell (p := ⟨g3, 5, none⟩) (Nat.le_trans hb2.size hg3) (.int .u8 (ttl - 1))
       have ho1s := ((ho1.past hb30 hf4 hg3).fr (fr_set (.int .u8 (ttl - 1))) (fun ad hA o _ _ hs => by have := ho1.lt ad hA; have := hs.1; omega) : Own 5 (w4.setCell ⟨g3, 5, none⟩ (.int .u8 (ttl - 1))) w.heap.size A1 c1 h.opts)
       have ho2s := ((ho2.past hb30 hf4 hg3).fr (fr_set (.int .u8 (ttl - 1))) (fun ad hA o _ _ hs => by have := ho2.lt ad hA; have := hs.1; omega) : Own 5 (w4.setCell ⟨g3, 5, none⟩ (.int .u8 (ttl - 1))) w.heap.size A2 c2 bs))
    | (with_reducible refine ld_row rfl 37 (.tmp 4) rfl g3 rfl 37 _ hks _ Try.underlying37 rfl (pktSize' _ _ _ _ _ _ _) ?_))
  refine (rbuild_any { h with ttl := ttl - 1 } (by rw [← HAG.out]; exact HIN.out) A1 A2 c1 c2 bs _ ho1s.reads ho1s.cap ho2s.reads).mono ?_
  rintro e w5 ⟨A3, c3, rfl, ho3, hb5⟩
  rw [← HAG.out, HH.out, HBS.out, HBE.out, ifB_ok _ rfl] at ho3 ⊢
  go_wp2_with fail
  go_ret2
  refine ⟨A3, c3, ?_, ?_, below_on hbs hb5⟩
  · rw [HA.out, ifB_ok _ rfl]
    rfl
  · rw [HA.out, ifB_ok _ rfl]
    exact ho3.base hbs.size

end Go.Proofs.Ytdjldipiggfjdaa
