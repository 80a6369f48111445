/-
  LAYER 3's statements: one step: numbers, plays: by contract, in any world: every readable step is told true. Conditions: a readable step.
-/
import Derived.Test.YtdjldipiggfjdaaSame
namespace Go.Proofs.Ytdjldipiggfjdaa
open Go.RowKit
set_option linter.unusedVariables false
set_option linter.unusedSimpArgs false

/-- A step, and where its lists lie. -/
structure OpV where
  kind : Int
  A : Option Addr
  c : Nat
  bytes : List UInt8
  PA : Option Addr
  pc : Nat
  parts : List (List UInt8)
  x : Int
  y : Int
  z : Int
  h : Hd
  HA : Option Addr
  hc : Nat
  BA : Option Addr
  bc : Nat
  body : List UInt8
def OpV.cells (o : OpV) : Array Value :=
  #[.int .i64 o.kind, .slice o.A o.bytes.length o.c, .slice o.PA o.parts.length o.pc, .int .u16 o.x, .int .u16 o.y, .int .u16 o.z,
    .int .u8 o.h.tos, .int .u16 o.h.id, .bool o.h.df, .bool o.h.mf, .int .i64 o.h.off, .int .u8 o.h.ttl, .int .u8 o.h.proto, .int .u32 o.h.src, .int .u32 o.h.dst, .slice o.HA o.h.opts.length o.hc, .slice o.BA o.body.length o.bc]
/-- A step that can be read. -/
structure OpR (w : World) (o : OpV) : Prop where
  by_ : RD w o.A o.bytes
  byc : o.bytes.length ≤ o.c
  pa : RDs w o.PA o.parts
  pl : o.parts.flatten.length ≤ 140737488351231
  x0 : 0 ≤ o.x
  x1 : o.x ≤ 65535
  y0 : 0 ≤ o.y
  y1 : o.y ≤ 65535
  z0 : 0 ≤ o.z
  z1 : o.z ≤ 65535
  hd : HdIn o.h
  op : RD w o.HA o.h.opts
  opc : o.h.opts.length ≤ o.hc
  bo : RD w o.BA o.body
  boc : o.body.length ≤ o.bc
theorem OpR.below {w w' : World} {o : OpV} (h : OpR w o) (hb : Below w.heap.size w w') : OpR w' o :=
  ⟨h.by_.below hb, h.byc, h.pa.below hb, h.pl, h.x0, h.x1, h.y0, h.y1, h.z0, h.z1, h.hd, h.op.below hb, h.opc, h.bo.below hb, h.boc⟩
theorem opSize (o : OpV) : (Try.prog.info? 39).map (·.size) = some o.cells.size := (by kernel_rfl : (Try.prog.info? 39).map (·.size) = some 17)
theorem op_cells {W : World} {g : Nat} {t : TypeId} {o : OpV} (hk : Blk W g t o.cells) :
    W.cell? ⟨g, 0, none⟩ = some (.int .i64 o.kind) ∧ W.cell? ⟨g, 1, none⟩ = some (.slice o.A o.bytes.length o.c) ∧ W.cell? ⟨g, 2, none⟩ = some (.slice o.PA o.parts.length o.pc) ∧
      W.cell? ⟨g, 3, none⟩ = some (.int .u16 o.x) ∧ W.cell? ⟨g, 4, none⟩ = some (.int .u16 o.y) ∧ W.cell? ⟨g, 5, none⟩ = some (.int .u16 o.z) :=
  ⟨hk.cell 0 _ rfl, hk.cell 1 _ rfl, hk.cell 2 _ rfl, hk.cell 3 _ rfl, hk.cell 4 _ rfl, hk.cell 5 _ rfl⟩

set_option maxHeartbeats 1600000 in
set_option maxRecDepth 100000 in
theorem numbers_true (o : OpV) (w : World) (hr : OpR w o) :
    Calls Try.prog 86 #[.agg o.cells] w fun e w' => e = .returned (.bool true) ∧ Below w.heap.size w w' := by
  have HR := Sec.mk hr
  obtain ⟨x0, x1, y0, y1, z0, z1⟩ : 0 ≤ o.x ∧ o.x ≤ 65535 ∧ 0 ≤ o.y ∧ o.y ≤ 65535 ∧ 0 ≤ o.z ∧ o.z ≤ 65535 := ⟨hr.x0, hr.x1, hr.y0, hr.y1, hr.z0, hr.z1⟩
  clear hr
  by_cases hk : o.kind = 1
  · have hkb : (o.kind == 1) = true := beq_iff_eq.mpr hk
    clear hk x0 x1 y0 y1 z0 z1
    obtain ⟨F, hF⟩ : ∃ F, F = o.parts.flatten := ⟨_, rfl⟩
    have HF := Sec.mk hF
    have hFl : F.length ≤ 140737488351232 := by rw [hF]; have := HR.out.pl; omega
    clear hF
    go_enter Try.func86, Try.ntmps86
    go_wp2_with (first
      | (with_reducible refine bx_step w.heap.size rfl 1 rfl 39 _ rfl o.cells rfl (Below.refl _ _) (Nat.le_refl _) ?_; intro g1 w1 hg1 hk1 hb10 hb1 hs1
         obtain ⟨q0, q1, q2, q3, q4, q5⟩ := op_cells hk1)
      | (go_at_call 46
         refine (sum_any o.parts o.PA o.pc _ (HR.out.pa.below hb1) (by have := HR.out.pl; omega)).mono ?_
         rintro e w2 ⟨rfl, rfl⟩
         rw [← HF.out])
      | (go_at_call 63
         refine (join_any o.parts o.PA o.pc _ (HR.out.pa.below hb1) HR.out.pl).mono ?_
         rintro e w3 ⟨A1, c1, rfl, ho1, hb3⟩
         rw [← HF.out] at ho1 ⊢)
      | (go_at_call 47
         refine (rsum_any [F] _ _ _ (RDs.alloc1 (by simp) 30 ho1.cap ho1.reads) (by simp; omega)).mono ?_
         rintro e w4 ⟨rfl, hb4⟩
         rw [show [F].flatten = F from by simp]))
    go_ret
    exact ⟨rfl, below_on (below_new (below_on hb1 hb3) _) hb4⟩
  · have hkb : (o.kind == 1) = false := beq_eq_false_iff_ne.mpr hk
    clear hk
    go_enter Try.func86, Try.ntmps86
    go_wp2_with (first
      | (with_reducible refine bx_step w.heap.size rfl 1 rfl 39 _ rfl o.cells rfl (Below.refl _ _) (Nat.le_refl _) ?_; intro g1 w1 hg1 hk1 hb10 hb1 hs1
         obtain ⟨q0, q1, q2, q3, q4, q5⟩ := op_cells hk1)
      | (go_at_call 65
         refine (adjust_any o.x o.y o.z _ x0 x1 y0 y1 z0 z1).mono ?_
         rintro e w2 ⟨rfl, rfl⟩)
      | (go_at_call 66
         refine (radjust_any o.x o.y o.z _ x0 x1 y0 y1 z0 z1).mono ?_
         rintro e w3 ⟨rfl, rfl⟩))
    go_ret
    exact ⟨rfl, hb1⟩

/-! ### plays -/
section
variable {P : Program} {ops : Array Oper} {rest : List Oper} {o : Oper} {a : Act} {Q : Exit → Act → World → Prop}
/-- A struct out of a variable, the load being guarded by a test that was met. -/
theorem ld_mid_w {W : World} (hw : Region.wanted o (yielded ops a.tmps) = true) (ty : TypeId) (x : Operand) (ho : o.op = .load ty x) (g off : Nat) (hx : a.eval x = .pointer (some ⟨g, off, none⟩)) (t : TypeId) (cs : Array Value) (hg : Blk W g t cs) (vs : Array Value) (hv : (cs.extract off (off + vs.size)) = vs) (d : TypeDesc)
    (hu : P.underlying ty = some d) (hd : d.isRow = true) (hi : (P.info? ty).map (·.size) = some vs.size)
    (h : wpList P ops Q rest (a.put o.dst (.agg vs)) W) : wpList P ops Q (o :: rest) a W := by
  have hr : W.rangeAt g off vs.toList := by
    have := World.rangeAt_of_block hg.out off vs.size
    rw [hv] at this
    exact this
  refine wpList_step fun K hK => ?_
  rw [if_pos hw]
  have := wp_load_mid (P := P) (op := o) (a := a) (w := W) (K := K) (Q := Q) ty x ho g off hx vs.toList d hr hu hd (by simpa using hi)
  simp only [Array.toArray_toList] at this
  exact this (hK _ _ h)
end
theorem extract_all (vs : Array Value) : vs.extract 0 (0 + vs.size) = vs := by simp

set_option maxHeartbeats 1600000 in
set_option maxRecDepth 100000 in
theorem plays_1 (o : OpV) (w : World) (hr : OpR w o) (hk : o.kind = 1) :
    Calls Try.prog 42 #[.agg o.cells] w fun e w' => e = .returned (.bool true) ∧ Below w.heap.size w w' := by
  have HR := Sec.mk hr
  clear hr
  have k1 : (o.kind == 1) = true := by rw [hk]; rfl
  clear hk
  go_enter Try.func42, Try.ntmps42
  go_wp2_with (first
    | (with_reducible refine bx_step w.heap.size rfl 1 rfl 39 _ rfl o.cells rfl (Below.refl _ _) (Nat.le_refl _) ?_; intro g1 w1 hg1 hk1 hb10 hb1 hs1
       obtain ⟨q0, q1, q2, q3, q4, q5⟩ := op_cells hk1)
    | (with_reducible refine ld_row rfl 39 (.tmp 1) rfl g1 rfl 39 _ hk1 _ Try.underlying39 rfl (opSize _) ?_)
    | (go_at_call 86
       refine (numbers_true o _ (HR.out.below hb1)).mono ?_
       rintro e w2 ⟨rfl, hb2⟩))
  go_ret
  exact ⟨rfl, below_on hb1 hb2⟩

set_option maxHeartbeats 1600000 in
set_option maxRecDepth 100000 in
theorem plays_2 (o : OpV) (w : World) (hr : OpR w o) (hk : o.kind = 2) :
    Calls Try.prog 42 #[.agg o.cells] w fun e w' => e = .returned (.bool true) ∧ Below w.heap.size w w' := by
  have HR := Sec.mk hr
  clear hr
  have k1 : (o.kind == 1) = false := by rw [hk]; rfl
  have k2 : (o.kind == 2) = true := by rw [hk]; rfl
  clear hk
  go_enter Try.func42, Try.ntmps42
  go_wp2_with (first
    | (with_reducible refine bx_step w.heap.size rfl 1 rfl 39 _ rfl o.cells rfl (Below.refl _ _) (Nat.le_refl _) ?_; intro g1 w1 hg1 hk1 hb10 hb1 hs1
       obtain ⟨q0, q1, q2, q3, q4, q5⟩ := op_cells hk1)
    | (with_reducible refine ld_row rfl 39 (.tmp 1) rfl g1 rfl 39 _ hk1 _ Try.underlying39 rfl (opSize _) ?_)
    | (go_at_call 86
       refine (numbers_true o _ (HR.out.below hb1)).mono ?_
       rintro e w2 ⟨rfl, hb2⟩))
  go_ret
  exact ⟨rfl, below_on hb1 hb2⟩

set_option maxHeartbeats 1600000 in
set_option maxRecDepth 100000 in
theorem plays_3 (o : OpV) (w : World) (hr : OpR w o) (hk : o.kind = 3) :
    Calls Try.prog 42 #[.agg o.cells] w fun e w' => e = .returned (.bool true) ∧ Below w.heap.size w w' := by
  have HR := Sec.mk hr
  clear hr
  have k1 : (o.kind == 1) = false := by rw [hk]; rfl
  have k2 : (o.kind == 2) = false := by rw [hk]; rfl
  have k3 : (o.kind == 3) = true := by rw [hk]; rfl
  clear hk
  obtain ⟨h, hh⟩ : ∃ h, h = ifH (parseE o.bytes true) (hdS o.bytes) := ⟨_, rfl⟩
  obtain ⟨bs, hbs⟩ : ∃ bs, bs = ifB (parseE o.bytes true) (bodyS o.bytes) := ⟨_, rfl⟩
  obtain ⟨E, hE⟩ : ∃ E, E = parseE o.bytes true := ⟨_, rfl⟩
  have HH := Sec.mk hh
  have HB := Sec.mk hbs
  have HE := Sec.mk hE
  have hEE : (E == E) = true := beq_self_eq_true _
  clear hh hbs hE
  go_enter Try.func42, Try.ntmps42
  go_wp2_with (first
    | (with_reducible refine bx_step w.heap.size rfl 1 rfl 39 _ rfl o.cells rfl (Below.refl _ _) (Nat.le_refl _) ?_; intro g1 w1 hg1 hk1 hb10 hb1 hs1
       obtain ⟨q0, q1, q2, q3, q4, q5⟩ := op_cells hk1)
    | (go_at_call 52
       refine (parse_any o.bytes o.A o.c _ (HR.out.by_.below hb1) HR.out.byc).mono ?_
       rintro e w2 ⟨A1, c1, A2, c2, rfl, ho1, ho2, hap, hb2⟩
       rw [← HH.out] at ho1 ⊢
       rw [← HB.out] at ho2 ⊢
       rw [← HE.out]
       have hbw2 := below_on hb1 hb2
       have hk1b := hk1.below hb2)
    | (with_reducible refine al_step w.heap.size rfl 3 rfl 37 rfl _ pktZero hbw2 hbw2.size ?_; intro g3 w3 hg3 hk3 hb30 hb3 hs3
       have hk1c := hk1b.below hb30
       have hne13 : g1 ≠ g3 := by have := hk1b.lt; omega)
    | (with_reducible refine st_row (w0 := w) w.heap.size rfl 37 (.tmp 3) _ rfl g3 _ rfl rfl 37 _ hk3 (pktSize' _ _ _ _ _ _ _) (pcells_sizes _ _ _ _ _ _ _ _ _ _ _ _ _ _) (pcells_one _ _ _ _ _ _ _) hb3 (Nat.le_trans hbw2.size hg3) ?_
       intro w4 hk4 hb4 hf4 hs4
       clear hs4
       have hk1d := hk1c.fr hf4 (fun _ => hne13)
       have ho1d := ho1.past hb30 hf4 hg3
       have ho2d := ho2.past hb30 hf4 hg3
       obtain ⟨q0, q1, q2, q3, q4, q5⟩ := op_cells hk1d)
    | (go_at_call 53
       refine (rparse_any o.bytes o.A o.c _ (HR.out.by_.below hb4) HR.out.byc).mono ?_
       rintro e w5 ⟨A3, c3, A4, c4, rfl, ho3, ho4, hb5⟩
       rw [← HH.out] at ho3 ⊢
       rw [← HB.out] at ho4 ⊢
       rw [← HE.out]
       have hbw5 := below_on hb4 hb5
       have hk5 := hk4.below hb5
       have ho1e := ho1d.below hb5
       have ho2e := ho2d.below hb5)
    | (with_reducible refine al_step w.heap.size rfl 5 rfl 37 rfl _ pktZero hbw5 hbw5.size ?_; intro g6 w6 hg6 hk6 hb60 hb6 hs6
       have hk5b := hk5.below hb60
       have hne36 : g3 ≠ g6 := by have := hk5.lt; omega)
    | (with_reducible refine st_row (w0 := w) w.heap.size rfl 37 (.tmp 5) _ rfl g6 _ rfl rfl 37 _ hk6 (pktSize' _ _ _ _ _ _ _) (pcells_sizes _ _ _ _ _ _ _ _ _ _ _ _ _ _) (pcells_one _ _ _ _ _ _ _) hb6 (Nat.le_trans hbw5.size hg6) ?_
       intro w7 hk7 hb7 hf7 hs7
       clear hs7
       have hk5c := hk5b.fr hf7 (fun _ => hne36)
       have ho1f := (ho1e.past hb60 hf7 hg6).reads
       have ho2f := (ho2e.past hb60 hf7 hg6).reads
       have ho3f := (ho3.past hb60 hf7 hg6).reads
       have ho4f := (ho4.past hb60 hf7 hg6).reads)
    | (refine ld_mid_w (by rfl) 37 (.tmp 3) rfl g3 0 rfl 37 _ hk5c _ (extract_all _) _ Try.underlying37 rfl (pktSize' _ _ _ _ _ _ _) ?_)
    | (refine ld_mid_w (by rfl) 37 (.tmp 5) rfl g6 0 rfl 37 _ hk7 _ (extract_all _) _ Try.underlying37 rfl (pktSize' _ _ _ _ _ _ _) ?_)
    | (go_at_call 54
       refine (packets_true h A1 A3 c1 c3 bs A2 A4 c2 c4 _ ho1f ho3f ho2f ho4f).mono ?_
       rintro e w8 ⟨rfl, hb8⟩))
  go_ret
  exact ⟨rfl, below_on hb7 hb8⟩

set_option maxHeartbeats 1600000 in
set_option maxRecDepth 100000 in
theorem plays_4 (o : OpV) (w : World) (hr : OpR w o) (hk : o.kind = 4) :
    Calls Try.prog 42 #[.agg o.cells] w fun e w' => e = .returned (.bool true) ∧ Below w.heap.size w w' := by
  have HR := Sec.mk hr
  clear hr
  have k1 : (o.kind == 1) = false := by rw [hk]; rfl
  have k2 : (o.kind == 2) = false := by rw [hk]; rfl
  have k3 : (o.kind == 3) = false := by rw [hk]; rfl
  have k4 : (o.kind == 4) = true := by rw [hk]; rfl
  clear hk
  obtain ⟨h, hh⟩ : ∃ h, h = ifH (parseE o.bytes false) (hdS o.bytes) := ⟨_, rfl⟩
  obtain ⟨bs, hbs⟩ : ∃ bs, bs = ifB (parseE o.bytes false) (bodyS o.bytes) := ⟨_, rfl⟩
  obtain ⟨E, hE⟩ : ∃ E, E = parseE o.bytes false := ⟨_, rfl⟩
  have HH := Sec.mk hh
  have HB := Sec.mk hbs
  have HE := Sec.mk hE
  have hEE : (E == E) = true := beq_self_eq_true _
  clear hh hbs hE
  go_enter Try.func42, Try.ntmps42
  go_wp2_with (first
    | (with_reducible refine bx_step w.heap.size rfl 1 rfl 39 _ rfl o.cells rfl (Below.refl _ _) (Nat.le_refl _) ?_; intro g1 w1 hg1 hk1 hb10 hb1 hs1
       obtain ⟨q0, q1, q2, q3, q4, q5⟩ := op_cells hk1)
    | (go_at_call 56
       refine (peek_any o.bytes o.A o.c _ (HR.out.by_.below hb1) HR.out.byc).mono ?_
       rintro e w2 ⟨A1, c1, A2, c2, rfl, ho1, ho2, hap, hb2⟩
       rw [← HH.out] at ho1 ⊢
       rw [← HB.out] at ho2 ⊢
       rw [← HE.out]
       have hbw2 := below_on hb1 hb2
       have hk1b := hk1.below hb2)
    | (with_reducible refine al_step w.heap.size rfl 7 rfl 35 rfl (hcells Hd.zero none 0 0) headZero hbw2 hbw2.size ?_; intro g3 w3 hg3 hk3 hb30 hb3 hs3
       have hk1c := hk1b.below hb30
       have hne13 : g1 ≠ g3 := by have := hk1b.lt; omega)
    | (with_reducible refine st_row (w0 := w) w.heap.size rfl 35 (.tmp 7) _ rfl g3 _ rfl rfl 35 _ hk3 (headSize' _ _ _ _) (hcells_sizes _ _ _ _ _ _ _ _) (hcells_one _ _ _ _) hb3 (Nat.le_trans hbw2.size hg3) ?_
       intro w4 hk4 hb4 hf4 hs4
       clear hs4
       have hk1d := hk1c.fr hf4 (fun _ => hne13)
       have ho1d := ho1.past hb30 hf4 hg3
       have ho2d := ho2.past hb30 hf4 hg3
       obtain ⟨q0, q1, q2, q3, q4, q5⟩ := op_cells hk1d)
    | (go_at_call 57
       refine (rpeek_any o.bytes o.A o.c _ (HR.out.by_.below hb4) HR.out.byc).mono ?_
       rintro e w5 ⟨A3, c3, A4, c4, rfl, ho3, ho4, hb5⟩
       rw [← HH.out] at ho3 ⊢
       rw [← HB.out] at ho4 ⊢
       rw [← HE.out]
       have hbw5 := below_on hb4 hb5
       have hk5 := hk4.below hb5
       have ho1e := ho1d.below hb5
       have ho2e := ho2d.below hb5)
    | (with_reducible refine al_step w.heap.size rfl 10 rfl 35 rfl (hcells Hd.zero none 0 0) headZero hbw5 hbw5.size ?_; intro g6 w6 hg6 hk6 hb60 hb6 hs6
       have hk5b := hk5.below hb60
       have hne36 : g3 ≠ g6 := by have := hk5.lt; omega)
    | (with_reducible refine st_row (w0 := w) w.heap.size rfl 35 (.tmp 10) _ rfl g6 _ rfl rfl 35 _ hk6 (headSize' _ _ _ _) (hcells_sizes _ _ _ _ _ _ _ _) (hcells_one _ _ _ _) hb6 (Nat.le_trans hbw5.size hg6) ?_
       intro w7 hk7 hb7 hf7 hs7
       clear hs7
       have hk5c := hk5b.fr hf7 (fun _ => hne36)
       have ho1f := (ho1e.past hb60 hf7 hg6).reads
       have ho2f := (ho2e.past hb60 hf7 hg6).reads
       have ho3f := (ho3.past hb60 hf7 hg6).reads
       have ho4f := (ho4.past hb60 hf7 hg6).reads)
    | (refine ld_mid_w (by rfl) 35 (.tmp 7) rfl g3 0 rfl 35 _ hk5c _ (extract_all _) _ Try.underlying35 rfl (headSize' _ _ _ _) ?_)
    | (refine ld_mid_w (by rfl) 35 (.tmp 10) rfl g6 0 rfl 35 _ hk7 _ (extract_all _) _ Try.underlying35 rfl (headSize' _ _ _ _) ?_)
    | (go_at_call 58
       refine (heads_true h A1 A3 c1 c3 _ ho1f ho3f).mono ?_
       rintro e w8 ⟨rfl, hb8⟩)
    | (go_at_call 48
       refine (same_true bs A2 A4 c2 c4 _ (ho2f.below hb8) (ho4f.below hb8)).mono ?_
       rintro e w9 ⟨rfl, hd9⟩))
  go_ret
  exact ⟨rfl, below_on (below_on hb7 hb8) hd9.below⟩

theorem op_packet (o : OpV) : (o.cells.extract 6 (6 + (pcells o.h o.HA o.h.opts.length o.hc o.BA o.body.length o.bc).size)) = pcells o.h o.HA o.h.opts.length o.hc o.BA o.body.length o.bc := by kernel_rfl
set_option maxHeartbeats 1600000 in
set_option maxRecDepth 100000 in
theorem plays_5 (o : OpV) (w : World) (hr : OpR w o) (hk : o.kind = 5) :
    Calls Try.prog 42 #[.agg o.cells] w fun e w' => e = .returned (.bool true) ∧ Below w.heap.size w w' := by
  have HR := Sec.mk hr
  clear hr
  have k1 : (o.kind == 1) = false := by rw [hk]; rfl
  have k2 : (o.kind == 2) = false := by rw [hk]; rfl
  have k3 : (o.kind == 3) = false := by rw [hk]; rfl
  have k4 : (o.kind == 4) = false := by rw [hk]; rfl
  have k5 : (o.kind == 5) = true := by rw [hk]; rfl
  clear hk
  obtain ⟨bs, hbs⟩ : ∃ bs, bs = ifB (buildE o.h o.body) (buildS o.h o.body) := ⟨_, rfl⟩
  obtain ⟨E, hE⟩ : ∃ E, E = buildE o.h o.body := ⟨_, rfl⟩
  have HB := Sec.mk hbs
  have HE := Sec.mk hE
  have hEE : (E == E) = true := beq_self_eq_true _
  clear hbs hE
  go_enter Try.func42, Try.ntmps42
  go_wp2_with (first
    | (with_reducible refine bx_step w.heap.size rfl 1 rfl 39 _ rfl o.cells rfl (Below.refl _ _) (Nat.le_refl _) ?_; intro g1 w1 hg1 hk1 hb10 hb1 hs1
       obtain ⟨q0, q1, q2, q3, q4, q5⟩ := op_cells hk1)
    | (refine ld_mid rfl 37 (.tmp 86) rfl g1 6 rfl 39 _ hk1 _ (op_packet o) _ Try.underlying37 rfl (pktSize' _ _ _ _ _ _ _) ?_)
    | (go_at_call 45
       refine (build_any o.h HR.out.hd o.HA o.BA o.hc o.bc o.body _ (HR.out.op.below hb1) HR.out.opc (HR.out.bo.below hb1) HR.out.boc).mono ?_
       rintro e w2 ⟨A1, c1, rfl, ho1, hb2⟩
       rw [← HB.out] at ho1 ⊢
       rw [← HE.out]
       have hbw2 := below_on hb1 hb2
       have hk1b := hk1.below hb2
       obtain ⟨q0, q1, q2, q3, q4, q5⟩ := op_cells hk1b)
    | (refine ld_mid rfl 37 (.tmp 92) rfl g1 6 rfl 39 _ hk1b _ (op_packet o) _ Try.underlying37 rfl (pktSize' _ _ _ _ _ _ _) ?_)
    | (go_at_call 43
       refine (rbuild_any o.h HR.out.hd o.HA o.BA o.hc o.bc o.body _ (HR.out.op.below hbw2) HR.out.opc (HR.out.bo.below hbw2)).mono ?_
       rintro e w5 ⟨A3, c3, rfl, ho3, hb5⟩
       rw [← HB.out] at ho3 ⊢
       rw [← HE.out]
       have hbw5 := below_on hbw2 hb5
       have ho1f := (ho1.below hb5).reads
       have ho3f := ho3.reads)
    | (go_at_call 48
       refine (same_true bs A1 A3 c1 c3 _ ho1f ho3f).mono ?_
       rintro e w9 ⟨rfl, hd9⟩))
  go_ret
  exact ⟨rfl, below_on hbw5 hd9.below⟩

set_option maxHeartbeats 1600000 in
set_option maxRecDepth 100000 in
theorem plays_6 (o : OpV) (w : World) (hr : OpR w o) (hk : o.kind = 6) :
    Calls Try.prog 42 #[.agg o.cells] w fun e w' => e = .returned (.bool true) ∧ Below w.heap.size w w' := by
  have HR := Sec.mk hr
  clear hr
  have k1 : (o.kind == 1) = false := by rw [hk]; rfl
  have k2 : (o.kind == 2) = false := by rw [hk]; rfl
  have k3 : (o.kind == 3) = false := by rw [hk]; rfl
  have k4 : (o.kind == 4) = false := by rw [hk]; rfl
  have k5 : (o.kind == 5) = false := by rw [hk]; rfl
  have k6 : (o.kind == 6) = true := by rw [hk]; rfl
  clear hk
  obtain ⟨bs, hbs⟩ : ∃ bs, bs = ifB (ageE o.bytes) (ageS o.bytes) := ⟨_, rfl⟩
  obtain ⟨E, hE⟩ : ∃ E, E = ageE o.bytes := ⟨_, rfl⟩
  have HB := Sec.mk hbs
  have HE := Sec.mk hE
  have hEE : (E == E) = true := beq_self_eq_true _
  clear hbs hE
  go_enter Try.func42, Try.ntmps42
  go_wp2_with (first
    | (with_reducible refine bx_step w.heap.size rfl 1 rfl 39 _ rfl o.cells rfl (Below.refl _ _) (Nat.le_refl _) ?_; intro g1 w1 hg1 hk1 hb10 hb1 hs1
       obtain ⟨q0, q1, q2, q3, q4, q5⟩ := op_cells hk1)
    | (go_at_call 59
       refine (age_any o.bytes o.A o.c _ (HR.out.by_.below hb1) HR.out.byc).mono ?_
       rintro e w2 ⟨A1, c1, rfl, ho1, hb2⟩
       rw [← HB.out] at ho1 ⊢
       rw [← HE.out]
       have hbw2 := below_on hb1 hb2
       have hk1b := hk1.below hb2
       obtain ⟨q0, q1, q2, q3, q4, q5⟩ := op_cells hk1b)
    | (go_at_call 60
       refine (rage_any o.bytes o.A o.c _ (HR.out.by_.below hbw2) HR.out.byc).mono ?_
       rintro e w5 ⟨A3, c3, rfl, ho3, hb5⟩
       rw [← HB.out] at ho3 ⊢
       rw [← HE.out]
       have hbw5 := below_on hbw2 hb5
       have ho1f := (ho1.below hb5).reads
       have ho3f := ho3.reads)
    | (go_at_call 48
       refine (same_true bs A1 A3 c1 c3 _ ho1f ho3f).mono ?_
       rintro e w9 ⟨rfl, hd9⟩))
  go_ret
  exact ⟨rfl, below_on hbw5 hd9.below⟩

set_option maxHeartbeats 1600000 in
set_option maxRecDepth 100000 in
theorem plays_7 (o : OpV) (w : World) (hr : OpR w o) (hk : o.kind = 7) :
    Calls Try.prog 42 #[.agg o.cells] w fun e w' => e = .returned (.bool true) ∧ Below w.heap.size w w' := by
  have HR := Sec.mk hr
  clear hr
  have k1 : (o.kind == 1) = false := by rw [hk]; rfl
  have k2 : (o.kind == 2) = false := by rw [hk]; rfl
  have k3 : (o.kind == 3) = false := by rw [hk]; rfl
  have k4 : (o.kind == 4) = false := by rw [hk]; rfl
  have k5 : (o.kind == 5) = false := by rw [hk]; rfl
  have k6 : (o.kind == 6) = false := by rw [hk]; rfl
  have k7 : (o.kind == 7) = true := by rw [hk]; rfl
  clear hk
  obtain ⟨bs, hbs⟩ : ∃ bs, bs = ifB (copiedE o.bytes) (copiedS o.bytes) := ⟨_, rfl⟩
  obtain ⟨E, hE⟩ : ∃ E, E = copiedE o.bytes := ⟨_, rfl⟩
  have HB := Sec.mk hbs
  have HE := Sec.mk hE
  have hEE : (E == E) = true := beq_self_eq_true _
  clear hbs hE
  go_enter Try.func42, Try.ntmps42
  go_wp2_with (first
    | (with_reducible refine bx_step w.heap.size rfl 1 rfl 39 _ rfl o.cells rfl (Below.refl _ _) (Nat.le_refl _) ?_; intro g1 w1 hg1 hk1 hb10 hb1 hs1
       obtain ⟨q0, q1, q2, q3, q4, q5⟩ := op_cells hk1)
    | (go_at_call 61
       refine (copied_any o.bytes o.A o.c _ (HR.out.by_.below hb1) HR.out.byc).mono ?_
       rintro e w2 ⟨A1, c1, rfl, ho1, hb2⟩
       rw [← HB.out] at ho1 ⊢
       rw [← HE.out]
       have hbw2 := below_on hb1 hb2
       have hk1b := hk1.below hb2
       obtain ⟨q0, q1, q2, q3, q4, q5⟩ := op_cells hk1b)
    | (go_at_call 62
       refine (rcopied_any o.bytes o.A o.c _ (HR.out.by_.below hbw2)).mono ?_
       rintro e w5 ⟨A3, c3, rfl, ho3, hb5⟩
       rw [← HB.out] at ho3 ⊢
       rw [← HE.out]
       have hbw5 := below_on hbw2 hb5
       have ho1f := (ho1.below hb5).reads
       have ho3f := ho3.reads)
    | (go_at_call 48
       refine (same_true bs A1 A3 c1 c3 _ ho1f ho3f).mono ?_
       rintro e w9 ⟨rfl, hd9⟩))
  go_ret
  exact ⟨rfl, below_on hbw5 hd9.below⟩

set_option maxHeartbeats 1600000 in
set_option maxRecDepth 100000 in
theorem plays_0 (o : OpV) (w : World) (hr : OpR w o) (hk : o.kind < 1 ∨ 7 < o.kind) :
    Calls Try.prog 42 #[.agg o.cells] w fun e w' => e = .returned (.bool true) ∧ Below w.heap.size w w' := by
  have HR := Sec.mk hr
  clear hr
  have k1 : (o.kind == 1) = false := beq_eq_false_iff_ne.mpr (by omega)
  have k2 : (o.kind == 2) = false := beq_eq_false_iff_ne.mpr (by omega)
  have k3 : (o.kind == 3) = false := beq_eq_false_iff_ne.mpr (by omega)
  have k4 : (o.kind == 4) = false := beq_eq_false_iff_ne.mpr (by omega)
  have k5 : (o.kind == 5) = false := beq_eq_false_iff_ne.mpr (by omega)
  have k6 : (o.kind == 6) = false := beq_eq_false_iff_ne.mpr (by omega)
  have k7 : (o.kind == 7) = false := beq_eq_false_iff_ne.mpr (by omega)
  clear hk
  go_enter Try.func42, Try.ntmps42
  go_wp2_with (first
    | (with_reducible refine bx_step w.heap.size rfl 1 rfl 39 _ rfl o.cells rfl (Below.refl _ _) (Nat.le_refl _) ?_; intro g1 w1 hg1 hk1 hb10 hb1 hs1
       obtain ⟨q0, q1, q2, q3, q4, q5⟩ := op_cells hk1))
  go_ret
  exact ⟨rfl, hb1⟩

/-- Every step is told true. -/
theorem plays_true (o : OpV) (w : World) (hr : OpR w o) :
    Calls Try.prog 42 #[.agg o.cells] w fun e w' => e = .returned (.bool true) ∧ Below w.heap.size w w' := by
  by_cases h1 : o.kind = 1; exact plays_1 o w hr h1
  by_cases h2 : o.kind = 2; exact plays_2 o w hr h2
  by_cases h3 : o.kind = 3; exact plays_3 o w hr h3
  by_cases h4 : o.kind = 4; exact plays_4 o w hr h4
  by_cases h5 : o.kind = 5; exact plays_5 o w hr h5
  by_cases h6 : o.kind = 6; exact plays_6 o w hr h6
  by_cases h7 : o.kind = 7; exact plays_7 o w hr h7
  exact plays_0 o w hr (by omega)

end Go.Proofs.Ytdjldipiggfjdaa
