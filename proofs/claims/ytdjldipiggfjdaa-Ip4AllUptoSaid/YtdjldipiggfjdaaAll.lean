/-
  LAYER 3's statements: head, upTo: by contract, in any world: true. Conditions: a readable script.
-/
import Derived.Test.YtdjldipiggfjdaaPlays
namespace Go.Proofs.Ytdjldipiggfjdaa
open Go.RowKit
set_option linter.unusedVariables false
set_option linter.unusedSimpArgs false

theorem calls_args {P : Program} {f : FuncId} {a a' : Array Value} {w : World} {Q : Ending → World → Prop} (h : a = a') (k : Calls P f a' w Q) : Calls P f a w Q := h ▸ k
/-- Bytes that stand in a block. -/
theorem RD.blk {w : World} {g : Nat} {t : TypeId} {cs : Array Value} (hk : Blk w g t cs) (xs : List UInt8) (hl : xs.length ≤ 140737488351232) (h : cs = (bv xs).toArray) : RD w (some ⟨g, 0, none⟩) xs := by
  subst h
  refine RD.mk_cells hl fun hp => ⟨_, rfl, fun j u hu => ?_⟩
  rw [addr_plain, Nat.zero_add]
  exact hk.cell j u (by simpa using hu)
theorem hdZeroIn : HdIn Hd.zero := by constructor <;> decide
def hd0 : Hd := ⟨0, 7216, true, false, 0, 64, 6, 167838211, 167904004, []⟩
theorem hd0In : HdIn hd0 := by constructor <;> decide
/-- A step with these alone. -/
def opv (kind : Int) (A : Option Addr) (c : Nat) (bytes : List UInt8) (PA : Option Addr) (pc : Nat) (parts : List (List UInt8)) (x y z : Int) (h : Hd) (BA : Option Addr) (bc : Nat) (body : List UInt8) : OpV :=
  ⟨kind, A, c, bytes, PA, pc, parts, x, y, z, h, none, 0, BA, bc, body⟩
theorem opvR {w : World} {kind : Int} {A : Option Addr} {c : Nat} {bytes : List UInt8} {PA : Option Addr} {pc : Nat} {parts : List (List UInt8)} {x y z : Int} {h : Hd} {BA : Option Addr} {bc : Nat} {body : List UInt8}
    (h1 : RD w A bytes) (h2 : bytes.length ≤ c) (h3 : RDs w PA parts) (h4 : parts.flatten.length ≤ 140737488351231) (hx : 0 ≤ x ∧ x ≤ 65535) (hy : 0 ≤ y ∧ y ≤ 65535) (hz : 0 ≤ z ∧ z ≤ 65535) (h5 : HdIn h) (h6 : h.opts = []) (h7 : RD w BA body) (h8 : body.length ≤ bc) :
    OpR w (opv kind A c bytes PA pc parts x y z h BA bc body) :=
  ⟨h1, h2, h3, h4, hx.1, hx.2, hy.1, hy.2, hz.1, hz.2, h5, (by show RD w none h.opts; rw [h6]; exact RD.nil _ _), (by show h.opts.length ≤ 0; rw [h6]; exact Nat.le_refl _), h7, h8⟩
theorem pl_nil : ([] : List (List UInt8)).flatten.length ≤ 140737488351231 := by decide
theorem z16 : (0 : Int) ≤ 0 ∧ (0 : Int) ≤ 65535 := by decide

set_option maxHeartbeats 3200000 in
set_option maxRecDepth 100000 in
theorem head_1 (w : World) :
    Calls Try.prog 12 #[.int .i64 1] w fun e w' => e = .returned (.bool true) ∧ Below w.heap.size w w' := by
  obtain ⟨bs, hbs⟩ : ∃ bs, bs = ifB (buildE hd0 [1, 2, 3]) (buildS hd0 [1, 2, 3]) := ⟨_, rfl⟩
  obtain ⟨E, hE⟩ : ∃ E, E = buildE hd0 [1, 2, 3] := ⟨_, rfl⟩
  have HB := Sec.mk hbs
  have HE := Sec.mk hE
  clear hbs hE
  go_enter Try.func12, Try.ntmps12
  go_wp2_with (first
    | (with_reducible refine al_step w.heap.size rfl 3 rfl 37 rfl _ pktZero (below_new (Below.refl _ _) _) (by simp) ?_; intro g3 w3 hg3 hk3 hb30 hb3 hs3
       have hx0 := (Blk.new w 5 #[.int .u8 1, .int .u8 2, .int .u8 3]).below hb30)
    | (refine st_row (w0 := w) w.heap.size rfl 37 (.tmp 3) _ rfl g3 (pcells hd0 none 0 0 (some ⟨w.heap.size, 0, none⟩) 3 3) rfl (by kernel_rfl) 37 _ hk3 (pktSize' _ _ _ _ _ _ _) (pcells_sizes _ _ _ _ _ _ _ _ _ _ _ _ _ _) (pcells_one _ _ _ _ _ _ _) hb3 (Nat.le_trans (by simp) hg3) ?_
       intro w4 hk4 hb4 hf4 hs4
       clear hs4
       have hx1 := hx0.fr hf4 (fun _ => by have := hx0.lt; have := hg3; simp at this; omega)
       have hx2 := RD.blk hx1 [1, 2, 3] (by decide) rfl)
    | (with_reducible refine ld_row rfl 37 (.tmp 3) rfl g3 rfl 37 _ hk4 _ Try.underlying37 rfl (pktSize' _ _ _ _ _ _ _) ?_)
    | (go_at_call 43
       refine (rbuild_any hd0 hd0In none (some ⟨w.heap.size, 0, none⟩) 0 3 [1, 2, 3] _ (RD.nil _ _) (Nat.le_refl _) hx2).mono ?_
       rintro e w5 ⟨A1, c1, rfl, ho1, hb5⟩
       rw [← HB.out] at ho1 ⊢
       rw [← HE.out]
       have hk5 := hk4.below hb5
       have hx5 := hx2.below hb5
       have hb5w := below_on hb4 hb5)
    | (go_at_call 42
       refine calls_args (a' := #[.agg (opv 1 none 0 [] (some ⟨w5.heap.size + 1 + 1, 0, none⟩) 2 [[1], [2, 3]] 0 0 0 Hd.zero none 0 []).cells]) rfl ((plays_true _ _ (opvR (RD.nil _ _) (Nat.le_refl _) (RDs.alloc2 (by simp) 30 (by decide) (by decide) ((RD.blk (Blk.new w5 5 #[.int .u8 1]) [1] (by decide) rfl).alloc _) (by have := RD.blk (Blk.new (w5.alloc (.cells #[.int .u8 1] 5)) 5 #[.int .u8 2, .int .u8 3]) [2, 3] (by decide) rfl; simpa using this)) (by decide) z16 z16 z16 hdZeroIn rfl (RD.nil _ _) (Nat.le_refl _))).mono ?_)
       rintro e w6 ⟨rfl, hb6⟩))
  go_ret
  exact ⟨rfl, below_on (below_new (below_new (below_new hb5w _) _) _) hb6⟩
set_option maxHeartbeats 3200000 in
set_option maxRecDepth 100000 in
theorem head_2 (w : World) :
    Calls Try.prog 12 #[.int .i64 2] w fun e w' => e = .returned (.bool true) ∧ Below w.heap.size w w' := by
  obtain ⟨bs, hbs⟩ : ∃ bs, bs = ifB (buildE hd0 [1, 2, 3]) (buildS hd0 [1, 2, 3]) := ⟨_, rfl⟩
  obtain ⟨E, hE⟩ : ∃ E, E = buildE hd0 [1, 2, 3] := ⟨_, rfl⟩
  have HB := Sec.mk hbs
  have HE := Sec.mk hE
  clear hbs hE
  go_enter Try.func12, Try.ntmps12
  go_wp2_with (first
    | (with_reducible refine al_step w.heap.size rfl 3 rfl 37 rfl _ pktZero (below_new (Below.refl _ _) _) (by simp) ?_; intro g3 w3 hg3 hk3 hb30 hb3 hs3
       have hx0 := (Blk.new w 5 #[.int .u8 1, .int .u8 2, .int .u8 3]).below hb30)
    | (refine st_row (w0 := w) w.heap.size rfl 37 (.tmp 3) _ rfl g3 (pcells hd0 none 0 0 (some ⟨w.heap.size, 0, none⟩) 3 3) rfl (by kernel_rfl) 37 _ hk3 (pktSize' _ _ _ _ _ _ _) (pcells_sizes _ _ _ _ _ _ _ _ _ _ _ _ _ _) (pcells_one _ _ _ _ _ _ _) hb3 (Nat.le_trans (by simp) hg3) ?_
       intro w4 hk4 hb4 hf4 hs4
       clear hs4
       have hx1 := hx0.fr hf4 (fun _ => by have := hx0.lt; have := hg3; simp at this; omega)
       have hx2 := RD.blk hx1 [1, 2, 3] (by decide) rfl)
    | (with_reducible refine ld_row rfl 37 (.tmp 3) rfl g3 rfl 37 _ hk4 _ Try.underlying37 rfl (pktSize' _ _ _ _ _ _ _) ?_)
    | (go_at_call 43
       refine (rbuild_any hd0 hd0In none (some ⟨w.heap.size, 0, none⟩) 0 3 [1, 2, 3] _ (RD.nil _ _) (Nat.le_refl _) hx2).mono ?_
       rintro e w5 ⟨A1, c1, rfl, ho1, hb5⟩
       rw [← HB.out] at ho1 ⊢
       rw [← HE.out]
       have hk5 := hk4.below hb5
       have hx5 := hx2.below hb5
       have hb5w := below_on hb4 hb5)
    | (go_at_call 42
       refine calls_args (a' := #[.agg (opv 2 none 0 [] none 0 [] 4660 16390 16134 Hd.zero none 0 []).cells]) rfl ((plays_true _ _ (opvR (RD.nil _ _) (Nat.le_refl _) (RDs.nil _ _) pl_nil (by decide) (by decide) (by decide) hdZeroIn rfl (RD.nil _ _) (Nat.le_refl _))).mono ?_)
       rintro e w6 ⟨rfl, hb6⟩))
  go_ret
  exact ⟨rfl, below_on (hb5w) hb6⟩
set_option maxHeartbeats 3200000 in
set_option maxRecDepth 100000 in
theorem head_5 (w : World) :
    Calls Try.prog 12 #[.int .i64 5] w fun e w' => e = .returned (.bool true) ∧ Below w.heap.size w w' := by
  obtain ⟨bs, hbs⟩ : ∃ bs, bs = ifB (buildE hd0 [1, 2, 3]) (buildS hd0 [1, 2, 3]) := ⟨_, rfl⟩
  obtain ⟨E, hE⟩ : ∃ E, E = buildE hd0 [1, 2, 3] := ⟨_, rfl⟩
  have HB := Sec.mk hbs
  have HE := Sec.mk hE
  clear hbs hE
  have hps : (pcells hd0 none 0 0 (some ⟨w.heap.size, 0, none⟩) 3 3).size = 11 := rfl
  go_enter Try.func12, Try.ntmps12
  go_wp2_with (first
    | (with_reducible refine al_step w.heap.size rfl 3 rfl 37 rfl _ pktZero (below_new (Below.refl _ _) _) (by simp) ?_; intro g3 w3 hg3 hk3 hb30 hb3 hs3
       have hx0 := (Blk.new w 5 #[.int .u8 1, .int .u8 2, .int .u8 3]).below hb30)
    | (refine st_row (w0 := w) w.heap.size rfl 37 (.tmp 3) _ rfl g3 (pcells hd0 none 0 0 (some ⟨w.heap.size, 0, none⟩) 3 3) rfl (by kernel_rfl) 37 _ hk3 (pktSize' _ _ _ _ _ _ _) (pcells_sizes _ _ _ _ _ _ _ _ _ _ _ _ _ _) (pcells_one _ _ _ _ _ _ _) hb3 (Nat.le_trans (by simp) hg3) ?_
       intro w4 hk4 hb4 hf4 hs4
       clear hs4
       have hx1 := hx0.fr hf4 (fun _ => by have := hx0.lt; have := hg3; simp at this; omega)
       have hx2 := RD.blk hx1 [1, 2, 3] (by decide) rfl)
    | (with_reducible refine ld_row rfl 37 (.tmp 3) rfl g3 rfl 37 _ hk4 _ Try.underlying37 rfl (pktSize' _ _ _ _ _ _ _) ?_)
    | (with_reducible refine ld_row rfl 37 (.tmp 3) rfl g3 rfl 37 _ hk5 _ Try.underlying37 rfl (pktSize' _ _ _ _ _ _ _) ?_)
    | (go_at_call 43
       refine (rbuild_any hd0 hd0In none (some ⟨w.heap.size, 0, none⟩) 0 3 [1, 2, 3] _ (RD.nil _ _) (Nat.le_refl _) hx2).mono ?_
       rintro e w5 ⟨A1, c1, rfl, ho1, hb5⟩
       rw [← HB.out] at ho1 ⊢
       rw [← HE.out]
       have hk5 := hk4.below hb5
       have hx5 := hx2.below hb5
       have hb5w := below_on hb4 hb5)
    | (go_at_call 42
       refine calls_args (a' := #[.agg (opv 5 none 0 [] none 0 [] 0 0 0 hd0 (some ⟨w.heap.size, 0, none⟩) 3 [1, 2, 3]).cells]) (by kernel_rfl) ((plays_true _ _ (opvR (RD.nil _ _) (Nat.le_refl _) (RDs.nil _ _) pl_nil z16 z16 z16 hd0In rfl hx5 (by decide))).mono ?_)
       rintro e w6 ⟨rfl, hb6⟩))
  go_ret
  exact ⟨rfl, below_on (hb5w) hb6⟩
set_option maxHeartbeats 3200000 in
set_option maxRecDepth 100000 in
theorem head_7 (w : World) :
    Calls Try.prog 12 #[.int .i64 7] w fun e w' => e = .returned (.bool true) ∧ Below w.heap.size w w' := by
  obtain ⟨bs, hbs⟩ : ∃ bs, bs = ifB (buildE hd0 [1, 2, 3]) (buildS hd0 [1, 2, 3]) := ⟨_, rfl⟩
  obtain ⟨E, hE⟩ : ∃ E, E = buildE hd0 [1, 2, 3] := ⟨_, rfl⟩
  have HB := Sec.mk hbs
  have HE := Sec.mk hE
  clear hbs hE
  go_enter Try.func12, Try.ntmps12
  go_wp2_with (first
    | (with_reducible refine al_step w.heap.size rfl 3 rfl 37 rfl _ pktZero (below_new (Below.refl _ _) _) (by simp) ?_; intro g3 w3 hg3 hk3 hb30 hb3 hs3
       have hx0 := (Blk.new w 5 #[.int .u8 1, .int .u8 2, .int .u8 3]).below hb30)
    | (refine st_row (w0 := w) w.heap.size rfl 37 (.tmp 3) _ rfl g3 (pcells hd0 none 0 0 (some ⟨w.heap.size, 0, none⟩) 3 3) rfl (by kernel_rfl) 37 _ hk3 (pktSize' _ _ _ _ _ _ _) (pcells_sizes _ _ _ _ _ _ _ _ _ _ _ _ _ _) (pcells_one _ _ _ _ _ _ _) hb3 (Nat.le_trans (by simp) hg3) ?_
       intro w4 hk4 hb4 hf4 hs4
       clear hs4
       have hx1 := hx0.fr hf4 (fun _ => by have := hx0.lt; have := hg3; simp at this; omega)
       have hx2 := RD.blk hx1 [1, 2, 3] (by decide) rfl)
    | (with_reducible refine ld_row rfl 37 (.tmp 3) rfl g3 rfl 37 _ hk4 _ Try.underlying37 rfl (pktSize' _ _ _ _ _ _ _) ?_)
    | (go_at_call 43
       refine (rbuild_any hd0 hd0In none (some ⟨w.heap.size, 0, none⟩) 0 3 [1, 2, 3] _ (RD.nil _ _) (Nat.le_refl _) hx2).mono ?_
       rintro e w5 ⟨A1, c1, rfl, ho1, hb5⟩
       rw [← HB.out] at ho1 ⊢
       rw [← HE.out]
       have hk5 := hk4.below hb5
       have hx5 := hx2.below hb5
       have hb5w := below_on hb4 hb5)
    | (go_at_call 42
       refine calls_args (a' := #[.agg (opv 7 (some ⟨w5.heap.size, 0, none⟩) 4 [131, 3, 4, 1] none 0 [] 0 0 0 Hd.zero none 0 []).cells]) rfl ((plays_true _ _ (opvR (RD.blk (Blk.new w5 5 #[.int .u8 131, .int .u8 3, .int .u8 4, .int .u8 1]) [131, 3, 4, 1] (by decide) rfl) (by decide) (RDs.nil _ _) pl_nil z16 z16 z16 hdZeroIn rfl (RD.nil _ _) (Nat.le_refl _))).mono ?_)
       rintro e w6 ⟨rfl, hb6⟩))
  go_ret
  exact ⟨rfl, below_on (below_new hb5w _) hb6⟩
set_option maxHeartbeats 3200000 in
set_option maxRecDepth 100000 in
theorem head_0 (k : Int) (hk : k ≠ 1 ∧ k ≠ 2 ∧ k ≠ 5 ∧ k ≠ 7) (w : World) :
    Calls Try.prog 12 #[.int .i64 k] w fun e w' => e = .returned (.bool true) ∧ Below w.heap.size w w' := by
  obtain ⟨bs, hbs⟩ : ∃ bs, bs = ifB (buildE hd0 [1, 2, 3]) (buildS hd0 [1, 2, 3]) := ⟨_, rfl⟩
  obtain ⟨E, hE⟩ : ∃ E, E = buildE hd0 [1, 2, 3] := ⟨_, rfl⟩
  have HB := Sec.mk hbs
  have HE := Sec.mk hE
  clear hbs hE
  have k1 : (k == 1) = false := beq_eq_false_iff_ne.mpr (by omega)
  have k2 : (k == 2) = false := beq_eq_false_iff_ne.mpr (by omega)
  have k5 : (k == 5) = false := beq_eq_false_iff_ne.mpr (by omega)
  have k7 : (k == 7) = false := beq_eq_false_iff_ne.mpr (by omega)
  clear hk
  go_enter Try.func12, Try.ntmps12
  go_wp2_with (first
    | (with_reducible refine al_step w.heap.size rfl 3 rfl 37 rfl _ pktZero (below_new (Below.refl _ _) _) (by simp) ?_; intro g3 w3 hg3 hk3 hb30 hb3 hs3
       have hx0 := (Blk.new w 5 #[.int .u8 1, .int .u8 2, .int .u8 3]).below hb30)
    | (refine st_row (w0 := w) w.heap.size rfl 37 (.tmp 3) _ rfl g3 (pcells hd0 none 0 0 (some ⟨w.heap.size, 0, none⟩) 3 3) rfl (by kernel_rfl) 37 _ hk3 (pktSize' _ _ _ _ _ _ _) (pcells_sizes _ _ _ _ _ _ _ _ _ _ _ _ _ _) (pcells_one _ _ _ _ _ _ _) hb3 (Nat.le_trans (by simp) hg3) ?_
       intro w4 hk4 hb4 hf4 hs4
       clear hs4
       have hx1 := hx0.fr hf4 (fun _ => by have := hx0.lt; have := hg3; simp at this; omega)
       have hx2 := RD.blk hx1 [1, 2, 3] (by decide) rfl)
    | (with_reducible refine ld_row rfl 37 (.tmp 3) rfl g3 rfl 37 _ hk4 _ Try.underlying37 rfl (pktSize' _ _ _ _ _ _ _) ?_)
    | (go_at_call 43
       refine (rbuild_any hd0 hd0In none (some ⟨w.heap.size, 0, none⟩) 0 3 [1, 2, 3] _ (RD.nil _ _) (Nat.le_refl _) hx2).mono ?_
       rintro e w5 ⟨A1, c1, rfl, ho1, hb5⟩
       rw [← HB.out] at ho1 ⊢
       rw [← HE.out]
       have hk5 := hk4.below hb5
       have hx5 := hx2.below hb5
       have hb5w := below_on hb4 hb5)
    | (go_at_call 42
       refine calls_args (a' := #[.agg (opv k A1 c1 bs none 0 [] 0 0 0 Hd.zero none 0 []).cells]) rfl ((plays_true _ _ (opvR ho1.reads ho1.cap (RDs.nil _ _) pl_nil z16 z16 z16 hdZeroIn rfl (RD.nil _ _) (Nat.le_refl _))).mono ?_)
       rintro e w6 ⟨rfl, hb6⟩))
  go_ret
  exact ⟨rfl, below_on (hb5w) hb6⟩
theorem head_true (k : Int) (w : World) :
    Calls Try.prog 12 #[.int .i64 k] w fun e w' => e = .returned (.bool true) ∧ Below w.heap.size w w' := by
  by_cases h1 : k = 1; subst h1; exact head_1 w
  by_cases h2 : k = 2; subst h2; exact head_2 w
  by_cases h5 : k = 5; subst h5; exact head_5 w
  by_cases h7 : k = 7; subst h7; exact head_7 w
  exact head_0 k ⟨h1, h2, h5, h7⟩ w

end Go.Proofs.Ytdjldipiggfjdaa
