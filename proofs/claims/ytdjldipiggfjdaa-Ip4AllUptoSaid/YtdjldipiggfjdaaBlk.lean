/-
  MEMORY WORDS, FOURTH PART: variables of struct type that a call makes: their blocks known whole; allocation, load, store, results. Conditions: none; plain lemmas over any program.
-/
import Derived.Test.YtdjldipiggfjdaaMemC
import Derived.Test.YtdjldipiggfjdaaQTail
import Derived.Laws.Tables
import Derived.Laws.Rows
namespace Go.Proofs.Ytdjldipiggfjdaa
open Go.RowKit
set_option linter.unusedVariables false
set_option linter.unusedSimpArgs false

/-- Block g is just the cells cs of type t. -/
structure Blk (w : World) (g : Nat) (t : TypeId) (cs : Array Value) : Prop where mk :: (out : w.heap[g]? = some (.cells cs t (0, 0)))
section
variable {w w' : World} {g : Nat} {t : TypeId} {cs : Array Value}
theorem Blk.lt (h : Blk w g t cs) : g < w.heap.size := lt_of_obj h.out
theorem Blk.below (h : Blk w g t cs) (hb : Below w.heap.size w w') : Blk w' g t cs := ⟨(hb.block g h.lt).trans h.out⟩
theorem Blk.drewN (h : Blk w g t cs) (n : Nat) : Blk (w.drewN n) g t cs := ⟨h.out⟩
theorem Blk.drew (h : Blk w g t cs) : Blk w.drew g t cs := ⟨h.out⟩
theorem Blk.alloc (h : Blk w g t cs) (o : Obj) : Blk (w.alloc o) g t cs := h.below (below_new (Below.refl _ _) o)
theorem Blk.new (w : World) (t : TypeId) (cs : Array Value) : Blk (w.alloc (.cells cs t)) w.heap.size t cs := ⟨heap_alloc_new w _⟩
theorem Blk.cell (h : Blk w g t cs) (i : Nat) (v : Value) (hi : cs[i]? = some v) : w.cell? ⟨g, i, none⟩ = some v := by rw [cell_cells h.out, hi]
theorem Blk.frozen (h : Blk w g t cs) (i : Nat) : w.frozen? ⟨g, i, none⟩ = false := by simp [World.frozen?, h.out]
theorem Blk.ne {g' : Nat} {t' : TypeId} {cs' : Array Value} (h : Blk w g t cs) (h' : Blk w g' t' cs') (hne : t ≠ t') : g ≠ g' := by
  rintro rfl
  have := h.out
  rw [h'.out] at this
  injection this with this
  injection this with _ ht
  exact hne ht.symm
theorem Blk.fr {S : Nat → Nat → Prop} (h : Blk w g t cs) (hf : Fr S w w') (hn : ∀ o, ¬ S g o) : Blk w' g t cs := ⟨(hf.keep g h.lt hn).trans h.out⟩
theorem Blk.set (h : Blk w g t cs) (i : Nat) (v : Value) (cs' : Array Value) (he : cs.setIfInBounds i v = cs') : Blk (w.setCell ⟨g, i, none⟩ v) g t cs' := ⟨by simp [World.setCell, Array.getElem?_modify, h.out, he]⟩
theorem Blk.far (h : Blk w g t cs) {p : Addr} (hp : g ≠ p.block) (u : Value) : Blk (w.setCell p u) g t cs := ⟨(Below.heap_setCell w p u g hp).trans h.out⟩
end
section
variable {P : Program} {ops : Array Oper} {rest : List Oper} {o : Oper} {a : Act} {Q : Exit → Act → World → Prop}
/-- A variable is made: 'alloc'. -/
theorem al_step {w0 W : World} (base : Nat) (hgd : o.guard = none) (n : Tmp) (hd : o.dst = some n) (ty : TypeId) (ho : o.op = .alloc ty) (cs : Array Value) (hz : (P.info? ty).map (·.zero) = some (some (.agg cs))) (HB : Below base w0 W) (hbase : base ≤ W.heap.size)
    (h : ∀ g w1, W.heap.size ≤ g → Blk w1 g ty cs → Below W.heap.size W w1 → Below base w0 w1 → W.heap.size < w1.heap.size → wpList P ops Q rest (a.put o.dst (.pointer (some ⟨g, 0, none⟩))) w1) : wpList P ops Q (o :: rest) a W := by
  refine wpList_plain hgd fun K hK => ?_
  obtain ⟨i, hi, hz'⟩ := Option.map_eq_some_iff.1 hz
  have hrun : (execOp a.eval o).run P W = .ok (.value (.pointer (some ⟨W.heap.size, 0, none⟩))) (W.alloc (.cells cs ty)) := by
    simp [execOp, ho, Instr.alloc, zeroValue, typeInfo, hi, hz', newVar, newRow, Value.cells]
  unfold Oper.wp
  rw [hrun]
  exact hK _ _ (h _ _ (Nat.le_refl _) (Blk.new _ _ _) (below_new (Below.refl _ _) _) (HB.alloc hbase _) (by simp))
/-- A struct that came in gets a variable: 'box'. -/
theorem bx_step {w0 W : World} (base : Nat) (hgd : o.guard = none) (n : Tmp) (hd : o.dst = some n) (ty : TypeId) (x : Operand) (ho : o.op = .box ty x) (cs : Array Value) (hx : a.eval x = .agg cs) (HB : Below base w0 W) (hbase : base ≤ W.heap.size)
    (h : ∀ g w1, W.heap.size ≤ g → Blk w1 g ty cs → Below W.heap.size W w1 → Below base w0 w1 → W.heap.size < w1.heap.size → wpList P ops Q rest (a.put o.dst (.pointer (some ⟨g, 0, none⟩))) w1) : wpList P ops Q (o :: rest) a W := by
  refine wpList_plain hgd fun K hK => ?_
  have hrun : (execOp a.eval o).run P W = .ok (.value (.pointer (some ⟨W.heap.size, 0, none⟩))) (W.alloc (.cells cs ty)) := by
    simp [execOp, ho, Instr.box, newVar, newRow, hx, Value.cells]
  unfold Oper.wp
  rw [hrun]
  exact hK _ _ (h _ _ (Nat.le_refl _) (Blk.new _ _ _) (below_new (Below.refl _ _) _) (HB.alloc hbase _) (by simp))
/-- A struct variable is loaded whole. -/
theorem ld_row {W : World} (hgd : o.guard = none) (ty : TypeId) (x : Operand) (ho : o.op = .load ty x) (g : Nat) (hx : a.eval x = .pointer (some ⟨g, 0, none⟩)) (t : TypeId) (cs : Array Value) (hg : Blk W g t cs) (d : TypeDesc)
    (hu : P.underlying ty = some d) (hd : (match d with | .struct _ | .array _ _ => true | _ => false) = true) (hi : (P.info? ty).map (·.size) = some cs.size)
    (h : wpList P ops Q rest (a.put o.dst (.agg cs)) W) : wpList P ops Q (o :: rest) a W := wpList_load_row hgd ty x ho g hx t cs (0, 0) d hg.out hu hd hi h
theorem below_setRow' {B g : Nat} {w0 w : World} (hb : Below B w0 w) (hBg : B ≤ g) (cs : Array Value) : Below B w0 (w.setRow g cs) := below_setRow hb hBg cs
theorem fr_row {w : World} {g : Nat} {t : TypeId} {old cs : Array Value} (hg : w.heap[g]? = some (.cells old t (0, 0))) (hs : old.size = cs.size) : Fr (fun k _ => k = g) w (w.setRow g cs) := by
  refine ⟨rfl, rfl, rfl, by rw [setRow_size]; exact Nat.le_refl _, fun k hk hn => setRow_other w g k _ (fun e => hn 0 e), fun k c t' fr hk => ?_⟩
  by_cases hkg : k = g
  · subst hkg
    rw [hg] at hk
    injection hk with hk
    injection hk with h1 h2 h3
    subst h1; subst h2; subst h3
    exact ⟨cs, setRow_heap w k old cs t (0, 0) hg, hs.symm, fun o ho => absurd rfl ho⟩
  · exact ⟨c, (setRow_other w g k _ hkg).trans hk, rfl, fun _ _ => rfl⟩
/-- A struct variable is stored whole. -/
theorem st_row {w0 W : World} (base : Nat) (hgd : o.guard = none) (ty : TypeId) (x y : Operand) (ho : o.op = .store ty x y) (g : Nat) (cells : Array Value) (hx : a.eval x = .pointer (some ⟨g, 0, none⟩)) (hy : a.eval y = .agg cells)
    (t : TypeId) (old : Array Value) (hg : Blk W g t old) (hi : (P.info? ty).map (·.size) = some cells.size) (hold : old.size = cells.size) (h1 : cells.all (·.oneCell') = true) (HB : Below base w0 W) (hbg : base ≤ g)
    (h : ∀ w1, Blk w1 g t cells → Below base w0 w1 → Fr (fun k _ => k = g) W w1 → w1.heap.size = W.heap.size → wpList P ops Q rest (a.put o.dst undef) w1) : wpList P ops Q (o :: rest) a W :=
  wpList_store_row hgd ty x y ho g cells hx hy t old hg.out hi hold h1 (h _ ⟨setRow_heap W g old cells t (0, 0) hg.out⟩ (below_setRow HB hbg _) (fr_row hg.out hold) (setRow_size _ _ _))
end
/-- A callee that only draws, inside a region that is walked quietly. -/
theorem quiet_dr {P : Program} {f : FuncId} {args : Array Value} {w : World} {n : Nat} {v : Value} (h : Calls P f args (w.drewN n) fun e w' => e = .returned v ∧ Dr (w.drewN n) w') : Calls P f args (w.drewN n) fun e w'' => e = .returned v ∧ ∃ m, w'' = w.drewN m :=
  h.mono fun _ _ ⟨he, hd⟩ => by
    obtain ⟨m, hm⟩ := hd
    exact ⟨he, n + m, by rw [hm, World.drewN_drewN]⟩
theorem quiet_eq {P : Program} {f : FuncId} {args : Array Value} {w : World} {n : Nat} {v : Value} (h : Calls P f args (w.drewN n) fun e w' => e = .returned v ∧ w.drewN n = w') : Calls P f args (w.drewN n) fun e w'' => e = .returned v ∧ ∃ m, w'' = w.drewN m :=
  h.mono fun _ _ ⟨he, hd⟩ => ⟨he, n, hd.symm⟩
/-! ### results that lie in memory -/
section
variable {P : Program} {fn : Func} {tmps : Array Value} {w : World} {g : Nat} {t ty p : Nat} {cs : Array Value}
theorem res_load (ht : tmps.getD p undef = .pointer (some ⟨g, 0, none⟩)) (hg : Blk w g t cs) {d : TypeDesc} (hu : P.underlying ty = some d) (hd : (match d with | .struct _ | .array _ _ => true | _ => false) = true) (hi : (P.info? ty).map (·.size) = some cs.size) :
    (loadVar ty ⟨g, 0, none⟩).run P w = .ok (.agg cs) w := run_loadVar_row w g t ty cs (0, 0) d hg.out hu hd hi
theorem res_c (h : fn.results = #[.cell p ty]) (ht : tmps.getD p undef = .pointer (some ⟨g, 0, none⟩)) (hg : Blk w g t cs) {d : TypeDesc} (hu : P.underlying ty = some d) (hd : (match d with | .struct _ | .array _ _ => true | _ => false) = true) (hi : (P.info? ty).map (·.size) = some cs.size) :
    (results fn tmps).run P w = .ok (.agg cs) w := results_cell_row h tmps w g t cs (0, 0) d ht hg.out hu hd hi
theorem res_ct {u : Tmp} (h : fn.results = #[.cell p ty, .tmp u]) (ht : tmps.getD p undef = .pointer (some ⟨g, 0, none⟩)) (hg : Blk w g t cs) {d : TypeDesc} (hu : P.underlying ty = some d) (hd : (match d with | .struct _ | .array _ _ => true | _ => false) = true) (hi : (P.info? ty).map (·.size) = some cs.size) :
    (results fn tmps).run P w = .ok (.tuple #[.agg cs, tmps.getD u undef]) w := by
  have hp' : tmps[p]?.getD undef = .pointer (some ⟨g, 0, none⟩) := by simpa using ht
  simp [results, h, hp', asAddr, run_loadVar_row w g t ty cs (0, 0) d hg.out hu hd hi]
theorem res_ctt {u v : Tmp} (h : fn.results = #[.cell p ty, .tmp u, .tmp v]) (ht : tmps.getD p undef = .pointer (some ⟨g, 0, none⟩)) (hg : Blk w g t cs) {d : TypeDesc} (hu : P.underlying ty = some d) (hd : (match d with | .struct _ | .array _ _ => true | _ => false) = true) (hi : (P.info? ty).map (·.size) = some cs.size) :
    (results fn tmps).run P w = .ok (.tuple #[.agg cs, tmps.getD u undef, tmps.getD v undef]) w := by
  have hp' : tmps[p]?.getD undef = .pointer (some ⟨g, 0, none⟩) := by simpa using ht
  simp [results, h, hp', asAddr, run_loadVar_row w g t ty cs (0, 0) d hg.out hu hd hi]
theorem res_cttt {u v x : Tmp} (h : fn.results = #[.cell p ty, .tmp u, .tmp v, .tmp x]) (ht : tmps.getD p undef = .pointer (some ⟨g, 0, none⟩)) (hg : Blk w g t cs) {d : TypeDesc} (hu : P.underlying ty = some d) (hd : (match d with | .struct _ | .array _ _ => true | _ => false) = true) (hi : (P.info? ty).map (·.size) = some cs.size) :
    (results fn tmps).run P w = .ok (.tuple #[.agg cs, tmps.getD u undef, tmps.getD v undef, tmps.getD x undef]) w := by
  have hp' : tmps[p]?.getD undef = .pointer (some ⟨g, 0, none⟩) := by simpa using ht
  simp [results, h, hp', asAddr, run_loadVar_row w g t ty cs (0, 0) d hg.out hu hd hi]
theorem res_cct {g' t' ty' p' : Nat} {cs' : Array Value} {u : Tmp} (h : fn.results = #[.cell p ty, .cell p' ty', .tmp u]) (ht : tmps.getD p undef = .pointer (some ⟨g, 0, none⟩)) (hg : Blk w g t cs) {d : TypeDesc} (hu : P.underlying ty = some d) (hd : (match d with | .struct _ | .array _ _ => true | _ => false) = true) (hi : (P.info? ty).map (·.size) = some cs.size)
    (ht' : tmps.getD p' undef = .pointer (some ⟨g', 0, none⟩)) (hg' : Blk w g' t' cs') {d' : TypeDesc} (hu' : P.underlying ty' = some d') (hd' : (match d' with | .struct _ | .array _ _ => true | _ => false) = true) (hi' : (P.info? ty').map (·.size) = some cs'.size) :
    (results fn tmps).run P w = .ok (.tuple #[.agg cs, .agg cs', tmps.getD u undef]) w := by
  have h1 : tmps[p]?.getD undef = .pointer (some ⟨g, 0, none⟩) := by simpa using ht
  have h2 : tmps[p']?.getD undef = .pointer (some ⟨g', 0, none⟩) := by simpa using ht'
  simp [results, h, h1, h2, asAddr, run_loadVar_row w g t ty cs (0, 0) d hg.out hu hd hi, run_loadVar_row w g' t' ty' cs' (0, 0) d' hg'.out hu' hd' hi']
end
/-! ### lists of byte slices in a block of the call's own -/
theorem RDs.alloc1 {W : World} {g : Nat} (hg : g = W.heap.size) (t : TypeId) {A : Option Addr} {c : Nat} {ys : List UInt8} (hc : ys.length ≤ c) (hr : RD W A ys) : RDs (W.alloc (.cells #[.slice A ys.length c] t)) (some ⟨g, 0, none⟩) [ys] := by
  subst hg
  refine RDs.of_cells (heap_alloc_new _ _) (by simp) fun i h0 h1 => ?_
  obtain rfl : i = 0 := by simp at h1; omega
  exact ⟨A, c, rfl, hc, hr.alloc _⟩
theorem RDs.alloc2 {W : World} {g : Nat} (hg : g = W.heap.size) (t : TypeId) {A B : Option Addr} {c d : Nat} {xs ys : List UInt8} (hc : xs.length ≤ c) (hd : ys.length ≤ d) (hx : RD W A xs) (hy : RD W B ys) : RDs (W.alloc (.cells #[.slice A xs.length c, .slice B ys.length d] t)) (some ⟨g, 0, none⟩) [xs, ys] := by
  subst hg
  refine RDs.of_cells (heap_alloc_new _ _) (by simp) fun i h0 h1 => ?_
  rcases (show i = 0 ∨ i = 1 by simp at h1; omega) with rfl | rfl
  · exact ⟨A, c, rfl, hc, hx.alloc _⟩
  · exact ⟨B, d, rfl, hd, hy.alloc _⟩

end Go.Proofs.Ytdjldipiggfjdaa
