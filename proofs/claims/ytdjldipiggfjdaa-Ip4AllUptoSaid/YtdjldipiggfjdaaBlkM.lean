/-
  MEMORY WORDS, FIFTH PART: fields of struct variables: many cells, or one, loaded from and stored into the middle of a block; stores of single bytes into windows. Conditions: none; plain lemmas over any program.
-/
import Derived.Test.YtdjldipiggfjdaaBlk
import Derived.Deep.MidRow
namespace Go.Proofs.Ytdjldipiggfjdaa
open Go.RowKit
set_option linter.unusedVariables false
set_option linter.unusedSimpArgs false

/-- The cells cs, with vs from place o on. -/
def laidAt (cs : Array Value) (o : Nat) (vs : List Value) : Array Value := (cs.toList.take o ++ vs ++ cs.toList.drop (o + vs.length)).toArray
section
variable {P : Program} {ops : Array Oper} {rest : List Oper} {o : Oper} {a : Act} {Q : Exit → Act → World → Prop}
/-- A struct out of the middle of a variable. -/
theorem ld_mid {W : World} (hgd : o.guard = none) (ty : TypeId) (x : Operand) (ho : o.op = .load ty x) (g off : Nat) (hx : a.eval x = .pointer (some ⟨g, off, none⟩)) (t : TypeId) (cs : Array Value) (hg : Blk W g t cs) (vs : Array Value) (hv : (cs.extract off (off + vs.size)) = vs) (d : TypeDesc)
    (hu : P.underlying ty = some d) (hd : d.isRow = true) (hi : (P.info? ty).map (·.size) = some vs.size)
    (h : wpList P ops Q rest (a.put o.dst (.agg vs)) W) : wpList P ops Q (o :: rest) a W := by
  have hr : W.rangeAt g off vs.toList := by
    have := World.rangeAt_of_block hg.out off vs.size
    rw [hv] at this
    exact this
  have := wpList_load_mid (P := P) (ops := ops) (rest := rest) (op := o) (a := a) (w := W) (Q := Q) hgd ty x ho g off hx vs.toList d hr hu hd (by simpa using hi)
  simp only [Array.toArray_toList] at this
  exact this h
theorem run_stv {W : World} (ty : TypeId) (g off : Nat) (v : Value) (t : TypeId) (cs : Array Value) (hg : W.heap[g]? = some (.cells cs t (0, 0))) (ho : off + v.cells.size ≤ cs.size) (hi : (P.info? ty).map (·.size) = some v.cells.size) (h1 : v.cells.all (·.oneCell') = true) :
    (storeVar ty ⟨g, off, none⟩ v).run P W = .ok () (W.setRow g (laidAt cs off v.cells.toList)) := by
  have := run_storeCells_at (P := P) g off t v.cells.toList 0 cs W hg (by simpa using ho) (fun u hu => (Array.all_eq_true_iff_forall_mem.1 h1) u (by simpa using hu))
  cases hq : P.info? ty with
  | none => simp [hq] at hi
  | some i =>
    have hs : v.cells.size = i.size := by simp [hq] at hi; omega
    simp only [Nat.add_zero] at this
    simp [storeVar, sizeOf, typeInfo, hq, hs, this, laidAt]
/-- What is stored into a block of the call's own, at a place (many cells or one). -/
theorem st_mid {w0 W : World} (base : Nat) (hgd : o.guard = none) (ty : TypeId) (x y : Operand) (ho : o.op = .store ty x y) (g off : Nat) (v : Value) (hx : a.eval x = .pointer (some ⟨g, off, none⟩)) (hy : a.eval y = v)
    (t : TypeId) (cs cs' : Array Value) (hg : Blk W g t cs) (hoff : off + v.cells.size ≤ cs.size) (hi : (P.info? ty).map (·.size) = some v.cells.size) (h1 : v.cells.all (·.oneCell') = true) (hcs : laidAt cs off v.cells.toList = cs') (HB : Below base w0 W) (hbg : base ≤ g)
    (h : ∀ w1, Blk w1 g t cs' → Below base w0 w1 → Fr (fun k _ => k = g) W w1 → w1.heap.size = W.heap.size → wpList P ops Q rest (a.put o.dst undef) w1) : wpList P ops Q (o :: rest) a W := by
  refine wpList_plain hgd fun K hK => ?_
  unfold Oper.wp execOp
  simp only [ho, hx, hy, Instr.storeAt, Instr.sureAddr, Sem.run_bind, Sem.run_pure, Result.andThen_ok, run_stv ty g off v t cs hg.out hoff hi h1, hcs]
  refine hK _ _ (h _ ⟨setRow_heap W g cs cs' t (0, 0) hg.out⟩ (below_setRow HB hbg _) (fr_row hg.out ?_) (setRow_size _ _ _))
  rw [← hcs]
  unfold laidAt
  simp
  omega
/-- A byte is stored into a window. -/
theorem st_byte {w0 W : World} (base : Nat) (hgd : o.guard = none) (ty : TypeId) (x y : Operand) (ho : o.op = .store ty x y) (e : TypeId) (g off c : Nat) (xs : List UInt8) (A : Addr) (i : Nat) (u : Int) (hx : a.eval x = .pointer (some A)) (hy : a.eval y = .int .u8 u)
    (hA : A = ⟨g, off + i, none⟩) (hw : Win e W g off c xs) (hi : i < xs.length) (h0 : 0 ≤ u) (h1 : u ≤ 255) (hinfo : (P.info? ty).map (fun i => (i.zero, i.size, i.bytes)) = some (some (.int .u8 0), 1, 1)) (HB : Below base w0 W) (hbg : base ≤ g)
    (h : ∀ w1, Win e w1 g off c (xs.set i (u8 u)) → Below base w0 w1 → Fr (fun k j => k = g ∧ j = off + i) W w1 → w1.heap.size = W.heap.size → wpList P ops Q rest (a.put o.dst undef) w1) : wpList P ops Q (o :: rest) a W := by
  refine wpList_plain hgd fun K hK => ?_
  obtain ⟨cur, k1, k2, k3⟩ := hw.blk
  have hlen := hw.len
  obtain ⟨i0, hi0, hz1⟩ := sizes1 hinfo
  subst hA
  have hrun := run_stv (P := P) (W := W) ty g (off + i) (.int .u8 u) e cur k1 (by simp [Value.cells]; omega) (by simp [hi0, hz1, Value.cells]) (by simp [Value.cells, Value.oneCell'])
  have he : W.setRow g (laidAt cur (off + i) (Value.int .u8 u).cells.toList) = W.setCell ⟨g, off + i, none⟩ (.int .u8 u) := by
    rw [setCell_eq_setRow W g (off + i) cur e (0, 0) _ k1]
    congr 1
    apply Array.ext'
    simp only [laidAt, Value.cells, Array.toList_setIfInBounds]
    rw [List.set_eq_take_append_cons_drop, if_pos (by simp; omega)]
    simp
  rw [he] at hrun
  unfold Oper.wp execOp
  simp only [ho, hx, hy, Instr.storeAt, Instr.sureAddr, Sem.run_bind, Sem.run_pure, Result.andThen_ok, hrun]
  exact hK _ _ (h _ (win_set hw i u hi h0 h1) (HB.setCell hbg _) (fr_set _) (by simp [World.setCell]))
end

end Go.Proofs.Ytdjldipiggfjdaa
