/-
  MEMORY WORDS, SECOND PART: the laws of append, copy, make, slicing and stores over byte slices (RD, Own, Win of the first part). Conditions: none; plain lemmas over any program.
-/
import Derived.Test.YtdjldipiggfjdaaMem
namespace Go.Proofs.Ytdjldipiggfjdaa
open Go.RowKit
set_option linter.unusedVariables false
set_option linter.unusedSimpArgs false

/-! ### windows written -/
/-- ys laid over xs from place k on. -/
def over (xs : List UInt8) (k : Nat) (ys : List UInt8) : List UInt8 := xs.take k ++ ys ++ xs.drop (k + ys.length)
theorem over_length (xs : List UInt8) (k : Nat) (ys : List UInt8) (h : k + ys.length ≤ xs.length) : (over xs k ys).length = xs.length := by simp [over]; omega
/-- The cells of a block in which vs were laid from o on. -/
theorem laid_get (cur : List Value) (o : Nat) (vs : List Value) (ho : o + vs.length ≤ cur.length) (j : Nat) : (cur.take o ++ vs ++ cur.drop (o + vs.length))[j]? = if o ≤ j ∧ j < o + vs.length then vs[j - o]? else cur[j]? := by
  by_cases h1 : j < o
  · rw [if_neg (by omega), List.append_assoc, List.getElem?_append_left (by rw [List.length_take]; omega), List.getElem?_take, if_pos h1]
  · by_cases h2 : j < o + vs.length
    · rw [if_pos ⟨by omega, h2⟩, List.append_assoc, List.getElem?_append_right (by rw [List.length_take]; omega), List.length_take, Nat.min_eq_left (by omega), List.getElem?_append_left (by omega)]
    · rw [if_neg (by omega), List.getElem?_append_right (by rw [List.length_append, List.length_take]; omega), List.length_append, List.length_take, Nat.min_eq_left (by omega), List.getElem?_drop]
      congr 1
      omega
theorem laid_get8 (xs : List UInt8) (k : Nat) (ys : List UInt8) (hk : k + ys.length ≤ xs.length) (j : Nat) : (xs.take k ++ ys ++ xs.drop (k + ys.length))[j]? = if k ≤ j ∧ j < k + ys.length then ys[j - k]? else xs[j]? := by
  by_cases h1 : j < k
  · rw [if_neg (by omega), List.append_assoc, List.getElem?_append_left (by rw [List.length_take]; omega), List.getElem?_take, if_pos h1]
  · by_cases h2 : j < k + ys.length
    · rw [if_pos ⟨by omega, h2⟩, List.append_assoc, List.getElem?_append_right (by rw [List.length_take]; omega), List.length_take, Nat.min_eq_left (by omega), List.getElem?_append_left (by omega)]
    · rw [if_neg (by omega), List.getElem?_append_right (by rw [List.length_append, List.length_take]; omega), List.length_append, List.length_take, Nat.min_eq_left (by omega), List.getElem?_drop]
      congr 1
      omega
theorem bv_take (xs : List UInt8) (k : Nat) : bv (xs.take k) = (bv xs).take k := by simp [bv, List.map_take]
theorem bv_drop (xs : List UInt8) (k : Nat) : bv (xs.drop k) = (bv xs).drop k := by simp [bv, List.map_drop]
theorem setRow_size (w : World) (g : Nat) (cs : Array Value) : (w.setRow g cs).heap.size = w.heap.size := by simp [World.setRow]
/-- A run of cells of one block written, as a frame. -/
theorem fr_setRow {w : World} {g : Nat} {cur : Array Value} {t : TypeId} (hg : w.heap[g]? = some (.cells cur t (0, 0))) (o : Nat) (vs : List Value) (ho : o + vs.length ≤ cur.size) :
    Fr (fun k j => k = g ∧ o ≤ j ∧ j < o + vs.length) w (w.setRow g (cur.toList.take o ++ vs ++ cur.toList.drop (o + vs.length)).toArray) := by
  refine ⟨rfl, rfl, rfl, by rw [setRow_size]; exact Nat.le_refl _, fun k hk hn => ?_, fun k cs t' fr hk => ?_⟩
  · by_cases hkg : k = g
    · subst hkg
      rw [setRow_heap w k cur _ t (0, 0) hg, hg]
      have h0 : vs.length = 0 := by
        rcases Nat.eq_zero_or_pos vs.length with h | h
        · exact h
        · exact absurd ⟨rfl, Nat.le_refl _, by omega⟩ (hn o)
      obtain rfl : vs = [] := List.eq_nil_of_length_eq_zero h0
      simp
    · exact setRow_other w g k _ hkg
  · by_cases hkg : k = g
    · subst hkg
      rw [hg] at hk
      injection hk with hk
      injection hk with h1 h2 h3
      subst h1; subst h2; subst h3
      refine ⟨_, setRow_heap w k cur _ t (0, 0) hg, by simp; omega, fun j hj => ?_⟩
      rw [List.getElem?_toArray, laid_get _ _ _ (by simpa using ho), if_neg (fun h => hj ⟨rfl, h.1, h.2⟩), Array.getElem?_toList]
    · exact ⟨cs, (setRow_other w g k _ hkg).trans hk, rfl, fun _ _ => rfl⟩
theorem win_over {e : TypeId} {w : World} {g off c : Nat} {xs : List UInt8} (h : Win e w g off c xs) (k : Nat) (ys : List UInt8) (hk : k + ys.length ≤ c) (hkx : k ≤ xs.length)
    (cur : Array Value) (hg : w.heap[g]? = some (.cells cur e (0, 0))) (zs : List UInt8) (hz : zs.length ≤ c) (hzs : ∀ j, j < zs.length → (zs)[j]? = if k ≤ j ∧ j < k + ys.length then ys[j - k]? else xs[j]?) :
    Win e (w.setRow g (cur.toList.take (off + k) ++ bv ys ++ cur.toList.drop (off + k + (bv ys).length)).toArray) g off c zs := by
  obtain ⟨cur', h1, h2, h3⟩ := h.blk
  rw [hg] at h1
  injection h1 with h1
  injection h1 with h1
  subst h1
  refine ⟨⟨_, setRow_heap w g cur _ e (0, 0) hg, by simp [bv_length]; omega, fun j u hu => ?_⟩, hz, h.max⟩
  have hj : j < zs.length := (bv_some zs j u hu).1
  rw [List.getElem?_toArray, laid_get _ _ _ (by rw [bv_length]; simp; omega), bv_length]
  have hzj := hzs j hj
  by_cases hin : k ≤ j ∧ j < k + ys.length
  · rw [if_pos ⟨by omega, by omega⟩, show off + j - (off + k) = j - k from by omega]
    rw [if_pos hin] at hzj
    rw [← hu]
    simp only [bv, List.getElem?_map, hzj]
  · rw [if_neg (by omega), Array.getElem?_toList]
    rw [if_neg hin] at hzj
    refine h3 j u ?_
    rw [← hu]
    simp only [bv, List.getElem?_map, hzj]

/-! ### append -/
section
variable {P : Program}
/-- What an append onto a slice of the call's own has turned: the spare cells behind it, or nothing old. -/
def Spare (A : Option Addr) (n m : Nat) : Nat → Nat → Prop := fun k o => ∃ ad, A = some ad ∧ k = ad.block ∧ ad.off + n ≤ o ∧ o < ad.off + n + m
theorem run_app (w : World) (t ty e : TypeId) (ht : P.underlying t = some (.slice e)) (hinfo : (P.info? e).map (fun i => (i.zero, i.size, i.bytes)) = some (some (.int .u8 0), 1, 1))
    (base : Nat) (A : Option Addr) (c : Nat) (xs : List UInt8) (hown : Own e w base A c xs) (B : Option Addr) (d : Nat) (ys : List UInt8) (hr : RD w B ys)
    (hl : xs.length + ys.length ≤ 140737488351232) (hbase : base ≤ w.heap.size) :
    ∃ A' c' w', (Builtin.append_ #[t, t] ty #[.slice A xs.length c, .slice B ys.length d]).run P w = .ok (.slice A' (xs.length + ys.length) c') w' ∧ Own e w' base A' c' (xs ++ ys) ∧
      ((A' = A ∧ c' = c ∧ xs.length + ys.length ≤ c ∧ Fr (Spare A xs.length ys.length) w w') ∨ (∃ g, A' = some ⟨g, 0, none⟩ ∧ w.heap.size ≤ g ∧ c < xs.length + ys.length ∧ Below w.heap.size w w')) := by
  obtain ⟨i0, hi, hzz⟩ := Option.map_eq_some_iff.1 hinfo
  simp only [Prod.mk.injEq] at hzz
  obtain ⟨hz0, hz1, hz2⟩ := hzz
  have hrn : B = none → ys = [] := fun hB => by
    rcases Nat.eq_zero_or_pos ys.length with h | h
    · exact List.eq_nil_of_length_eq_zero h
    · obtain ⟨ad, e⟩ := hr.some_ h
      rw [hB] at e
      cases e
  by_cases hroom : xs.length + ys.length ≤ c
  · -- in its own place
    cases hown with
    | nil =>
      have h0 : ys.length = 0 := by simpa using hroom
      obtain rfl : ys = [] := List.eq_nil_of_length_eq_zero h0
      refine ⟨none, 0, w, ?_, .nil, .inl ⟨rfl, rfl, by simp, Fr.refl _ _⟩⟩
      cases B with
      | none => simp [Builtin.append_, run_underlying ht, sizeOf, typeInfo, hi, Builtin.lenOf, Builtin.firstCells]
      | some ad => simp [Builtin.append_, run_underlying ht, sizeOf, typeInfo, hi, Builtin.lenOf, Builtin.firstCells, loadCells, loadCellsFrom]
    | win g off c xs hb h hlx =>
      obtain ⟨cur, h1, h2, h3⟩ := h.blk
      have hfc : (Builtin.firstCells i0.size ys.length (.slice B ys.length d)).run P w = .ok (bv ys).toArray w := by
        cases B with
        | none => obtain rfl := hrn rfl; simp [Builtin.firstCells, bv]
        | some ad => exact run_firstCells_some w i0.size ys.length ad ys.length d (bv ys) (by rw [bv_length, hz1, Nat.mul_one]) hr.cells
      have hst := run_storeCells_at P g (off + xs.length) e (bv ys) 0 cur w h1 (by rw [bv_length]; omega) (bv_one ys)
      simp only [Nat.add_zero] at hst
      refine ⟨some ⟨g, off, none⟩, c, w.setRow g (cur.toList.take (off + xs.length) ++ bv ys ++ cur.toList.drop (off + xs.length + (bv ys).length)).toArray, ?_, ?_, .inl ⟨rfl, rfl, hroom, ?_⟩⟩
      · rw [hz1] at hfc
        simp [Builtin.append_, run_underlying ht, sizeOf, typeInfo, hi, Builtin.lenOf, hroom, hfc, hz1, addr_plain, hst]
      · refine .win g off c _ hb (win_over h xs.length ys (by omega) (Nat.le_refl _) cur h1 (xs ++ ys) (by rw [List.length_append]; omega) fun j hj => ?_) (by rw [List.length_append]; exact hl)
        rw [List.length_append] at hj
        by_cases hjx : j < xs.length
        · rw [if_neg (by omega), List.getElem?_append_left hjx]
        · rw [if_pos (by omega), List.getElem?_append_right (by omega)]
      · refine (fr_setRow h1 (off + xs.length) (bv ys) (by rw [bv_length]; omega)).mono fun k o _ ho => ?_
        rw [bv_length] at ho
        exact ⟨⟨g, off, none⟩, rfl, ho.1, ho.2⟩
  · -- a new block
    have hgrow : ∀ (A : Option Addr), Own e w base A c xs → ∃ cap, xs.length + ys.length ≤ cap ∧ cap ≤ maxLen ∧
        (Builtin.append_ #[t, t] ty #[.slice A xs.length c, .slice B ys.length d]).run P w = .ok (.slice (some ⟨w.heap.size, 0, none⟩) (xs.length + ys.length) cap)
          (w.drew.alloc (.cells ((bv xs).toArray ++ (bv ys).toArray ++ Builtin.zeroCells (Value.int .u8 0).cells (cap - (xs.length + ys.length))) e)) := by
      intro A hA
      have hpos : 0 < xs.length + ys.length := by omega
      refine ⟨grownCap w (xs.length + ys.length) c e, grownCap_ge _ _ _ _, grownCap_le_maxLen _ _ _ _ (by simp only [maxLen]; omega), ?_⟩
      cases hA with
      | nil =>
        cases B with
        | none => obtain rfl := hrn rfl; simp at hpos
        | some ad =>
          have := run_append_nil (P := P) w t ty e i0 (.int .u8 0) ht hi hz0 ad ys.length d (bv ys) (by rw [bv_length, hz1, Nat.mul_one]) hr.cells (by simpa using hpos) (by omega) (by rw [hz2]; omega)
          simpa [bv] using this
      | win g off c xs hb h hlx =>
        cases B with
        | none =>
          obtain rfl := hrn rfl
          have := h.len
          simp at hroom
          omega
        | some ad =>
          have := run_append_grow (P := P) w t ty e i0 (.int .u8 0) ht hi hz0 ⟨g, off, none⟩ xs.length c (bv xs) (by rw [bv_length, hz1, Nat.mul_one]) (h.reads hlx).cells ad ys.length d (bv ys) (by rw [bv_length, hz1, Nat.mul_one]) hr.cells (by omega) (by omega) (growslice_fits (by omega) (by rw [hz2]; omega))
          exact this
    obtain ⟨cap, hc1, hc2, hrun⟩ := hgrow A hown
    refine ⟨_, cap, _, hrun, ?_, .inr ⟨w.heap.size, rfl, Nat.le_refl _, by omega, ?_⟩⟩
    · refine .win _ _ _ _ hbase ⟨⟨_, heap_alloc_new w.drew _, ?_, fun j u hu => ?_⟩, by rw [List.length_append]; exact hc1, by simpa [maxLen] using hc2⟩ (by rw [List.length_append]; exact hl)
      · have e1 : (Value.int IntKind.u8 0).cells.size = 1 := rfl
        simp only [Builtin.zeroCells, e1, Nat.mul_one, Array.size_append, List.size_toArray, bv_length, Array.size_map, Array.size_range, Nat.zero_add]
        omega
      · have hj := (bv_some _ j u hu).1
        rw [List.length_append] at hj
        have hj2 : j < ((bv xs).toArray ++ (bv ys).toArray).size := by simp [bv_length]; omega
        rw [Nat.zero_add, Array.getElem?_append_left hj2, ← Array.getElem?_toList]
        rw [bv_append] at hu
        simpa using hu
    · exact (below_new (Below.refl _ _).drew _)

variable {ops : Array Oper} {rest : List Oper} {o : Oper} {a : Act} {Q : Exit → Act → World → Prop}
/-- append(x, ys...) in a walk: behind 'at_builtin'. -/
theorem app_step {w0 W : World} (base : Nat) (hgd : o.guard = none) (s x : Operand) (t e : TypeId)
    (ho : o.op = .call { callee := .builtin .append, args := #[s, x], argTypes := #[t, t] })
    (ht : P.underlying t = some (.slice e)) (hinfo : (P.info? e).map (fun i => (i.zero, i.size, i.bytes)) = some (some (.int .u8 0), 1, 1))
    (A : Option Addr) (c : Nat) (xs : List UInt8) (B : Option Addr) (d : Nat) (ys : List UInt8) (n m : Nat) (hn : n = xs.length) (hm : m = ys.length)
    (hs : a.eval s = .slice A n c) (hx : a.eval x = .slice B m d)
    (hown : Own e W base A c xs) (hr : RD W B ys) (HB : Below base w0 W) (hbase : base ≤ W.heap.size) (hl : xs.length + ys.length ≤ 140737488351232)
    (h : ∀ A1 c1 w1 zs, Sec (zs = xs ++ ys) → Own e w1 base A1 c1 zs → Below base w0 w1 → W.heap.size ≤ w1.heap.size → wpList P ops Q rest (a.put o.dst (.slice A1 zs.length c1)) w1) :
    wpList P ops Q (o :: rest) a W := by
  subst hn; subst hm
  obtain ⟨A1, c1, w1, hrun, hown1, hat⟩ := run_app (P := P) W t o.type e ht hinfo base A c xs hown B d ys hr hl hbase
  refine wpList_plain hgd fun K hK => ?_
  unfold Oper.wp execOp
  simp only [ho, resolve, invoke, builtin, Sem.run_bind, Sem.run_pure, Result.andThen_ok, List.map_toArray, List.map_cons, List.map_nil, hs, hx, hrun]
  have hsz : W.heap.size ≤ w1.heap.size := by
    rcases hat with ⟨_, _, _, hf⟩ | ⟨_, _, _, _, hb⟩
    · exact hf.size
    · exact hb.size
  have hb1 : Below base w0 w1 := by
    rcases hat with ⟨_, _, _, hf⟩ | ⟨_, _, _, _, hb⟩
    · refine HB.trans ⟨hf.os, hf.tape, hf.output, hf.size, fun k hk => hf.keep k (by omega) fun o ho => ?_⟩
      obtain ⟨ad, rfl, rfl, _⟩ := ho
      cases hown with
      | win g off c xs hg hw hlx => simp at hk; omega
    · exact below_then HB hbase hb
  have := h A1 c1 w1 (xs ++ ys) ⟨rfl⟩ hown1 hb1 hsz
  rw [List.length_append] at this
  exact hK _ _ this
/-- append(x, y), y one byte: behind 'at_builtin'; the goal's world is 'W.alloc' of the byte's box. -/
theorem app_one {w0 W : World} (base : Nat) (hgd : o.guard = none) (s x : Operand) (t e : TypeId)
    (ho : o.op = .call { callee := .builtin .append, args := #[s, x], argTypes := #[t, t] })
    (ht : P.underlying t = some (.slice e)) (hinfo : (P.info? e).map (fun i => (i.zero, i.size, i.bytes)) = some (some (.int .u8 0), 1, 1))
    (A : Option Addr) (c : Nat) (xs : List UInt8) (y : Int) (n : Nat) (hn : n = xs.length) (h0 : 0 ≤ y) (h1 : y ≤ 255)
    (hs : a.eval s = .slice A n c) (hx : a.eval x = .slice (some ⟨W.heap.size, 0, none⟩) 1 1)
    (hown : Own e W base A c xs) (HB : Below base w0 W) (hbase : base ≤ W.heap.size) (hl : xs.length + 1 ≤ 140737488351232)
    (h : ∀ A1 c1 w1 zs, Sec (zs = xs ++ [u8 y]) → Own e w1 base A1 c1 zs → Below base w0 w1 → W.heap.size ≤ w1.heap.size → wpList P ops Q rest (a.put o.dst (.slice A1 zs.length c1)) w1) :
    wpList P ops Q (o :: rest) a (W.alloc (.cells #[.int .u8 y] e)) := by
  refine app_step base hgd s x t e ho ht hinfo A c xs (some ⟨W.heap.size, 0, none⟩) 1 [u8 y] n 1 hn rfl hs hx (hown.alloc _) ⟨by simp, fun i hi0 hi1 => ⟨_, rfl, ?_⟩⟩ (HB.alloc hbase _) (by simp; omega) (by simpa using hl) ?_
  · obtain rfl : i = 0 := by simp at hi1; omega
    rw [addr_plain]
    have e1 : rb [u8 y] 0 = y := by simp [rb, u8_val' y h0 h1]
    rw [e1, cell_cells (heap_alloc_new W _)]
    rfl
  · intro A1 c1 w1 zs hz hown1 hb1 hsz
    exact h A1 c1 w1 zs hz hown1 hb1 (Nat.le_trans (by simp) hsz)
/-- append(x, y1, .., yn), all bytes: the goal's world is 'W.alloc' of their box. -/
theorem app_many {w0 W : World} (base : Nat) (hgd : o.guard = none) (s x : Operand) (t e : TypeId)
    (ho : o.op = .call { callee := .builtin .append, args := #[s, x], argTypes := #[t, t] })
    (ht : P.underlying t = some (.slice e)) (hinfo : (P.info? e).map (fun i => (i.zero, i.size, i.bytes)) = some (some (.int .u8 0), 1, 1))
    (A : Option Addr) (c : Nat) (xs : List UInt8) (vs : Array Value) (ys : List UInt8) (hv : vs = (bv ys).toArray) (n m : Nat) (hn : n = xs.length) (hm : m = ys.length)
    (hs : a.eval s = .slice A n c) (hx : a.eval x = .slice (some ⟨W.heap.size, 0, none⟩) m m)
    (hown : Own e W base A c xs) (HB : Below base w0 W) (hbase : base ≤ W.heap.size) (hl : xs.length + ys.length ≤ 140737488351232)
    (h : ∀ A1 c1 w1 zs, Sec (zs = xs ++ ys) → Own e w1 base A1 c1 zs → Below base w0 w1 → W.heap.size ≤ w1.heap.size → wpList P ops Q rest (a.put o.dst (.slice A1 zs.length c1)) w1) :
    wpList P ops Q (o :: rest) a (W.alloc (.cells vs e)) := by
  subst hv
  refine app_step base hgd s x t e ho ht hinfo A c xs (some ⟨W.heap.size, 0, none⟩) m ys n m hn hm hs hx (hown.alloc _) (RD.mk_cells (by omega) fun hp => ⟨_, rfl, fun j u hu => ?_⟩) (HB.alloc hbase _) (by simp; omega) hl ?_
  · rw [addr_plain, cell_cells (heap_alloc_new W _), Nat.zero_add]
    simpa using hu
  · intro A1 c1 w1 zs hz hown1 hb1 hsz
    exact h A1 c1 w1 zs hz hown1 hb1 (Nat.le_trans (by simp) hsz)
end

/-! ### copy into a slice of the call's own -/
section
variable {P : Program}
/-- copy(dst, src), dst lying in a window from place k on; all of src goes over. -/
theorem run_cpy (w : World) (dT sT ty e : TypeId) (hu : P.underlying dT = some (.slice e)) (hinfo : (P.info? e).map (fun i => (i.zero, i.size, i.bytes)) = some (some (.int .u8 0), 1, 1))
    {g off c : Nat} {xs : List UInt8} (hw : Win e w g off c xs) (k : Nat) (dp : Option Addr) (dLen dCap : Nat) (B : Option Addr) (d : Nat) (ys : List UInt8) (hr : RD w B ys)
    (hpos : 0 < ys.length → dp = some ⟨g, off + k, none⟩) (hl : ys.length ≤ dLen) (hk : k + ys.length ≤ xs.length) :
    ∃ w', (Builtin.copy_ #[dT, sT] ty #[.slice dp dLen dCap, .slice B ys.length d]).run P w = .ok (goInt ys.length) w' ∧ Win e w' g off c (over xs k ys) ∧
      Fr (fun b o => b = g ∧ off + k ≤ o ∧ o < off + k + ys.length) w w' := by
  obtain ⟨i0, hi, hzz⟩ := Option.map_eq_some_iff.1 hinfo
  simp only [Prod.mk.injEq] at hzz
  obtain ⟨hz0, hz1, hz2⟩ := hzz
  have hsz : (P.info? e).map (·.size) = some 1 := by rw [hi]; simp [hz1]
  rcases Nat.eq_zero_or_pos ys.length with h0 | h0
  · obtain rfl : ys = [] := List.eq_nil_of_length_eq_zero h0
    refine ⟨w, ?_, ?_, Fr.refl _ _⟩
    · have := run_copy_none (P := P) w dT sT ty e dp B dLen dCap 0 d hu hsz (by simp)
      simpa using this
    · have : over xs k [] = xs := by simp [over]
      rw [this]
      exact hw
  · obtain rfl := hpos h0
    obtain ⟨ad, rfl⟩ := hr.some_ h0
    obtain ⟨cur, h1, h2, h3⟩ := hw.blk
    have hlen := hw.len
    have hrun := run_copy_row (P := P) w dT sT ty e g (off + k) dLen dCap ad ys.length d cur e (bv ys) hu hsz h1 (by rw [bv_length]; exact (Nat.min_eq_left hl).symm) hr.cells (by rw [bv_length]; omega) (bv_one ys)
    refine ⟨_, ?_, win_over hw k ys (by omega) (by omega) cur h1 (over xs k ys) (by rw [over_length _ _ _ hk]; exact hlen) fun j hj => ?_, ?_⟩
    · rw [hrun, bv_length]
    · rw [over_length _ _ _ hk] at hj
      unfold over
      exact laid_get8 xs k ys hk j
    · refine (fr_setRow h1 (off + k) (bv ys) (by rw [bv_length]; omega)).mono fun b o _ ho => ?_
      rwa [bv_length] at ho
variable {ops : Array Oper} {rest : List Oper} {o : Oper} {a : Act} {Q : Exit → Act → World → Prop}
/-- copy in a walk: at a call whose builtin is copy. -/
theorem cpy_step {w0 W : World} (base : Nat) (hgd : o.guard = none) (s x : Operand) (dT sT e : TypeId)
    (ho : o.op = .call { callee := .builtin .copy, args := #[s, x], argTypes := #[dT, sT] })
    (hu : P.underlying dT = some (.slice e)) (hinfo : (P.info? e).map (fun i => (i.zero, i.size, i.bytes)) = some (some (.int .u8 0), 1, 1))
    {g off c : Nat} {xs : List UInt8} (hw : Win e W g off c xs) (k : Nat) (dp : Option Addr) (dLen dCap : Nat) (B : Option Addr) (d : Nat) (ys : List UInt8) (m : Nat) (hm : m = ys.length)
    (hs : a.eval s = .slice dp dLen dCap) (hx : a.eval x = .slice B m d) (hr : RD W B ys)
    (hpos : 0 < ys.length → dp = some ⟨g, off + k, none⟩) (hl : ys.length ≤ dLen) (hk : k + ys.length ≤ xs.length) (HB : Below base w0 W) (hg : base ≤ g)
    (h : ∀ w1 zs, Sec (zs = over xs k ys) → Win e w1 g off c zs → Below base w0 w1 → W.heap.size ≤ w1.heap.size → wpList P ops Q rest (a.put o.dst (goInt ys.length)) w1) :
    wpList P ops Q (o :: rest) a W := by
  subst hm
  obtain ⟨w1, hrun, hw1, hf⟩ := run_cpy (P := P) W dT sT o.type e hu hinfo hw k dp dLen dCap B d ys hr hpos hl hk
  refine wpList_plain hgd fun K hK => ?_
  unfold Oper.wp execOp
  simp only [ho, resolve, invoke, builtin, Sem.run_bind, Sem.run_pure, Result.andThen_ok, List.map_toArray, List.map_cons, List.map_nil, hs, hx, hrun]
  exact hK _ _ (h w1 _ ⟨rfl⟩ hw1 (HB.trans ⟨hf.os, hf.tape, hf.output, hf.size, fun k hk => hf.keep k (Nat.lt_of_lt_of_le hk (Nat.le_trans hg (Nat.le_of_lt hw.lt))) fun o ho => by omega⟩) hf.size)
end

/-! ### make, stores, cuts -/
theorem win_made (w : World) (e : TypeId) (m : Nat) (hm : m ≤ 140737488351232) : Win e (w.alloc (.cells (madeCells #[.int .u8 0] m) e)) w.heap.size 0 m (List.replicate m 0) := by
  refine ⟨⟨_, heap_alloc_new w _, by rw [size_madeCells]; omega, fun j u hu => ?_⟩, by simp, by omega⟩
  have hj := (bv_some _ j u hu).1
  simp only [List.length_replicate] at hj
  simp [bv, hj] at hu
  subst hu
  simp [madeCells, hj, Nat.mod_one]
/-- l[i] = y. -/
theorem win_set {e : TypeId} {w : World} {g off c : Nat} {xs : List UInt8} (h : Win e w g off c xs) (i : Nat) (y : Int) (hi : i < xs.length) (h0 : 0 ≤ y) (h1 : y ≤ 255) :
    Win e (w.setCell ⟨g, off + i, none⟩ (.int .u8 y)) g off c (xs.set i (u8 y)) := by
  obtain ⟨cur, k1, k2, k3⟩ := h.blk
  have hlen := h.len
  refine ⟨⟨cur.setIfInBounds (off + i) (.int .u8 y), by simp [World.setCell, Array.getElem?_modify, k1], by simpa using k2, fun j u hu => ?_⟩, by simpa using h.len, h.max⟩
  obtain ⟨hj, rfl⟩ := bv_some _ j u hu
  rw [List.length_set] at hj
  by_cases hji : j = i
  · subst hji
    rw [Array.getElem?_setIfInBounds_self_of_lt (by omega)]
    simp [rb, List.getD_eq_getElem?_getD, hj, u8_val' y h0 h1]
  · rw [Array.getElem?_setIfInBounds_ne (by omega), k3 j _ (bv_get xs j hj)]
    congr 2
    unfold rb
    rw [List.getD_eq_getElem?_getD, List.getD_eq_getElem?_getD, Int.toNat_natCast, List.getElem?_set_ne (fun e => hji e.symm)]
theorem fr_set {w : World} {g o : Nat} (v : Value) : Fr (fun k j => k = g ∧ j = o) w (w.setCell ⟨g, o, none⟩ v) := by
  refine ⟨rfl, rfl, rfl, by simp [World.setCell], fun k hk hn => Below.heap_setCell w _ v k (fun e => hn o ⟨e, rfl⟩), fun k cs t fr hk => ?_⟩
  by_cases hkg : k = g
  · subst hkg
    refine ⟨cs.setIfInBounds o v, by simp [World.setCell, Array.getElem?_modify, hk], by simp, fun j hj => ?_⟩
    rw [Array.getElem?_setIfInBounds_ne (fun e => hj ⟨rfl, e.symm⟩)]
  · exact ⟨cs, (Below.heap_setCell w _ v k hkg).trans hk, rfl, fun _ _ => rfl⟩

section
variable {P : Program}
theorem sizes1 {e : TypeId} (hinfo : (P.info? e).map (fun i => (i.zero, i.size, i.bytes)) = some (some (.int .u8 0), 1, 1)) : ∃ i, P.info? e = some i ∧ i.size = 1 := by
  obtain ⟨i0, hi, hzz⟩ := Option.map_eq_some_iff.1 hinfo
  simp only [Prod.mk.injEq] at hzz
  exact ⟨i0, hi, hzz.2.1⟩
/-- make([]byte, m). -/
theorem run_mk (t e : TypeId) (ht : P.underlying t = some (.slice e)) (hinfo : (P.info? e).map (fun i => (i.zero, i.size, i.bytes)) = some (some (.int .u8 0), 1, 1)) (m : Int) (h0 : 0 ≤ m) (hm : m ≤ 140737488351232) :
    ∀ W : World, (Instr.makeSlice t (.int .i64 m) (.int .i64 m)).run P W = .ok (.slice (some ⟨W.heap.size, 0, none⟩) m.toNat m.toNat) (W.alloc (.cells (madeCells #[.int .u8 0] m.toNat) e)) := by
  intro W
  obtain ⟨i0, hi, hzz⟩ := Option.map_eq_some_iff.1 hinfo
  simp only [Prod.mk.injEq] at hzz
  obtain ⟨hz0, hz1, hz2⟩ := hzz
  have hr := run_make (P := P) W t e i0 (.int .u8 0) ht hi hz0 .i64 .i64 m m h0 (Int.le_refl _) (by rw [hz2]; omega) (by omega)
  rw [hz1, Nat.mul_one] at hr
  exact hr
/-- The address of a cut from place l on, as the model has it. -/
def cutA (A : Option Addr) (c l : Nat) : Option Addr := if c = l then A else A.map (·.add l)
theorem run_cut_lo (t e : TypeId) (ht : P.underlying t = some (.slice e)) (hinfo : (P.info? e).map (fun i => (i.zero, i.size, i.bytes)) = some (some (.int .u8 0), 1, 1)) (A : Option Addr) (n c : Nat) (kl : IntKind) (l : Int) (h0 : 0 ≤ l) (h1 : l ≤ n) (W : World) :
    (Instr.slice t (.slice A n c) (some (.int kl l)) none none).run P W = .ok (.slice (cutA A c l.toNat) (n - l.toNat) (c - l.toNat)) W := by
  obtain ⟨i, hi, hsz⟩ := sizes1 hinfo
  have eh : (l.toNat : Int) = l := Int.toNat_of_nonneg h0
  simp [Instr.slice, run_underlying ht, Instr.sliceBounds, Instr.sliceBound, asIntOf, h0, h1, sizeOf, typeInfo, hi, hsz, cutA]
theorem run_cut_hi (t e : TypeId) (ht : P.underlying t = some (.slice e)) (hinfo : (P.info? e).map (fun i => (i.zero, i.size, i.bytes)) = some (some (.int .u8 0), 1, 1)) (A : Option Addr) (n c : Nat) (kh : IntKind) (h : Int) (h0 : 0 ≤ h) (h1 : h ≤ c) (W : World) :
    (Instr.slice t (.slice A n c) none (some (.int kh h)) none).run P W = .ok (.slice A h.toNat c) W := by
  obtain ⟨i, hi, hsz⟩ := sizes1 hinfo
  have ha : (A.map fun x => x.add 0) = A := by cases A <;> simp [Addr.add]
  simp [Instr.slice, run_underlying ht, Instr.sliceBounds, Instr.sliceBound, asIntOf, h0, h1, sizeOf, typeInfo, hi, hsz, ha]
theorem run_cut_lohi (t e : TypeId) (ht : P.underlying t = some (.slice e)) (hinfo : (P.info? e).map (fun i => (i.zero, i.size, i.bytes)) = some (some (.int .u8 0), 1, 1)) (A : Option Addr) (n c : Nat) (kl kh : IntKind) (l h : Int) (h0 : 0 ≤ l) (h1 : l ≤ h) (h2 : h ≤ c) (W : World) :
    (Instr.slice t (.slice A n c) (some (.int kl l)) (some (.int kh h)) none).run P W = .ok (.slice (cutA A c l.toNat) (h.toNat - l.toNat) (c - l.toNat)) W := by
  obtain ⟨i, hi, hsz⟩ := sizes1 hinfo
  have hh : 0 ≤ h := by omega
  have eh : (h.toNat : Int) = h := Int.toNat_of_nonneg hh
  simp [Instr.slice, run_underlying ht, Instr.sliceBounds, Instr.sliceBound, asIntOf, h0, h1, h2, hh, eh, sizeOf, typeInfo, hi, hsz, cutA]
theorem run_cut_hi3 (t e : TypeId) (ht : P.underlying t = some (.slice e)) (hinfo : (P.info? e).map (fun i => (i.zero, i.size, i.bytes)) = some (some (.int .u8 0), 1, 1)) (A : Option Addr) (n c : Nat) (kh km : IntKind) (h m : Int) (h0 : 0 ≤ h) (h1 : h ≤ m) (h2 : m ≤ c) (W : World) :
    (Instr.slice t (.slice A n c) none (some (.int kh h)) (some (.int km m))).run P W = .ok (.slice A h.toNat m.toNat) W := by
  obtain ⟨i, hi, hsz⟩ := sizes1 hinfo
  have ha : (A.map fun x => x.add 0) = A := by cases A <;> simp [Addr.add]
  have hm : 0 ≤ m := by omega
  have em : (m.toNat : Int) = m := Int.toNat_of_nonneg hm
  simp [Instr.slice, run_underlying ht, Instr.sliceBounds, Instr.sliceBound, asIntOf, h0, h1, h2, hm, em, sizeOf, typeInfo, hi, hsz, ha]
theorem run_cut_lohi3 (t e : TypeId) (ht : P.underlying t = some (.slice e)) (hinfo : (P.info? e).map (fun i => (i.zero, i.size, i.bytes)) = some (some (.int .u8 0), 1, 1)) (A : Option Addr) (n c : Nat) (kl kh km : IntKind) (l h m : Int) (h00 : 0 ≤ l) (h0 : l ≤ h) (h1 : h ≤ m) (h2 : m ≤ c) (W : World) :
    (Instr.slice t (.slice A n c) (some (.int kl l)) (some (.int kh h)) (some (.int km m))).run P W = .ok (.slice (cutA A m.toNat l.toNat) (h.toNat - l.toNat) (m.toNat - l.toNat)) W := by
  obtain ⟨i, hi, hsz⟩ := sizes1 hinfo
  have hm : 0 ≤ m := by omega
  have hh : 0 ≤ h := by omega
  have em : (m.toNat : Int) = m := Int.toNat_of_nonneg hm
  have eh : (h.toNat : Int) = h := Int.toNat_of_nonneg hh
  simp [Instr.slice, run_underlying ht, Instr.sliceBounds, Instr.sliceBound, asIntOf, h00, h0, h1, h2, hm, hh, em, eh, sizeOf, typeInfo, hi, hsz, cutA]
end
/-- What a cut reads. -/
theorem RD.take_ {w : World} {A : Option Addr} {xs : List UInt8} (h : RD w A xs) (k : Nat) : RD w A (xs.take k) := by
  refine ⟨by rw [List.length_take]; have := h.len; omega, fun i h0 h1 => ?_⟩
  rw [List.length_take] at h1
  obtain ⟨ad, e, hc⟩ := h.get i h0 (by omega)
  refine ⟨ad, e, ?_⟩
  rw [hc]
  have := rb_take xs (k : Int) i (by omega) h0
  rw [Int.toNat_natCast] at this
  rw [this]
theorem RD.drop_ {w : World} {A : Option Addr} {xs : List UInt8} (h : RD w A xs) (k c : Nat) (hc : xs.length ≤ c) : RD w (cutA A c k) (xs.drop k) := by
  refine ⟨by rw [List.length_drop]; have := h.len; omega, fun i h0 h1 => ?_⟩
  rw [List.length_drop] at h1
  obtain ⟨ad, rfl, hcell⟩ := h.get (k + i) (by omega) (by omega)
  refine ⟨ad.add k, by unfold cutA; rw [if_neg (by omega)]; rfl, ?_⟩
  rw [addr_add, show k + i.toNat = ((k : Int) + i).toNat from by omega, hcell]
  have := rb_drop xs (k : Int) i (by omega) h0
  rw [Int.toNat_natCast] at this
  rw [this]

end Go.Proofs.Ytdjldipiggfjdaa
