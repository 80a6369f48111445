/-
  READING WHAT CAME IN: byte lists, lists of them, headers, packets: from the form's readings to this seat's words, with what the bound on the bulk gives. Conditions: none.
-/
import Derived.Test.YtdjldipiggfjdaaRows
import Derived.Test.YtdjldipiggfjdaaPacket
import Derived.Test.YtdjldipiggfjdaaBuildSpec
import Derived.Deep.Slices
import Derived.ProofKit
import Derived.OpenShut
import Derived.Below
import Derived.ChangeSame
import Derived.Carry
namespace Go.Proofs.Ytdjldipiggfjdaa
open Go.RowKit Go.ChangeShapes Go.WideShapes Go.Deep
set_option linter.unusedVariables false
set_option linter.unusedSimpArgs false

section
variable {H : Type} {enc : TypeId × Value → H} {P : Program} {w : World} {base : Nat} {held : Bool}

theorem bulk_pos (d : DataW H) : 1 ≤ Rows.uptoBulk d := by
  cases d with
  | lit l => cases l <;> simp [Rows.uptoBulk]
  | _ => simp [Rows.uptoBulk]
theorem bulk_part {d : DataW H} {l : List (DataW H)} (h : d ∈ l) : Rows.uptoBulk d ≤ Rows.uptoBulkAll l := by
  induction l with
  | nil => cases h
  | cons x r ih =>
    simp only [Rows.uptoBulkAll]
    rcases List.mem_cons.1 h with e | e
    · subst e; omega
    · have := ih e; omega
theorem bulk_sum (f : Nat → Nat) (D : Nat → DataW H) (l : List Nat) (h : ∀ i ∈ l, f i ≤ Rows.uptoBulk (D i)) : (l.map f).sum ≤ Rows.uptoBulkAll (l.map D) := by
  induction l with
  | nil => simp
  | cons x r ih =>
    have h1 := h x (by simp)
    have h2 := ih fun i hi => h i (by simp [hi])
    simp only [List.map_cons, List.sum_cons, Rows.uptoBulkAll]
    omega
theorem bulk_len (l : List (DataW H)) : l.length ≤ Rows.uptoBulkAll l := by
  induction l with
  | nil => simp [Rows.uptoBulkAll]
  | cons x r ih => have := bulk_pos x; simp only [Rows.uptoBulkAll, List.length_cons]; omega
theorem bulk_at (D : Nat → DataW H) {n i : Nat} (h : i < n) : Rows.uptoBulk (D i) ≤ Rows.uptoBulkAll ((List.range n).map D) :=
  bulk_part (List.mem_map.2 ⟨i, by simpa using h, rfl⟩)

theorem wf_u8 {n : Int} (h : (Lit.int .u8 n).wf = true) : 0 ≤ n ∧ n ≤ 255 := by simpa [Lit.wf, IntKind.min, IntKind.max, IntKind.signed, IntKind.bits] using h
theorem wf_u16 {n : Int} (h : (Lit.int .u16 n).wf = true) : 0 ≤ n ∧ n ≤ 65535 := by simpa [Lit.wf, IntKind.min, IntKind.max, IntKind.signed, IntKind.bits] using h
theorem wf_u32 {n : Int} (h : (Lit.int .u32 n).wf = true) : 0 ≤ n ∧ n ≤ 4294967295 := by simpa [Lit.wf, IntKind.min, IntKind.max, IntKind.signed, IntKind.bits] using h
theorem wf_i64 {n : Int} (h : (Lit.int .i64 n).wf = true) : -9223372036854775808 ≤ n ∧ n ≤ 9223372036854775807 := by simpa [Lit.wf, IntKind.min, IntKind.max, IntKind.signed, IntKind.bits] using h

/-- A byte list that came in. -/
theorem open_rd {t e : TypeId} {fuel : Nat} {cs : List Value} {x : DataW H × List MemPlace} (ht : P.underlying t = some (.slice e)) (he : P.underlying e = some (.int .u8)) (hc : P.cellsOf e = 1)
    (h : DataW.trod enc P w base (fun _ => true) held fuel t cs = some x) :
    ∃ (A : Option Addr) (c : Nat) (xs : List UInt8), cs = [.slice A xs.length c] ∧ xs.length ≤ c ∧ c + 1 ≤ Rows.uptoBulk x.1 ∧ (Rows.uptoBulk x.1 ≤ 1048576 → RD w A xs) := by
  rcases open_slice1 ht hc h with ⟨rfl, rfl⟩ | ⟨a, len, cap, m, n, V, D, Pl, rfl, hb, hl, hm, hmm, rfl, hx⟩
  · exact ⟨none, 0, [], rfl, Nat.le_refl _, by simp [Rows.uptoBulk], fun _ => RD.nil _ _⟩
  · simp only [if_true] at hmm
    subst hmm
    have hlen : ((List.range len).map fun i => u8 (intOf (V i))).length = len := by simp
    have hbk : m + 1 ≤ Rows.uptoBulk (DataW.slice ((List.range len).map D) ((List.range (m - len)).map fun j => D (len + j))) := by
      have h1 := bulk_len ((List.range len).map D)
      have h2 := bulk_len ((List.range (m - len)).map fun j => D (len + j))
      rw [List.length_map, List.length_range] at h1 h2
      simp only [Rows.uptoBulk]
      omega
    refine ⟨some a, m, (List.range len).map fun i => u8 (intOf (V i)), by rw [hlen], by rw [hlen]; exact hl, hbk, fun hs => ⟨by rw [hlen]; simp only [] at hs; omega, fun i h0 h1 => ⟨a, rfl, ?_⟩⟩⟩
    rw [hlen] at h1
    obtain ⟨hcell, htr⟩ := hx i.toNat (by omega)
    obtain ⟨z, hz, _, hwf⟩ := DataW.trod_int he htr
    obtain ⟨z0, z1⟩ := wf_u8 hwf
    injection hz with hz
    rw [hcell, hz]
    have : rb ((List.range len).map fun i => u8 (intOf (V i))) i = z := by
      unfold rb
      rw [List.getD_eq_getElem?_getD, List.getElem?_map, List.getElem?_range (by omega)]
      simp only [Option.map_some, Option.getD_some, hz, intOf]
      exact u8_val' z z0 z1
    rw [this]

/-- A list of byte lists that came in. -/
theorem open_rds {tt t e : TypeId} {fuel : Nat} {cs : List Value} {x : DataW H × List MemPlace} (htt : P.underlying tt = some (.slice t)) (ht : P.underlying t = some (.slice e)) (he : P.underlying e = some (.int .u8)) (hct : P.cellsOf t = 1) (hc : P.cellsOf e = 1)
    (h : DataW.trod enc P w base (fun _ => true) held fuel tt cs = some x) :
    ∃ (A : Option Addr) (c : Nat) (xss : List (List UInt8)), cs = [.slice A xss.length c] ∧ xss.length ≤ c ∧ c + 1 ≤ Rows.uptoBulk x.1 ∧ xss.flatten.length ≤ Rows.uptoBulk x.1 ∧ (Rows.uptoBulk x.1 ≤ 1048576 → RDs w A xss) := by
  rcases open_slice1 htt hct h with ⟨rfl, rfl⟩ | ⟨a, len, cap, m, n, V, D, Pl, rfl, hb, hl, hm, hmm, rfl, hx⟩
  · exact ⟨none, 0, [], rfl, Nat.le_refl _, by simp [Rows.uptoBulk], by simp [Rows.uptoBulk], fun _ => RDs.nil _ _⟩
  · simp only [if_true] at hmm
    subst hmm
    obtain ⟨X, hX⟩ := choose_lt (α := Option Addr × Nat × List UInt8) (p := fun i y => V i = .slice y.1 y.2.2.length y.2.1 ∧ y.2.2.length ≤ y.2.1 ∧ y.2.1 + 1 ≤ Rows.uptoBulk (D i) ∧ (Rows.uptoBulk (D i) ≤ 1048576 → RD w y.1 y.2.2)) (n := m) (fun i hi => by
      obtain ⟨A, c, xs, h1, h2, h3, h4⟩ := open_rd ht he hc (hx i hi).2
      injection h1 with h1
      exact ⟨(A, c, xs), h1, h2, h3, h4⟩)
    have hlen : ((List.range len).map fun i => (X i).2.2).length = len := by simp
    have hbk : m + 1 ≤ Rows.uptoBulk (DataW.slice ((List.range len).map D) ((List.range (m - len)).map fun j => D (len + j))) := by
      have h1 := bulk_len ((List.range len).map D)
      have h2 := bulk_len ((List.range (m - len)).map fun j => D (len + j))
      rw [List.length_map, List.length_range] at h1 h2
      simp only [Rows.uptoBulk]
      omega
    have hfl : ((List.range len).map fun i => (X i).2.2).flatten.length ≤ Rows.uptoBulk (DataW.slice ((List.range len).map D) ((List.range (m - len)).map fun j => D (len + j))) := by
      have h1 := bulk_sum (fun i => (X i).2.2.length) D (List.range len) (fun i hi => by have := hX i (by have := List.mem_range.1 hi; omega); omega)
      have e1 : ((List.range len).map fun i => (X i).2.2).flatten.length = ((List.range len).map fun i => (X i).2.2.length).sum := by
        rw [List.length_flatten, List.map_map]; rfl
      rw [e1]
      simp only [Rows.uptoBulk]
      omega
    refine ⟨some a, m, (List.range len).map fun i => (X i).2.2, by rw [hlen], by rw [hlen]; exact hl, hbk, hfl, fun hs => ⟨by rw [hlen]; simp only [] at hs; omega, fun i h0 h1 => ?_⟩⟩
    rw [hlen] at h1
    have hi : i.toNat < m := by omega
    obtain ⟨hcell, _⟩ := hx i.toNat hi
    obtain ⟨e1, e2, e3, e4⟩ := hX i.toNat hi
    have hri : ri ((List.range len).map fun i => (X i).2.2) i = (X i.toNat).2.2 := by
      unfold ri
      rw [List.getD_eq_getElem?_getD, List.getElem?_map, List.getElem?_range (by omega)]
      rfl
    have hD : Rows.uptoBulk (D i.toNat) ≤ 1048576 := by
      have := bulk_at D (show i.toNat < len by omega)
      simp only [Rows.uptoBulk] at hs
      omega
    exact ⟨a, (X i.toNat).1, (X i.toNat).2.1, rfl, by rw [hri, hcell, e1], by rw [hri]; exact e2, by rw [hri]; exact e4 hD⟩
end

section
variable {H : Type} {enc : TypeId × Value → H} {w : World} {base : Nat} {held : Bool}
theorem cells5 : Try.prog.cellsOf 5 = 1 := by kernel_rfl
theorem cells31 : Try.prog.cellsOf 31 = 1 := by kernel_rfl
theorem cells33 : Try.prog.cellsOf 33 = 1 := by kernel_rfl
theorem cells4 : Try.prog.cellsOf 4 = 1 := by kernel_rfl
theorem cells3 : Try.prog.cellsOf 3 = 1 := by kernel_rfl
theorem cells30 : Try.prog.cellsOf 30 = 1 := by kernel_rfl
theorem cells26 : Try.prog.cellsOf 26 = 1 := by kernel_rfl
theorem cells35 : Try.prog.cellsOf 35 = 10 := by kernel_rfl
theorem cells37 : Try.prog.cellsOf 37 = 11 := by kernel_rfl
set_option maxRecDepth 100000 in
/-- A header that came in. -/
theorem open_head {fuel : Nat} {cs : List Value} {x : DataW H × List MemPlace} (h : DataW.trod enc Try.prog w base (fun _ => true) held fuel 35 cs = some x) :
    ∃ (hd : Hd) (A : Option Addr) (c : Nat), cs = (hcells hd A hd.opts.length c).toList ∧ HdIn hd ∧ hd.opts.length ≤ c ∧ c + 1 ≤ Rows.uptoBulk x.1 ∧ (Rows.uptoBulk x.1 ≤ 1048576 → RD w A hd.opts) := by
  obtain ⟨xs, n, _, rfl, hcl, hxl, hf⟩ := DataW.trod_struct Try.underlying35 h
  rw [cells35] at hcl
  match cs, hcl with
  | [v0, v1, v2, v3, v4, v5, v6, v7, v8, v9], _ =>
    match xs, hxl with
    | [y0, y1, y2, y3, y4, y5, y6, y7, y8, y9], _ =>
      have h0 := hf 0 _ rfl
      have h1 := hf 1 _ rfl
      have h2 := hf 2 _ rfl
      have h3 := hf 3 _ rfl
      have h4 := hf 4 _ rfl
      have h5 := hf 5 _ rfl
      have h6 := hf 6 _ rfl
      have h7 := hf 7 _ rfl
      have h8 := hf 8 _ rfl
      have h9 := hf 9 _ rfl
      simp only [cells5, cells31, cells33, cells4, cells3, cells30, List.drop_zero, List.drop_succ_cons, List.take_succ_cons, List.take_zero, List.getElem?_cons_zero, List.getElem?_cons_succ] at h0 h1 h2 h3 h4 h5 h6 h7 h8 h9
      obtain ⟨a0, e0, _, b0⟩ := DataW.trod_int Try.underlying5 h0
      obtain ⟨a1, e1, _, b1⟩ := DataW.trod_int Try.underlying31 h1
      obtain ⟨a2, e2, _⟩ := DataW.trod_bool Try.underlying4 h2
      obtain ⟨a3, e3, _⟩ := DataW.trod_bool Try.underlying4 h3
      obtain ⟨a4, e4, _, b4⟩ := DataW.trod_int Try.underlying3 h4
      obtain ⟨a5, e5, _, b5⟩ := DataW.trod_int Try.underlying5 h5
      obtain ⟨a6, e6, _, b6⟩ := DataW.trod_int Try.underlying5 h6
      obtain ⟨a7, e7, _, b7⟩ := DataW.trod_int Try.underlying33 h7
      obtain ⟨a8, e8, _, b8⟩ := DataW.trod_int Try.underlying33 h8
      obtain ⟨A, c, xs, e9, l9, k9, r9⟩ := open_rd Try.underlying30 Try.underlying5 cells5 h9
      injection e0 with e0; injection e1 with e1; injection e2 with e2; injection e3 with e3; injection e4 with e4; injection e5 with e5; injection e6 with e6; injection e7 with e7; injection e8 with e8; injection e9 with e9
      subst e0; subst e1; subst e2; subst e3; subst e4; subst e5; subst e6; subst e7; subst e8; subst e9
      have hb : Rows.uptoBulk y9.1 ≤ Rows.uptoBulk (DataW.agg (List.map (fun x => x.1) [y0, y1, y2, y3, y4, y5, y6, y7, y8, y9])) := by
        simp only [List.map_cons, List.map_nil, Rows.uptoBulk, Rows.uptoBulkAll]
        omega
      refine ⟨⟨a0, a1, a2, a3, a4, a5, a6, a7, a8, xs⟩, A, c, rfl, ?_, l9, Nat.le_trans k9 hb, fun hs => r9 (Nat.le_trans hb hs)⟩
      have := wf_u8 b0; have := wf_u16 b1; have := wf_i64 b4; have := wf_u8 b5; have := wf_u8 b6; have := wf_u32 b7; have := wf_u32 b8
      constructor <;> simp only [] <;> omega
set_option maxRecDepth 100000 in
/-- A packet that came in. -/
theorem open_packet {fuel : Nat} {cs : List Value} {x : DataW H × List MemPlace} (h : DataW.trod enc Try.prog w base (fun _ => true) held fuel 37 cs = some x) :
    ∃ (hd : Hd) (A : Option Addr) (c : Nat) (B : Option Addr) (d : Nat) (body : List UInt8), cs = (pcells hd A hd.opts.length c B body.length d).toList ∧ HdIn hd ∧ hd.opts.length ≤ c ∧ body.length ≤ d ∧ c + d + 1 ≤ Rows.uptoBulk x.1 ∧ (Rows.uptoBulk x.1 ≤ 1048576 → RD w A hd.opts ∧ RD w B body) := by
  obtain ⟨xs, n, _, rfl, hcl, hxl, hf⟩ := DataW.trod_struct Try.underlying37 h
  rw [cells37] at hcl
  match cs, hcl with
  | [v0, v1, v2, v3, v4, v5, v6, v7, v8, v9, v10], _ =>
    match xs, hxl with
    | [y0, y1], _ =>
      have h0 : DataW.trod enc Try.prog w base (fun _ => true) held n 35 [v0, v1, v2, v3, v4, v5, v6, v7, v8, v9] = some y0 := by
        have this : DataW.trod enc Try.prog w base (fun _ => true) held n 35 ((List.drop 0 [v0, v1, v2, v3, v4, v5, v6, v7, v8, v9, v10]).take (Try.prog.cellsOf 35)) = [y0, y1][0]? := hf 0 _ rfl
        rw [cells35] at this
        exact this
      have h1 : DataW.trod enc Try.prog w base (fun _ => true) held n 30 [v10] = some y1 := by
        have this : DataW.trod enc Try.prog w base (fun _ => true) held n 30 ((List.drop 10 [v0, v1, v2, v3, v4, v5, v6, v7, v8, v9, v10]).take (Try.prog.cellsOf 30)) = [y0, y1][1]? := hf 1 _ rfl
        rw [cells30] at this
        exact this
      obtain ⟨hd, A, c, e0, i0, l0, k0, r0⟩ := open_head h0
      obtain ⟨B, d, body, e1, l1, k1, r1⟩ := open_rd Try.underlying30 Try.underlying5 cells5 h1
      have e0' : [v0, v1, v2, v3, v4, v5, v6, v7, v8, v9] ++ [v10] = (hcells hd A hd.opts.length c).toList ++ [.slice B body.length d] := by rw [e0, e1]
      have hb : Rows.uptoBulk y0.1 + Rows.uptoBulk y1.1 ≤ Rows.uptoBulk (DataW.agg (List.map (fun x => x.1) [y0, y1])) := by
        simp only [List.map_cons, List.map_nil, Rows.uptoBulk, Rows.uptoBulkAll]
        omega
      refine ⟨hd, A, c, B, d, body, e0', i0, l0, l1, Nat.le_trans (by omega) hb, fun hs => ?_⟩
      have hs' := Nat.le_trans hb hs
      exact ⟨r0 (by omega), r1 (by omega)⟩
end

/-! ### a law's post: what came in reads as it did; the answer is true -/
section
variable {H : Type} {enc : TypeId × Value → H} {P : Program}
/-- An argument behind a call that left all old memory alone. -/
theorem arg_again {t : TypeId} (hl : laidOutB P = true) (hr : P.readableRec t = true) (hrow : t < P.types.size) {W W' : World} {v : Value} {d : DataW H} {ps : List MemPlace}
    (h : DataW.Trod enc P W 0 (fun _ => true) true t v d ps) (hb : Below W.heap.size W W') (hlt : ∀ x ∈ ps, x.block < W.heap.size) (sp : Nat → Bool) (hsp : ∀ x ∈ ps, sp x.block = true) : DataW.Trod enc P W' 0 sp true t v d ps :=
  WideElems.Trod_stays hl hr hrow h (fun x hx => hb.same (hlt x hx)) hsp
/-- The post of a law whose call made memory, of which only 'Below' is known. -/
theorem post_below {f : Func} {s : ChangeSpec} {apart fresh handsOn again : Bool} {W W' : World} {args : Array Value} {v : Value} {ds gs : List (DataW H)} {before pa pv : List MemPlace}
    (hW : DataW.Whole enc P f.params.toList s.vars apart W args.toList ds gs before)
    (hres : ∀ (b : Nat) (sp : Nat → Bool) (hd : Bool), DataW.TrodAll enc P W' b sp hd f.resultTypes.toList (v.resultList f.resultTypes.size) (s.fn H (ds ++ gs)).results [])
    (hargs : ∀ sp : Nat → Bool, (∀ p ∈ before, sp p.block = true) → DataW.TrodAll enc P W' 0 sp true f.params.toList args.toList (s.fn H (ds ++ gs)).args pa)
    (hvars : ∀ sp : Nat → Bool, (∀ p ∈ before, sp p.block = true) → DataW.TrodVars enc P W' sp s.vars (s.fn H (ds ++ gs)).vars pv)
    (hps : before = pa ++ pv) (hb : Below W.heap.size W W')
    (hok : ∀ (j : Nat) (t : TypeId) (r : Value), f.resultTypes[j]? = some t → (v.resultList f.resultTypes.size)[j]? = some r → Value.okWide P W' .any 0 t r) :
    s.post enc P f apart fresh handsOn again W args v W' := by
  have hlt : ∀ p ∈ before, p.block < W.heap.size := fun p hp => hW.lt p hp
  have hold : ∀ p ∈ before, (fun b => decide (b < W.heap.size)) p.block = true := fun p hp => by simpa using hlt p hp
  obtain ⟨_, _, _, _, _, hz, hn⟩ := id hW
  have hin : ∀ x, x ∈ before → x ∈ pa ++ pv := fun x hx => hps ▸ hx
  refine ⟨ds, gs, before, [], pa, pv, hW, hres _ _ _, hargs _ hold, hvars _ hold, World.keptBut_mono (fun p hp => ⟨hp, ?_⟩) (hb.frame (· ∈ before)), fun _ => ?_⟩
  · have := hin p hp
    rw [List.mem_append] at this
    exact Or.inr this
  · refine ⟨hok, _, _, ([] ++ pa) ++ pv, ⟨[] ++ pa, pv, trodAll_append (hargs _ (fun _ _ => rfl)) (hres _ _ _), hvars _ (fun _ _ => rfl), rfl, fun b off hp => ?_, fun ha => ?_⟩, fun p hp _ => ?_⟩
    · have hbf : MemPlace.cell b off ∈ before := by rw [hps]; simpa using hp
      rw [hb.frozen (hlt _ hbf)]
      exact hz b off hbf
    · have := hn ha
      rw [hps] at this
      simpa using this
    · rw [hps]
      simpa using hp
end

end Go.Proofs.Ytdjldipiggfjdaa
