/-
  LAYER 3's statements: upTo, Ip4All: by contract, in any world: true. Conditions: a readable script.
-/
import Derived.Test.YtdjldipiggfjdaaAll
namespace Go.Proofs.Ytdjldipiggfjdaa
open Go.RowKit
set_option linter.unusedVariables false
set_option linter.unusedSimpArgs false

/-- A script that can be read. -/
structure ScrR (w : World) (A : Option Addr) (n : Nat) : Prop where
  len : n ≤ 8278677901920
  get : ∀ i : Int, 0 ≤ i → i < n → ∃ (ad : Addr) (o : OpV), A = some ad ∧ (∀ j v, o.cells.toList[j]? = some v → w.cell? ((ad.add (i.toNat * 17)).add j) = some v) ∧ OpR w o
theorem ScrR.below {w w' : World} {A : Option Addr} {n : Nat} (h : ScrR w A n) (hb : Below w.heap.size w w') : ScrR w' A n :=
  ⟨h.len, fun i h0 h1 => by
    obtain ⟨ad, o, e, hc, hr⟩ := h.get i h0 h1
    exact ⟨ad, o, e, fun j v hv => cell_below hb (hc j v hv), hr.below hb⟩⟩
section
variable {P : Program} {ops : Array Oper} {rest : List Oper} {o : Oper} {a : Act} {Q : Exit → Act → World → Prop}
/-- A struct is loaded from wherever it lies. -/
theorem ld_at {W : World} (hgd : o.guard = none) (ty : TypeId) (x : Operand) (ho : o.op = .load ty x) (p : Addr) (hx : a.eval x = .pointer (some p)) (vs : Array Value) (hc : ∀ j v, vs.toList[j]? = some v → W.cell? (p.add j) = some v) (d : TypeDesc)
    (hu : P.underlying ty = some d) (hd : d.isRow = true) (hi : (P.info? ty).map (·.size) = some vs.size)
    (h : wpList P ops Q rest (a.put o.dst (.agg vs)) W) : wpList P ops Q (o :: rest) a W := by
  refine wpList_plain hgd fun K hK => ?_
  have hl : (loadCells p vs.size).run P W = .ok vs W := by
    have := run_loadCells_list (P := P) W p vs.toList hc
    simpa using this
  have hrun : (loadVar ty p).run P W = .ok (.agg vs) W := by
    cases hq : P.info? ty with
    | none => simp [hq] at hi
    | some i =>
      have hs : i.size = vs.size := by simpa [hq] using hi
      have hagg : (isAgg ty).run P W = .ok true W := by
        unfold isAgg
        rw [Sem.run_bind, run_underlying hu W]
        cases d <;> simp_all
      simp [loadVar, Sem.run_bind, hagg, sizeOf, typeInfo, hq, hs, hl]
  unfold Oper.wp execOp
  simp only [ho, hx, Instr.loadAt, Instr.sureAddr, Sem.run_bind, Sem.run_pure, Result.andThen_ok, hrun]
  exact hK _ _ h
end
theorem opZero : (Try.prog.info? 39).map (·.zero) = some (some (.agg (opv 0 none 0 [] none 0 [] 0 0 0 Hd.zero none 0 []).cells)) := by kernel_rfl
theorem op_sizes (o o' : OpV) : o.cells.size = o'.cells.size := rfl
theorem op_one (o : OpV) : o.cells.all (·.oneCell') = true := by simp [OpV.cells, Value.oneCell']

/-- A new block, written: what could be read still can. -/
theorem OpR.alt {w w3 w4 : World} {o : OpV} {g : Nat} {w0 : World} (h : OpR w o) (_ : Below w0.heap.size w0 w) (hb : Below w.heap.size w w3) (hf : Fr (fun k _ => k = g) w3 w4) (hg : w.heap.size ≤ g) : OpR w4 o :=
  h.below (hb.trans ⟨hf.os, hf.tape, hf.output, hf.size, fun k hk => hf.keep k (Nat.lt_of_lt_of_le hk hb.size) fun _ => by omega⟩)

set_option maxHeartbeats 1600000 in
set_option maxRecDepth 100000 in
theorem upTo_true (A : Option Addr) (n c : Nat) (w : World) (hr : ScrR w A n) :
    Calls Try.prog 11 #[.slice A n c, .int .i64 1, .int .i64 7] w fun e w' => e = .returned (.bool true) ∧ Below w.heap.size w w' := by
  have HR := Sec.mk hr
  have ln := hr.len
  clear hr
  go_enter Try.func11, Try.ntmps11
  go_wp2
  go_loopw [7] (fun i wr => ∃ k : Int, 1 ≤ k ∧ k ≤ 8 ∧ i = .int .i64 k ∧ Sec (Below w.heap.size w wr)) (fun i _ => 8 - (intOf i).toNat)
  case atStart => exact ⟨1, by omega, by omega, rfl, ⟨Below.refl _ _⟩⟩
  case round =>
    obtain ⟨k, hk0, hk, rfl, HB⟩ := hrel
    by_cases hlt : k ≤ 7
    · go_wp2_with (go_at_call 12; refine (head_true k _).mono ?_; rintro e w1 ⟨rfl, hb1⟩)
      go_roundw
      case rel => exact ⟨k + 1, by omega, by omega, rfl, ⟨below_on HB.out hb1⟩⟩
      case measure => simp [intOf]; omega
    · go_wp2
      go_loopw [8] (fun i wr => ∃ k : Int, 0 ≤ k ∧ k ≤ n ∧ i = .int .i64 k ∧ Sec (Below w.heap.size w wr)) (fun i _ => n - (intOf i).toNat)
      case atStart => exact ⟨0, by omega, by omega, rfl, HB⟩
      case round =>
        obtain ⟨i, hi0, hi, rfl, HB2⟩ := hrel
        by_cases hli : i < (n : Int)
        · obtain ⟨ad, o, rfl, hc, ho⟩ := (HR.out.below HB2.out).get i hi0 hli
          have HC := Sec.mk hc
          have HO := Sec.mk ho
          clear hc ho
          by_cases hin : 1 ≤ o.kind ∧ o.kind ≤ 7
          · have d1 : decide (1 ≤ o.kind) = true := decide_eq_true hin.1
            have d2 : decide (o.kind ≤ 7) = true := decide_eq_true hin.2
            have d3 := hin.1
            have d4 := hin.2
            clear hin
            go_wp2_with (first
              | (refine ld_at rfl 39 (.tmp 27) rfl _ rfl o.cells HC.out _ Try.underlying39 rfl (opSize _) ?_)
              | (with_reducible refine al_step w.heap.size rfl 9 rfl 39 rfl _ opZero HB2.out HB2.out.size ?_; intro g3 w3 hg3 hk3 hb30 hb3 hs3)
              | (with_reducible refine st_row (w0 := w) w.heap.size rfl 39 (.tmp 9) _ rfl g3 _ rfl rfl 39 _ hk3 (opSize _) (op_sizes _ _) (op_one _) hb3 (Nat.le_trans HB2.out.size hg3) ?_
                 intro w4 hk4 hb4 hf4 hs4
                 clear hs4
                 obtain ⟨q0, q1, q2, q3, q4, q5⟩ := op_cells hk4)
              | (refine ld_mid_w (by rfl) 39 (.tmp 9) rfl g3 0 rfl 39 _ hk4 _ (extract_all _) _ Try.underlying39 rfl (opSize _) ?_)
              | (go_at_call 42
                 refine (plays_true o _ (OpR.alt HO.out HB2.out hb30 hf4 hg3)).mono ?_
                 rintro e w5 ⟨rfl, hb5⟩))
            go_roundw
            case rel => exact ⟨i + 1, by omega, by omega, rfl, ⟨below_on hb4 hb5⟩⟩
            case measure => simp [intOf]; omega
          · by_cases h1 : 1 ≤ o.kind
            · have d1 : decide (1 ≤ o.kind) = true := decide_eq_true h1
              have d2 : decide (o.kind ≤ 7) = false := decide_eq_false (fun h => hin ⟨h1, h⟩)
              have d3 : 7 < o.kind := by omega
              clear hin
              go_wp2_with (first
                | (refine ld_at rfl 39 (.tmp 27) rfl _ rfl o.cells HC.out _ Try.underlying39 rfl (opSize _) ?_)
                | (with_reducible refine al_step w.heap.size rfl 9 rfl 39 rfl _ opZero HB2.out HB2.out.size ?_; intro g3 w3 hg3 hk3 hb30 hb3 hs3)
                | (with_reducible refine st_row (w0 := w) w.heap.size rfl 39 (.tmp 9) _ rfl g3 _ rfl rfl 39 _ hk3 (opSize _) (op_sizes _ _) (op_one _) hb3 (Nat.le_trans HB2.out.size hg3) ?_
                   intro w4 hk4 hb4 hf4 hs4
                   clear hs4
                   obtain ⟨q0, q1, q2, q3, q4, q5⟩ := op_cells hk4)
                  )
              go_roundw
              case rel => exact ⟨i + 1, by omega, by omega, rfl, ⟨hb4⟩⟩
              case measure => simp [intOf]; omega
            · have d1 : decide (1 ≤ o.kind) = false := decide_eq_false h1
              have d3 : o.kind < 1 := by omega
              clear hin h1
              go_wp2_with (first
                | (refine ld_at rfl 39 (.tmp 27) rfl _ rfl o.cells HC.out _ Try.underlying39 rfl (opSize _) ?_)
                | (with_reducible refine al_step w.heap.size rfl 9 rfl 39 rfl _ opZero HB2.out HB2.out.size ?_; intro g3 w3 hg3 hk3 hb30 hb3 hs3)
                | (with_reducible refine st_row (w0 := w) w.heap.size rfl 39 (.tmp 9) _ rfl g3 _ rfl rfl 39 _ hk3 (opSize _) (op_sizes _ _) (op_one _) hb3 (Nat.le_trans HB2.out.size hg3) ?_
                   intro w4 hk4 hb4 hf4 hs4
                   clear hs4
                   obtain ⟨q0, q1, q2, q3, q4, q5⟩ := op_cells hk4)
                  )
              go_roundw
              case rel => exact ⟨i + 1, by omega, by omega, rfl, ⟨hb4⟩⟩
              case measure => simp [intOf]; omega
        · go_wp2
          go_ret
          exact ⟨rfl, HB2.out⟩

set_option maxHeartbeats 800000 in
theorem ip4All_true (A : Option Addr) (n c : Nat) (w : World) (hr : ScrR w A n) :
    Calls Try.prog 3 #[.slice A n c] w fun e w' => e = .returned (.bool true) ∧ Below w.heap.size w w' := by
  have HR := Sec.mk hr
  clear hr
  go_enter Try.func3, Try.ntmps3
  go_wp2_with (go_at_call 11; refine (upTo_true A n c _ HR.out).mono ?_; rintro e w1 ⟨rfl, hb1⟩)
  go_ret
  exact ⟨rfl, hb1⟩

end Go.Proofs.Ytdjldipiggfjdaa
