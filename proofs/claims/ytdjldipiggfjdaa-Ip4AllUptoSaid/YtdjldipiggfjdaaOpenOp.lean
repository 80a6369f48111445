/-
  LAYER 3's scripts, as they come in: from the form's reading to this seat's words. Conditions: the bound on the bulk.
-/
import Derived.Test.YtdjldipiggfjdaaOpen
import Derived.Test.YtdjldipiggfjdaaUpTo
namespace Go.Proofs.Ytdjldipiggfjdaa
open Go.RowKit Go.ChangeShapes Go.WideShapes Go.Deep
set_option linter.unusedVariables false
set_option linter.unusedSimpArgs false

section
variable {H : Type} {enc : TypeId × Value → H} {w : World} {base : Nat} {held : Bool}
theorem cells39 : Try.prog.cellsOf 39 = 17 := by kernel_rfl
set_option maxRecDepth 100000 in
/-- A step that came in. -/
theorem open_op {fuel : Nat} {cs : List Value} {x : DataW H × List MemPlace} (h : DataW.trod enc Try.prog w base (fun _ => true) held fuel 39 cs = some x) :
    ∃ o : OpV, cs = o.cells.toList ∧ (Rows.uptoBulk x.1 ≤ 1048576 → OpR w o) := by
  obtain ⟨xs, n, _, rfl, hcl, hxl, hf⟩ := DataW.trod_struct Try.underlying39 h
  rw [cells39] at hcl
  match cs, hcl with
  | [v0, v1, v2, v3, v4, v5, v6, v7, v8, v9, v10, v11, v12, v13, v14, v15, v16], _ =>
    match xs, hxl with
    | [y0, y1, y2, y3, y4, y5, y6], _ =>
      have h0 := hf 0 _ rfl
      have h1 := hf 1 _ rfl
      have h2 := hf 2 _ rfl
      have h3 := hf 3 _ rfl
      have h4 := hf 4 _ rfl
      have h5 := hf 5 _ rfl
      simp only [cells3, cells31, cells30, cells26, List.drop_zero, List.drop_succ_cons, List.take_succ_cons, List.take_zero, List.getElem?_cons_zero, List.getElem?_cons_succ] at h0 h1 h2 h3 h4 h5
      have h6 : DataW.trod enc Try.prog w base (fun _ => true) held n 37 [v6, v7, v8, v9, v10, v11, v12, v13, v14, v15, v16] = some y6 := by
        have this : DataW.trod enc Try.prog w base (fun _ => true) held n 37 ((List.drop 6 [v0, v1, v2, v3, v4, v5, v6, v7, v8, v9, v10, v11, v12, v13, v14, v15, v16]).take (Try.prog.cellsOf 37)) = [y0, y1, y2, y3, y4, y5, y6][6]? := hf 6 _ rfl
        rw [cells37] at this
        exact this
      obtain ⟨a0, e0, _, b0⟩ := DataW.trod_int Try.underlying3 h0
      obtain ⟨A, c, bytes, e1, l1, k1, r1⟩ := open_rd Try.underlying30 Try.underlying5 cells5 h1
      obtain ⟨PA, pc, parts, e2, l2, k2, f2, r2⟩ := open_rds Try.underlying26 Try.underlying30 Try.underlying5 cells30 cells5 h2
      obtain ⟨a3, e3, _, b3⟩ := DataW.trod_int Try.underlying31 h3
      obtain ⟨a4, e4, _, b4⟩ := DataW.trod_int Try.underlying31 h4
      obtain ⟨a5, e5, _, b5⟩ := DataW.trod_int Try.underlying31 h5
      obtain ⟨hd, HA, hc, BA, bc, body, e6, i6, l6, m6, k6, r6⟩ := open_packet h6
      have hb : Rows.uptoBulk y1.1 + Rows.uptoBulk y2.1 + Rows.uptoBulk y6.1 ≤ Rows.uptoBulk (DataW.agg (List.map (fun x => x.1) [y0, y1, y2, y3, y4, y5, y6])) := by
        simp only [List.map_cons, List.map_nil, Rows.uptoBulk, Rows.uptoBulkAll]
        omega
      injection e0 with e0; injection e1 with e1; injection e2 with e2; injection e3 with e3; injection e4 with e4; injection e5 with e5
      have ecs : [v0, v1, v2, v3, v4, v5] ++ [v6, v7, v8, v9, v10, v11, v12, v13, v14, v15, v16] = [.int .i64 a0, .slice A bytes.length c, .slice PA parts.length pc, .int .u16 a3, .int .u16 a4, .int .u16 a5] ++ (pcells hd HA hd.opts.length hc BA body.length bc).toList := by
        rw [e0, e1, e2, e3, e4, e5, e6]
      refine ⟨⟨a0, A, c, bytes, PA, pc, parts, a3, a4, a5, hd, HA, hc, BA, bc, body⟩, ecs, fun hs => ?_⟩
      have hs' := Nat.le_trans hb hs
      have := wf_u16 b3; have := wf_u16 b4; have := wf_u16 b5
      obtain ⟨q1, q2⟩ := r6 (by omega)
      exact ⟨r1 (by omega), l1, r2 (by omega), (by show parts.flatten.length ≤ _; omega), (by simp only []; omega), (by simp only []; omega), (by simp only []; omega), (by simp only []; omega), (by simp only []; omega), (by simp only []; omega), i6, q1, l6, q2, m6⟩
/-- A script that came in. -/
theorem open_script {fuel : Nat} {cs : List Value} {x : DataW H × List MemPlace} (h : DataW.trod enc Try.prog w base (fun _ => true) held fuel 22 cs = some x) :
    ∃ (A : Option Addr) (n c : Nat), cs = [.slice A n c] ∧ (Rows.uptoBulk x.1 ≤ 1048576 → ScrR w A n) := by
  rcases open_slice Try.underlying22 h with ⟨rfl, rfl⟩ | ⟨a, len, cap, m, n, D, Pl, rfl, hb, hl, hm, hmm, rfl, hx⟩
  · exact ⟨none, 0, 0, rfl, fun _ => ⟨by omega, fun i h0 h1 => by omega⟩⟩
  · simp only [if_true] at hmm
    subst hmm
    refine ⟨some a, len, m, rfl, fun hs => ?_⟩
    have hlen := bulk_len ((List.range len).map D)
    rw [List.length_map, List.length_range] at hlen
    have hs2 : Rows.uptoBulkAll ((List.range len).map D) ≤ 1048576 := by simp only [Rows.uptoBulk] at hs; omega
    refine ⟨by omega, fun i h0 h1 => ?_⟩
    obtain ⟨cs', hc, ht⟩ := hx i.toNat (by omega)
    obtain ⟨o, rfl, ho⟩ := open_op ht
    obtain ⟨_, hcl, hcell⟩ := World.cells?_some hc
    rw [cells39] at hc hcl hcell
    have hD := bulk_at D (show i.toNat < len by omega)
    refine ⟨a, o, rfl, fun j v hv => ?_, ho (by simp only []; omega)⟩
    have hj : j < 17 := by
      have := (List.getElem?_eq_some_iff.1 hv).1
      rw [hcl] at this
      exact this
    rw [hcell j hj, hv]
end

end Go.Proofs.Ytdjldipiggfjdaa
