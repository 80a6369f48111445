/-
  A REGION THAT DRAWS ITS ORDER, IN WHICH QUIET OPERATIONS (loads, reslicings, arithmetic, callees that only read or make memory of their own and hand back ONE value) STAND BESIDE A CALL THAT MAKES MEMORY: the quiet ones may be taken first. 'Drift': the world may grow between any two operations, nothing that stood is touched. Conditions: the closed Bools of wpD_take.
-/
import Derived.OrdersHeld
import Derived.StillTail
import Derived.Deep.QuietTactic
import Derived.Test.YtdjldipiggfjdaaBlkM
namespace Go.Proofs.Ytdjldipiggfjdaa
open Go.RowKit
section
variable {P : Program} {ops : Array Oper} {Q : Exit → Act → World → Prop} {md : Region.Mode} {S : World → Prop}

/-- The world has grown; nothing that stood in it is touched. -/
def Grew (w w' : World) : Prop := Below w.heap.size w w'
theorem Grew.refl (w : World) : Grew w w := Below.refl _ _
theorem Grew.trans {a b c : World} (h : Grew a b) (k : Grew b c) : Grew a c := below_on h k

/-- In every world that meets S the operation leaves v, and a world that has only grown. -/
def YieldsD (P : Program) (ops : Array Oper) (S : World → Prop) (o : Oper) (v : Value) (a : Act) : Prop :=
  Region.wanted o (yielded ops a.tmps) = true ∧ ∀ w, S w → o.quietAt P a (Grew w) w v

theorem YieldsD.step {i : Nat} {o : Oper} {v : Value} {a : Act} {K : Act → World → Prop} {w : World} (hi : ops[i]? = some o) (hy : YieldsD P ops S o v a) (hS : S w) (hK : ∀ w', Grew w w' → K (a.put o.dst v) w') : wpOp P ops Q i K a w := by
  have h := hy.2 w hS
  unfold wpOp
  simp only [hi, hy.1, if_true]
  refine .inl ?_
  unfold Oper.quietAt at h
  unfold Oper.wp
  generalize (execOp a.eval o).run P w = r at h
  match r, h with
  | .ok (.value u) w', h =>
    obtain ⟨rfl, rfl⟩ := h
    exact hK _ (Grew.refl _)
  | .ok .skip w', h =>
    obtain ⟨rfl, rfl⟩ := h
    exact hK _ (Grew.refl _)
  | .ok (.enter f args) w', h =>
    obtain ⟨rfl, hc⟩ := h
    refine hc.mono fun e w'' he => ?_
    obtain ⟨rfl, hg⟩ := he
    exact hK _ hg
theorem YieldsD.moved {o : Oper} {v : Value} {a a' : Act} (hy : YieldsD P ops S o v a) (he : execOp a'.eval o = execOp a.eval o) (hw : Region.wanted o (yielded ops a'.tmps) = Region.wanted o (yielded ops a.tmps)) : YieldsD P ops S o v a' := by
  refine ⟨hw.trans hy.1, fun w hS => ?_⟩
  have h := hy.2 w hS
  unfold Oper.quietAt at h ⊢
  rwa [he]

/-- Another operation does not mind whether the quiet one's value lies in its slot, and does not disturb it. -/
theorem wpOp_beside {j : Nat} {oi oj : Oper} {v : Value} (hj : ops[j]? = some oj) (hap : oi.apart ops oj = true) (hsi : ∀ cs b, oi.op ≠ .select cs b) (hsj : ∀ cs b, oj.op ≠ .select cs b)
    (hQ : ∀ c a w, Q (.panic c) (a.put oi.dst v) w → Q (.panic c) a w) {K : Act → World → Prop} {a : Act} {w : World} (hy : YieldsD P ops S oi v a) (h : wpOp P ops Q j K (a.put oi.dst v) w) :
    wpOp P ops Q j (fun a' w' => YieldsD P ops S oi v a' ∧ K (a'.put oi.dst v) w') a w := by
  obtain ⟨p1, p2, p3⟩ := Oper.apart_spec hap
  have stay : ∀ b, YieldsD P ops S oi v b → ∀ u, YieldsD P ops S oi v (b.put oj.dst u) := fun b hb u => hb.moved (execOp_put oi hsi b oj.dst u p3) (wanted_put oi b oj.dst u p3)
  have swap : ∀ u, (a.put oi.dst v).put oj.dst u = (a.put oj.dst u).put oi.dst v := fun u => Act.put_comm a v u p2
  unfold wpOp at h ⊢
  simp only [hj] at h ⊢
  rw [wanted_put oj a oi.dst v p1] at h
  by_cases hw : Region.wanted oj (yielded ops a.tmps) = true
  · rw [if_pos hw] at h ⊢
    rcases h with h | ⟨h1, h2⟩
    · left
      unfold Oper.wp at h ⊢
      rw [execOp_put oj hsj a oi.dst v p1] at h
      generalize (execOp a.eval oj).run P w = r at h ⊢
      match r, h with
      | .ok (.value u) w', h => exact ⟨stay a hy u, swap u ▸ h⟩
      | .ok .skip w', h => exact ⟨stay a hy undef, swap undef ▸ h⟩
      | .ok (.defer d) w', h =>
        refine ⟨stay { a with defers := d :: a.defers } (YieldsD.moved hy rfl rfl) undef, ?_⟩
        rw [← Act.put_comm _ v undef p2, ← Act.put_defers]
        exact h
      | .ok (.enter f args) w', h =>
        refine Calls.mono h fun e w'' he => ?_
        match e, he with
        | .returned u, he => exact ⟨stay a hy u, swap u ▸ he⟩
        | .panicked c, he => exact hQ _ _ _ he
        | .outgrown, he => exact he
      | .ok (.row row args) w', h => exact Rows.mono h fun u w'' he => ⟨stay a hy u, swap u ▸ he⟩
      | .halt (.panic u) w', h => exact hQ _ _ _ h
    · right
      refine ⟨?_, h2⟩
      unfold Oper.asks at h1 ⊢
      rwa [execOp_put oj hsj a oi.dst v p1] at h1
  · rw [if_neg hw] at h ⊢
    exact ⟨stay a hy _, swap _ ▸ h⟩

/-- Whatever order is picked, the world growing as it likes in between; S holds behind every operation. -/
def wpD (P : Program) (md : Region.Mode) (ops : Array Oper) (Q : Exit → Act → World → Prop) (S : World → Prop) : Nat → Array Bool → Act → World → Prop
  | 0, listed, a, w => Region.ready md ops listed = [] ∧ ∀ w1, Grew w w1 → Q .normal a w1
  | f + 1, listed, a, w => ∀ w1, Grew w w1 → (Region.ready md ops listed = [] → Q .normal a w1) ∧
      ∀ i ∈ Region.ready md ops listed, wpOp P ops Q i (fun a' w' => S w' ∧ wpD P md ops Q S f (listed.setIfInBounds i true) a' w') a w1
theorem wpD.grew : ∀ {f : Nat} {listed : Array Bool} {a : Act} {w w' : World}, wpD P md ops Q S f listed a w → Grew w w' → wpD P md ops Q S f listed a w'
  | 0, _, _, _, _, h, k => ⟨h.1, fun w1 h1 => h.2 w1 (k.trans h1)⟩
  | _ + 1, _, _, _, _, h, k => fun w1 h1 => h w1 (k.trans h1)
theorem wpD.any : ∀ (f : Nat) (listed : Array Bool) (a : Act) (w : World), wpD P md ops Q S f listed a w → wpAny P md ops Q f listed a w
  | 0, _, _, w, h => ⟨h.1, h.2 w (Grew.refl w)⟩
  | f + 1, _, _, w, h => ⟨(h w (Grew.refl w)).1, fun i hi => wpOp_mono (fun a' w' h' => wpD.any f _ a' w' h'.2) ((h w (Grew.refl w)).2 i hi)⟩

theorem wpD_first {i : Nat} {oi : Oper} {v : Value} (hi : ops[i]? = some oi) (hsel : ∀ (j : Nat) (o : Oper) cs b, ops[j]? = some o → o.op ≠ .select cs b) (hQ : ∀ c a w, Q (.panic c) (a.put oi.dst v) w → Q (.panic c) a w)
    (hSg : ∀ w w', S w → Grew w w' → S w') : ∀ (f : Nat) (listed : Array Bool) (a : Act) (w : World),
      (∀ j oj, ops[j]? = some oj → j ≠ i → listed.getD j true = false → (∀ e ∈ oj.after, Region.binds md e = true → e.on ≠ i) → oi.apart ops oj = true) →
      i ∈ Region.ready md ops listed → YieldsD P ops S oi v a → S w → wpD P md ops Q S f (listed.setIfInBounds i true) (a.put oi.dst v) w → wpD P md ops Q S (f + 1) listed a w
  | 0, listed, a, w, _, hr, hy, hS, H => fun w1 h1 => by
    refine ⟨fun h => (by rw [h] at hr; cases hr), fun j hj => ?_⟩
    by_cases hji : j = i
    · subst hji
      exact hy.step hi (hSg _ _ hS h1) fun w' hw' => ⟨hSg _ _ (hSg _ _ hS h1) hw', H.1, fun w2 h2 => H.2 w2 (h1.trans (hw'.trans h2))⟩
    · have := ready_mono hj hji
      rw [H.1] at this
      cases this
  | f + 1, listed, a, w, hfree, hr, hy, hS, H => fun w1 h1 => by
    refine ⟨fun h => (by rw [h] at hr; cases hr), fun j hj => ?_⟩
    have hS1 := hSg _ _ hS h1
    by_cases hji : j = i
    · subst hji
      exact hy.step hi hS1 fun w' hw' => ⟨hSg _ _ hS1 hw', H.grew (h1.trans hw')⟩
    · have g1 := (H w1 h1).2 j (ready_mono hj hji)
      obtain ⟨hjun, oj, hoj, hall⟩ := mem_ready.1 hj
      have hir := mem_ready.1 hr
      have hnot : ∀ e ∈ oj.after, Region.binds md e = true → e.on ≠ i := fun e he hb heq => by
        have k1 := hall e he hb
        rw [heq, getD_both hir.1] at k1
        cases k1
      have g2 := wpOp_beside hoj (hfree j oj hoj hji hjun hnot) (fun cs b => hsel i oi cs b hi) (fun cs b => hsel j oj cs b hoj) hQ hy g1
      refine wpOp_mono (fun a' w' g3 => ⟨g3.2.1, wpD_first hi hsel hQ hSg f (listed.setIfInBounds j true) a' w' (fun k ok hk hki hun hno => hfree k ok hk hki ?_ hno) (ready_mono hr (Ne.symm hji)) g3.1 g3.2.1 ?_⟩) g2
      · by_cases hjk : j = k
        · subst hjk; exact hjun
        · rwa [getD_set_ne true hjk] at hun
      · rw [Array.setIfInBounds_comm _ _ hji]
        exact g3.2.2

/-- Number i is taken first. -/
theorem wpD_take {i : Nat} {oi : Oper} {v : Value} {f : Nat} {listed : Array Bool} {a : Act} {w : World} (hi : ops[i]? = some oi) (hs : Region.noSelect ops = true) (hf : Region.free md ops listed i = true) (hr : (Region.ready md ops listed).contains i = true)
    (hQ : ∀ c a w, Q (.panic c) (a.put oi.dst v) w → Q (.panic c) a w) (hSg : ∀ w w', S w → Grew w w' → S w') (hS : S w) (hy : YieldsD P ops S oi v a)
    (h : wpD P md ops Q S f (listed.setIfInBounds i true) (a.put oi.dst v) w) : wpD P md ops Q S (f + 1) listed a w :=
  wpD_first hi (Region.noSelect_spec hs) hQ hSg f listed a w (Region.free_spec hi hf) (by simpa using hr) hy hS h
/-- Number k alone may come up, and it is no quiet one. -/
theorem wpD_one {k : Nat} {o : Oper} {f : Nat} {listed : Array Bool} {a : Act} {w : World} (ho : ops[k]? = some o) (hr : Region.ready md ops listed = [k]) (hw : Region.wanted o (yielded ops a.tmps) = true)
    (h : ∀ w1, Grew w w1 → ∀ K : Act → World → Prop, (∀ a' w', S w' → wpD P md ops Q S f (listed.setIfInBounds k true) a' w' → K a' w') → o.wp P a w1 K Q) : wpD P md ops Q S (f + 1) listed a w := fun w1 h1 => by
  refine ⟨fun h0 => (by rw [h0] at hr; cases hr), fun i hi => ?_⟩
  rw [hr] at hi
  obtain rfl : i = k := by simpa using hi
  unfold wpOp
  simp only [ho, hw, if_true]
  exact .inl (h w1 h1 _ fun a' w' hS hd => ⟨hS, hd⟩)
theorem wpD_done {f : Nat} {listed : Array Bool} {a : Act} {w : World} (hr : Region.ready md ops listed = []) (h : ∀ w1, Grew w w1 → Q .normal a w1) : wpD P md ops Q S f listed a w := by
  cases f with
  | zero => exact ⟨hr, h⟩
  | succ f => exact fun w1 h1 => ⟨fun _ => h w1 h1, by rw [hr]; simp⟩
/-- The begin. -/
theorem wp_region_drift {id : Nat} {a : Act} {w : World} (S : World → Prop) (hm : P.follows .mixedOrders = true) (h : wpD P .any ops Q S ops.size (Array.replicate ops.size false) a { w with drawn := w.drawn + 1 }) : (Code.region id ops true).wp P Q a w :=
  wp_region_any hm (wpD.any _ _ _ _ h)
theorem al_own {rest : List Oper} {o : Oper} {a : Act} {w0 W : World} (hgd : o.guard = none) (n : Tmp) (hd : o.dst = some n) (ty : TypeId) (ho : o.op = .alloc ty) (cs : Array Value) (hz : (P.info? ty).map (·.zero) = some (some (.agg cs))) (HB : Below w0.heap.size w0 W)
    (h : ∀ g w1, W.heap.size ≤ g → Blk w1 g ty cs → Below W.heap.size W w1 → Below w0.heap.size w0 w1 → W.heap.size < w1.heap.size → wpList P ops Q rest (a.put o.dst (.pointer (some ⟨g, 0, none⟩))) w1) : wpList P ops Q (o :: rest) a W :=
  al_step w0.heap.size hgd n hd ty ho cs hz HB HB.size h
/-- A store into a block of the call's own, at 'Oper.wp'. -/
theorem st_mid_wp {o : Oper} {a : Act} {W : World} {K : Act → World → Prop} {Q' : Exit → Act → World → Prop} (ty : TypeId) (x y : Operand) (ho : o.op = .store ty x y) (g off : Nat) (v : Value) (hx : a.eval x = .pointer (some ⟨g, off, none⟩)) (hy : a.eval y = v)
    (t : TypeId) (cs cs' : Array Value) (hg : Blk W g t cs) (hoff : off + v.cells.size ≤ cs.size) (hi : (P.info? ty).map (·.size) = some v.cells.size) (h1 : v.cells.all (·.oneCell') = true) (hcs : laidAt cs off v.cells.toList = cs')
    (h : ∀ w1, Blk w1 g t cs' → Fr (fun k _ => k = g) W w1 → (∀ base w0, Below base w0 W → base ≤ g → Below base w0 w1) → K (a.put o.dst undef) w1) : o.wp P a W K Q' := by
  unfold Oper.wp execOp
  simp only [ho, hx, hy, Instr.storeAt, Instr.sureAddr, Sem.run_bind, Sem.run_pure, Result.andThen_ok, run_stv ty g off v t cs hg.out hoff hi h1, hcs]
  refine h _ ⟨setRow_heap W g cs cs' t (0, 0) hg.out⟩ (fr_row hg.out ?_) fun base w0 HB hbg => below_setRow HB hbg _
  rw [← hcs]
  unfold laidAt
  simp
  omega
theorem cell_under {g : Nat} {w w1 : World} (h : Below g w w1) {a : Addr} {v : Value} (hc : w.cell? a = some v) (hg : a.block < g) : w1.cell? a = some v := (h.cell hg).trans hc
end
end Go.Proofs.Ytdjldipiggfjdaa
