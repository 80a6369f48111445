/-
  MEMORY WORDS, THIRD PART: slices of byte slices that are read (RDs). Conditions: none; plain lemmas over any program.
-/
import Derived.Test.YtdjldipiggfjdaaMemB
namespace Go.Proofs.Ytdjldipiggfjdaa
open Go.RowKit
set_option linter.unusedVariables false
set_option linter.unusedSimpArgs false

/-- Element i of a list of lists. -/
def ri (xss : List (List UInt8)) (i : Int) : List UInt8 := xss.getD i.toNat []
/-- A slice of byte slices that is read. -/
structure RDs (w : World) (A : Option Addr) (xss : List (List UInt8)) : Prop where
  len : xss.length ≤ 5864062014634
  get : ∀ i : Int, 0 ≤ i → i < xss.length → ∃ ad A1 c1, A = some ad ∧ w.cell? (ad.add i.toNat) = some (.slice A1 (ri xss i).length c1) ∧ (ri xss i).length ≤ c1 ∧ RD w A1 (ri xss i)
theorem RDs.nil (w : World) (A : Option Addr) : RDs w A [] := ⟨by simp, fun i h0 h1 => absurd h1 (by simp; omega)⟩
theorem RDs.below {w w' : World} {A : Option Addr} {xss : List (List UInt8)} (h : RDs w A xss) (hb : Below w.heap.size w w') : RDs w' A xss :=
  ⟨h.len, fun i h0 h1 => by
    obtain ⟨ad, A1, c1, e, hc, hl, hr⟩ := h.get i h0 h1
    exact ⟨ad, A1, c1, e, cell_below hb hc, hl, hr.below hb⟩⟩
theorem RDs.dr {w w' : World} {A : Option Addr} {xss : List (List UInt8)} (h : RDs w A xss) (hb : Dr w w') : RDs w' A xss := h.below hb.below
theorem RDs.drewN {w : World} {A : Option Addr} {xss : List (List UInt8)} (h : RDs w A xss) (m : Nat) : RDs (w.drewN m) A xss := h.dr ((Dr.refl _).step m)
theorem ri_at (xss : List (List UInt8)) (i : Int) (h0 : 0 ≤ i) (h : i < xss.length) : xss[i.toNat]? = some (ri xss i) := by
  have h1 : i.toNat < xss.length := by omega
  simp [ri, List.getD_eq_getElem?_getD, List.getElem?_eq_getElem h1]
theorem flat_take_succ (xss : List (List UInt8)) (i : Int) (h0 : 0 ≤ i) (h : i < xss.length) : (xss.take (i + 1).toNat).flatten = (xss.take i.toNat).flatten ++ ri xss i := by
  rw [show (i + 1).toNat = i.toNat + 1 from by omega, List.take_succ_eq_append_getElem (by omega), List.flatten_append]
  have h1 : i.toNat < xss.length := by omega
  simp [ri, List.getD_eq_getElem?_getD, List.getElem?_eq_getElem h1]
theorem flat_take_le (xss : List (List UInt8)) (n : Nat) : (xss.take n).flatten.length ≤ xss.flatten.length := by
  have : xss.flatten = (xss.take n).flatten ++ (xss.drop n).flatten := by rw [← List.flatten_append, List.take_append_drop]
  rw [this, List.length_append]
  omega
theorem take_rb (xs : List UInt8) (k : Int) (h0 : 0 ≤ k) (h : k < xs.length) : xs.take (k + 1).toNat = xs.take k.toNat ++ [u8 (rb xs k)] := by
  rw [u8_rb, show (k + 1).toNat = k.toNat + 1 from by omega, List.take_succ_eq_append_getElem (by omega)]
  have h1 : k.toNat < xs.length := by omega
  simp [List.getD_eq_getElem?_getD, List.getElem?_eq_getElem h1]
/-- A literal of byte slices, in a block of its own. -/
def sv (A : Option Addr) (n c : Nat) : Value := .slice A n c
theorem RDs.of_cells {w : World} {g : Nat} {cs : Array Value} {t : TypeId} {fr : Nat × Nat} (hg : w.heap[g]? = some (.cells cs t fr)) {xss : List (List UInt8)} (hl : xss.length ≤ 5864062014634)
    (h : ∀ i : Int, 0 ≤ i → i < xss.length → ∃ A1 c1, cs[i.toNat]? = some (.slice A1 (ri xss i).length c1) ∧ (ri xss i).length ≤ c1 ∧ RD w A1 (ri xss i)) : RDs w (some ⟨g, 0, none⟩) xss :=
  ⟨hl, fun i h0 h1 => by
    obtain ⟨A1, c1, hc, hle, hr⟩ := h i h0 h1
    exact ⟨_, A1, c1, rfl, by rw [addr_plain, cell_cells hg, Nat.zero_add]; exact hc, hle, hr⟩⟩

/-! ### cuts that are read, under names of their own -/
section
variable {P : Program}
theorem cut_lo {t e : TypeId} (ht : P.underlying t = some (.slice e)) (hinfo : (P.info? e).map (fun i => (i.zero, i.size, i.bytes)) = some (some (.int .u8 0), 1, 1)) {w : World} {A : Option Addr} {xs : List UInt8} {c : Nat} (hx : RD w A xs) (hc : xs.length ≤ c) (kl : IntKind) (l : Int) (h0 : 0 ≤ l) (h1 : l ≤ xs.length) :
    ∃ (B : Option Addr) (d : Nat) (ys : List UInt8), Sec (ys = xs.drop l.toNat) ∧ (ys.length : Int) = xs.length - l ∧ Sec (RD w B ys) ∧ ys.length ≤ d ∧
      ∀ W : World, (Instr.slice t (.slice A xs.length c) (some (.int kl l)) none none).run P W = .ok (.slice B ys.length d) W := by
  refine ⟨cutA A c l.toNat, c - l.toNat, xs.drop l.toNat, ⟨rfl⟩, by rw [List.length_drop]; omega, ⟨hx.drop_ _ _ hc⟩, by rw [List.length_drop]; omega, fun W => ?_⟩
  rw [run_cut_lo t e ht hinfo A xs.length c kl l h0 h1 W, List.length_drop]
theorem cut_hi {t e : TypeId} (ht : P.underlying t = some (.slice e)) (hinfo : (P.info? e).map (fun i => (i.zero, i.size, i.bytes)) = some (some (.int .u8 0), 1, 1)) {w : World} {A : Option Addr} {xs : List UInt8} {c : Nat} (hx : RD w A xs) (hc : xs.length ≤ c) (kh : IntKind) (h : Int) (h0 : 0 ≤ h) (h1 : h ≤ xs.length) :
    ∃ (ys : List UInt8), Sec (ys = xs.take h.toNat) ∧ (ys.length : Int) = h ∧ Sec (RD w A ys) ∧ ys.length ≤ c ∧
      ∀ W : World, (Instr.slice t (.slice A xs.length c) none (some (.int kh h)) none).run P W = .ok (.slice A ys.length c) W := by
  refine ⟨xs.take h.toNat, ⟨rfl⟩, by rw [List.length_take]; omega, ⟨hx.take_ _⟩, by rw [List.length_take]; omega, fun W => ?_⟩
  rw [run_cut_hi t e ht hinfo A xs.length c kh h h0 (by omega) W, List.length_take, show min h.toNat xs.length = h.toNat from by omega]
theorem cut_lohi {t e : TypeId} (ht : P.underlying t = some (.slice e)) (hinfo : (P.info? e).map (fun i => (i.zero, i.size, i.bytes)) = some (some (.int .u8 0), 1, 1)) {w : World} {A : Option Addr} {xs : List UInt8} {c : Nat} (hx : RD w A xs) (hc : xs.length ≤ c) (kl kh : IntKind) (l h : Int) (h0 : 0 ≤ l) (h1 : l ≤ h) (h2 : h ≤ xs.length) :
    ∃ (B : Option Addr) (d : Nat) (ys : List UInt8), Sec (ys = (xs.take h.toNat).drop l.toNat) ∧ (ys.length : Int) = h - l ∧ Sec (RD w B ys) ∧ ys.length ≤ d ∧
      ∀ W : World, (Instr.slice t (.slice A xs.length c) (some (.int kl l)) (some (.int kh h)) none).run P W = .ok (.slice B ys.length d) W := by
  refine ⟨cutA A c l.toNat, c - l.toNat, (xs.take h.toNat).drop l.toNat, ⟨rfl⟩, by rw [List.length_drop, List.length_take]; omega, ⟨(hx.take_ _).drop_ _ _ (by rw [List.length_take]; omega)⟩, by rw [List.length_drop, List.length_take]; omega, fun W => ?_⟩
  rw [run_cut_lohi t e ht hinfo A xs.length c kl kh l h h0 h1 (by omega) W, List.length_drop, List.length_take, show min h.toNat xs.length = h.toNat from by omega]
end
theorem Own.fr {S : Nat → Nat → Prop} {e : TypeId} {w w' : World} {base : Nat} {A : Option Addr} {c : Nat} {xs : List UInt8} (h : Own e w base A c xs) (hf : Fr S w w') (hn : ∀ ad, A = some ad → ∀ o, ad.off ≤ o → o < ad.off + xs.length → ¬ S ad.block o) : Own e w' base A c xs := by
  cases h with
  | nil => exact .nil
  | win g off c xs hb hw hl => exact .win g off c xs hb (hw.fr hf fun o h1 h2 => hn _ rfl o h1 h2) hl

/-- A part of a window. -/
theorem Win.sub {e : TypeId} {w : World} {g off c : Nat} {xs : List UInt8} (h : Win e w g off c xs) (k c' : Nat) (ys : List UInt8) (hk : k + c' ≤ c) (hm : ys.length ≤ c') (hy : ∀ j, j < ys.length → xs[k + j]? = ys[j]?) : Win e w g (off + k) c' ys := by
  obtain ⟨cur, h1, h2, h3⟩ := h.blk
  have hmax := h.max
  refine ⟨⟨cur, h1, by omega, fun j u hu => ?_⟩, hm, by omega⟩
  have hj := (bv_some _ j u hu).1
  rw [Nat.add_assoc]
  refine h3 (k + j) u ?_
  rw [← hu]
  simp only [bv, List.getElem?_map, hy j hj]
/-- Two slices of the call's own with no room in common. -/
def Apart (A1 : Option Addr) (c1 : Nat) (A2 : Option Addr) (c2 : Nat) : Prop := ∀ a1 a2, A1 = some a1 → A2 = some a2 → a1.block ≠ a2.block ∨ a1.off + c1 ≤ a2.off ∨ a2.off + c2 ≤ a1.off
theorem over_zero (n : Nat) (ys : List UInt8) (h : ys.length ≤ n) : over (List.replicate n 0) 0 ys = ys ++ List.replicate (n - ys.length) 0 := by
  simp [over]
theorem over_mid (xs ys : List UInt8) (n : Nat) (h : ys.length ≤ n) : over (xs ++ List.replicate n 0) xs.length ys = xs ++ ys ++ List.replicate (n - ys.length) 0 := by
  unfold over
  rw [List.take_left, List.drop_append, List.drop_of_length_le (by omega), show xs.length + ys.length - xs.length = ys.length from by omega, List.drop_replicate]
  rfl

end Go.Proofs.Ytdjldipiggfjdaa
