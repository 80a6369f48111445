/-
  THE PLAIN SIDE OF LAYER 3 (what later pieces carry; a router's work): plain functions, and the law that reading, one less, building anew gives the bytes that are patched in place. Conditions: none; plain integers and lists.
-/
import Derived.Test.YtdjldipiggfjdaaBuildSpec
namespace Go.Proofs.Ytdjldipiggfjdaa
set_option linter.unusedVariables false

/-- What later pieces carry, from option i on. -/
def copyGo (o : List UInt8) : Nat → Int → List UInt8
  | 0, _ => []
  | n + 1, i => if i < 0 then [] else if i ≥ o.length then [] else (if rb o i ≥ 128 then (o.take (behindS o i).toNat).drop i.toNat else []) ++ copyGo o n (behindS o i)
/-- Zeros till the length is a multiple of four. -/
def pad4 (xs : List UInt8) : List UInt8 := xs ++ List.replicate ((4 - xs.length % 4) % 4) 0
theorem pad4_done (xs : List UInt8) (h : xs.length % 4 = 0) : pad4 xs = xs := by
  unfold pad4
  rw [h]
  simp
theorem pad4_step (xs : List UInt8) (h : xs.length % 4 ≠ 0) : pad4 (xs ++ [0]) = pad4 xs := by
  unfold pad4
  rw [List.length_append, List.append_assoc]
  congr 1
  obtain ⟨m, hm⟩ : ∃ m, (4 - xs.length % 4) % 4 = m + 1 := ⟨(4 - xs.length % 4) % 4 - 1, by omega⟩
  rw [show (4 - (xs.length + [(0 : UInt8)].length) % 4) % 4 = m from by simp; omega, hm, List.replicate_succ]
  rfl
theorem pad4_length (xs : List UInt8) : (pad4 xs).length ≤ xs.length + 3 := by
  unfold pad4
  rw [List.length_append, List.length_replicate]
  omega
def copiedE (o : List UInt8) : Int := if areaS o then 0 else 34
def copiedS (o : List UInt8) : List UInt8 := pad4 (copyGo o (o.length + 1) 0)

/-- One option further. -/
structure CopyAt (o : List UInt8) (n : Nat) (i : Int) (done : List UInt8) : Prop where
  area : areaGo o n i = true
  rest : done ++ copyGo o n i = copyGo o (o.length + 1) 0
  len : (done.length : Int) ≤ i
  lo : 0 ≤ i
  hi : i ≤ o.length
theorem CopyAt.start (o : List UInt8) (h : areaS o = true) : CopyAt o (o.length + 1) 0 [] := by
  refine ⟨?_, rfl, by simp, by omega, by omega⟩
  unfold areaS at h
  split at h
  · cases h
  · split at h
    · exact h
    · cases h
theorem CopyAt.end {o : List UInt8} {n : Nat} {i : Int} {done : List UInt8} (h : CopyAt o n i done) (hi : (o.length : Int) ≤ i) : copyGo o (o.length + 1) 0 = done := by
  rw [← h.rest]
  cases n with
  | zero => simp [copyGo]
  | succ n => rw [copyGo, if_neg (by have := h.lo; omega), if_pos (by omega), List.append_nil]
theorem CopyAt.pos {o : List UInt8} {n : Nat} {i : Int} {done : List UInt8} (h : CopyAt o n i done) (hi : i < o.length) : ∃ m, n = m + 1 ∧ areaGo o m (behindS o i) = true ∧ i < behindS o i ∧ behindS o i ≤ o.length := by
  have ha := h.area
  cases n with
  | zero => cases ha
  | succ n =>
    rw [areaGo, if_neg (by have := h.lo; omega), if_neg (by omega)] at ha
    refine ⟨n, rfl, ha, ?_⟩
    rcases behindS_or o i h.lo hi with hb | hb
    · rw [hb, behindS_neg] at ha
      cases ha
    · exact hb
theorem CopyAt.next {o : List UInt8} {n : Nat} {i : Int} {done : List UInt8} (h : CopyAt o n i done) (hi : i < o.length) : ∃ m, CopyAt o m (behindS o i) (done ++ if rb o i ≥ 128 then (o.take (behindS o i).toNat).drop i.toNat else []) := by
  obtain ⟨m, rfl, ha, h1, h2⟩ := h.pos hi
  have h0 := h.lo
  refine ⟨m, ha, ?_, ?_, by omega, h2⟩
  · rw [List.append_assoc, ← h.rest]
    congr 1
    symm
    simp only [copyGo]
    rw [if_neg (show ¬ i < 0 by omega), if_neg (show ¬ i ≥ o.length by omega)]
  · have hl := h.len
    rw [List.length_append]
    split
    · rw [List.length_drop, List.length_take]; omega
    · simp; omega
theorem CopyAt.zero {o : List UInt8} {n : Nat} {i : Int} {done : List UInt8} (h : CopyAt o n i done) (hi : i < o.length) (hz : rb o i = 0) : copyGo o (o.length + 1) 0 = done := by
  obtain ⟨m, hm, ha, h1, h2⟩ := h.pos hi
  obtain ⟨m', h'⟩ := h.next hi
  have hb : behindS o i = o.length := by
    revert h1
    unfold behindS
    rw [if_neg (show ¬ rb o i = 1 by omega), if_pos hz]
    split
    · intro _; rfl
    · intro h1; have := h.lo; omega
  have := h'.end (by omega)
  rw [this, if_neg (show ¬ rb o i ≥ 128 by omega), List.append_nil]
/-- The option at i, where it is neither the end's mark nor a filler. -/
theorem CopyAt.long {o : List UInt8} {n : Nat} {i : Int} {done : List UInt8} (h : CopyAt o n i done) (hi : i < o.length) (hz : rb o i ≠ 0) (h1 : rb o i ≠ 1) : i + 1 < o.length ∧ 2 ≤ rb o (i + 1) ∧ i + rb o (i + 1) ≤ o.length ∧ behindS o i = i + rb o (i + 1) := by
  obtain ⟨m, hm, ha, k1, k2⟩ := h.pos hi
  have h0 := h.lo
  revert k1 k2
  unfold behindS
  rw [if_neg h1, if_neg hz]
  split
  · intro k; omega
  · split
    · intro k; omega
    · split
      · intro k; omega
      · intro _ _
        exact ⟨by omega, by omega, by omega, rfl⟩
theorem CopyAt.nop {o : List UInt8} {n : Nat} {i : Int} {done : List UInt8} (h : CopyAt o n i done) (h1 : rb o i = 1) : behindS o i = i + 1 := by
  unfold behindS
  rw [if_pos h1]

/-! ### a router's work -/
/-- The error of Age. -/
def ageE (b : List UInt8) : Int := if parseE b true = 0 then (if rb b 8 ≤ 1 then 35 else 0) else parseE b true
/-- The header, one less to live. -/
def Hd.aged (h : Hd) : Hd := { h with ttl := h.ttl - 1 }
def ageS (b : List UInt8) : List UInt8 := buildS (hdS b).aged (bodyS b)

theorem u8_w2hi (b : List UInt8) (i : Int) : u8 (w2 b i / 256) = b.getD i.toNat 0 := by
  rw [← u8_rb]
  congr 1
  have := rb_lo b (i + 1)
  have := rb_hi b (i + 1)
  unfold w2
  omega
theorem u8_w2lo (b : List UInt8) (i : Int) : u8 (w2 b i % 256) = b.getD (i + 1).toNat 0 := by
  rw [← u8_rb]
  congr 1
  have := rb_lo b (i + 1)
  have := rb_hi b (i + 1)
  unfold w2
  omega
theorem w4_hiw (b : List UInt8) (i : Int) : w4 b i / 65536 = w2 b i := by
  have := w2_lo b (i + 2)
  have := w2_hi b (i + 2)
  unfold w4
  omega
theorem w4_low (b : List UInt8) (i : Int) : w4 b i % 65536 = w2 b (i + 2) := by
  have := w2_lo b (i + 2)
  have := w2_hi b (i + 2)
  unfold w4
  omega
theorem take20 (b : List UInt8) (h : 20 ≤ b.length) : b.take 20 = [b.getD 0 0, b.getD 1 0, b.getD 2 0, b.getD 3 0, b.getD 4 0, b.getD 5 0, b.getD 6 0, b.getD 7 0, b.getD 8 0, b.getD 9 0, b.getD 10 0, b.getD 11 0, b.getD 12 0, b.getD 13 0, b.getD 14 0, b.getD 15 0, b.getD 16 0, b.getD 17 0, b.getD 18 0, b.getD 19 0] := by
  apply List.ext_getElem
  · rw [List.length_take]; simp; omega
  · intro j h1 h2
    rw [List.getElem_take]
    have hj : j < 20 := by simpa using h2
    have e : ∀ k (hk : k < 20), b.getD k 0 = b[k]'(by omega) := fun k hk => by simp [List.getD_eq_getElem?_getD, List.getElem?_eq_getElem (show k < b.length by omega)]
    rcases (show j = 0 ∨ j = 1 ∨ j = 2 ∨ j = 3 ∨ j = 4 ∨ j = 5 ∨ j = 6 ∨ j = 7 ∨ j = 8 ∨ j = 9 ∨ j = 10 ∨ j = 11 ∨ j = 12 ∨ j = 13 ∨ j = 14 ∨ j = 15 ∨ j = 16 ∨ j = 17 ∨ j = 18 ∨ j = 19 by omega) with
      rfl | rfl | rfl | rfl | rfl | rfl | rfl | rfl | rfl | rfl | rfl | rfl | rfl | rfl | rfl | rfl | rfl | rfl | rfl | rfl <;> (symm; exact e _ (by omega))
/-- What parseE = 0 tells. -/
theorem parseE_zero {b : List UInt8} {whole : Bool} (h : parseE b whole = 0) : frontE b whole = 0 ∧ sumS (b.take (headS b).toNat) = 0 ∧ w2 b 6 / 32768 = 0 ∧ areaS (hdS b).opts = true ∧ pieceS (hdS b).off (w2 b 2 - headS b) (hdS b).mf = true := by
  unfold parseE at h
  repeat' split at h
  all_goals first | (refine ⟨by assumption, by assumption, by assumption, by assumption, by assumption⟩) | (exfalso; omega) | (exfalso; exact absurd h (by assumption))
/-- The first twenty bytes of a packet that was read, but for its life and its sum. -/
theorem hdr_read (b : List UInt8) (s v : Int) (h1 : 20 ≤ b.length) (h2 : rb b 0 / 16 = 4) (h3 : 20 ≤ headS b) (h4 : w2 b 6 / 32768 = 0) (hl : ((hdS b).opts.length : Int) = headS b - 20) :
    hdr { hdS b with ttl := v } (w2 b 2) s = (((b.take 20).set 8 (u8 v)).set 10 (u8 (s / 256))).set 11 (u8 (s % 256)) := by
  rw [take20 b h1]
  have e0 : u8 (69 + ((hdS b).opts.length : Int) / 4) = b.getD 0 0 := by
    have := u8_rb b 0
    rw [show (0 : Int).toNat = 0 from rfl] at this
    rw [← this]
    congr 1
    have h5 : headS b = 4 * (rb b 0 % 16) := rfl
    omega
  have e1 : u8 (rb b 1) = b.getD 1 0 := u8_rb b 1
  have e9 : u8 (rb b 9) = b.getD 9 0 := u8_rb b 9
  have f6 : fragW { hdS b with ttl := v } = w2 b 6 := by
    have g0 := w2_lo b 6
    show 8 * (w2 b 6 % 8192) / 8 + (if decide (w2 b 6 / 16384 % 2 = 1) = true then (16384 : Int) else 0) + (if decide (w2 b 6 / 8192 % 2 = 1) = true then (8192 : Int) else 0) = w2 b 6
    simp only [decide_eq_true_eq]
    split <;> split <;> omega
  unfold hdr
  rw [f6]
  show [u8 (69 + ((hdS b).opts.length : Int) / 4), u8 (rb b 1), u8 (w2 b 2 / 256), u8 (w2 b 2 % 256), u8 (w2 b 4 / 256), u8 (w2 b 4 % 256), u8 (w2 b 6 / 256), u8 (w2 b 6 % 256), u8 v, u8 (rb b 9), u8 (s / 256), u8 (s % 256),
   u8 (w4 b 12 / 65536 / 256), u8 (w4 b 12 / 65536 % 256), u8 (w4 b 12 % 65536 / 256), u8 (w4 b 12 % 65536 % 256), u8 (w4 b 16 / 65536 / 256), u8 (w4 b 16 / 65536 % 256), u8 (w4 b 16 % 65536 / 256), u8 (w4 b 16 % 65536 % 256)] = _
  rw [e0, e1, e9, w4_hiw, w4_hiw, w4_low, w4_low]
  simp only [u8_w2hi, u8_w2lo]
  rfl

theorem set_len {xs : List UInt8} {i : Nat} {v : UInt8} : (xs.set i v).length = xs.length := by simp
/-- The packet's bytes: the first twenty, the options, the body. -/
theorem take_parts (b : List UInt8) (t : Int) (h0 : 20 ≤ headS b) (h1 : headS b ≤ t) (h2 : t ≤ b.length) :
    b.take t.toNat = b.take 20 ++ ((b.take (headS b).toNat).drop 20 ++ (b.take t.toNat).drop (headS b).toNat) := by
  have e1 : (b.take t.toNat).take (headS b).toNat = b.take (headS b).toNat := by rw [List.take_take, Nat.min_eq_left (by omega)]
  have e2 : (b.take (headS b).toNat).take 20 = b.take 20 := by rw [List.take_take, Nat.min_eq_left (by omega)]
  rw [← List.append_assoc, ← e2, List.take_append_drop, ← e1, List.take_append_drop]
/-- What Age patches, before the sum: the first twenty bytes with one less to live. -/
def ageL (b : List UInt8) : List UInt8 := (b.take 20).set 8 (u8 (rb b 8 - 1))
theorem ageL_length (b : List UInt8) (h : 20 ≤ b.length) : (ageL b).length = 20 := by
  unfold ageL
  rw [List.length_set, List.length_take, Nat.min_eq_left h]
/-- A router's work is reading, one less, building anew. -/
theorem age_law (b : List UInt8) (h : parseE b true = 0) (s : Int)
    (hs : s = sumS ((ageL b).take 10 ++ ((ageL b ++ (hdS b).opts).drop 12))) :
    ((ageL b).set 10 (u8 (s / 256))).set 11 (u8 (s % 256)) ++ ((hdS b).opts ++ bodyS b) = ageS b := by
  obtain ⟨p1, p2, p3, p4, p5⟩ := parseE_zero h
  obtain ⟨f1, f2, f3, f4, f5, f6⟩ := frontE_ok p1
  have f6 := f6 rfl
  have hl : ((hdS b).opts.length : Int) = headS b - 20 := by
    show (((b.take (headS b).toNat).drop 20).length : Int) = _
    rw [List.length_drop, List.length_take]
    omega
  have hbl : ((bodyS b).length : Int) = w2 b 2 - headS b := by
    unfold bodyS
    rw [List.length_drop, List.length_take]
    omega
  have hn : (20 + ((hdS b).aged.opts.length : Int) + (bodyS b).length) = w2 b 2 := by
    show (20 + ((hdS b).opts.length : Int) + (bodyS b).length) = w2 b 2
    omega
  have hr := fun s => hdr_read b s (rb b 8 - 1) f1 f2 f3 p3 hl
  have ha : ∀ n s, hdr (hdS b).aged n s = hdr { hdS b with ttl := rb b 8 - 1 } n s := fun _ _ => rfl
  have hz := sum_skip (hdr (hdS b).aged (w2 b 2) 0 ++ (hdS b).opts) (by rw [List.getElem?_append_left (by rw [hdr_length]; omega)]; rfl) (by rw [List.getElem?_append_left (by rw [hdr_length]; omega)]; rfl)
  have e20 := take20 b f1
  have hL : ageL b = [b.getD 0 0, b.getD 1 0, b.getD 2 0, b.getD 3 0, b.getD 4 0, b.getD 5 0, b.getD 6 0, b.getD 7 0, u8 (rb b 8 - 1), b.getD 9 0, b.getD 10 0, b.getD 11 0, b.getD 12 0, b.getD 13 0, b.getD 14 0, b.getD 15 0, b.getD 16 0, b.getD 17 0, b.getD 18 0, b.getD 19 0] := by
    unfold ageL
    rw [e20]
    rfl
  have hss : s = sumS (hdr (hdS b).aged (w2 b 2) 0 ++ (hdS b).opts) := by
    rw [hs, ← hz]
    congr 1
    rw [ha, hr 0]
    unfold ageL
    rw [e20]
    rfl
  unfold ageS buildS headW
  rw [hn]
  show _ = hdr (hdS b).aged (w2 b 2) (sumS (hdr (hdS b).aged (w2 b 2) 0 ++ (hdS b).opts)) ++ (hdS b).opts ++ bodyS b
  rw [← hss, ha, hr s, List.append_assoc]
  rfl
theorem age_build (b : List UInt8) (h : parseE b true = 0) : buildE (hdS b).aged (bodyS b) = 0 := by
  obtain ⟨p1, p2, p3, p4, p5⟩ := parseE_zero h
  obtain ⟨f1, f2, f3, f4, f5, f6⟩ := frontE_ok p1
  have f6 := f6 rfl
  have hl : ((hdS b).opts.length : Int) = headS b - 20 := by
    show (((b.take (headS b).toNat).drop 20).length : Int) = _
    rw [List.length_drop, List.length_take]
    omega
  have hbl : ((bodyS b).length : Int) = w2 b 2 - headS b := by
    unfold bodyS
    rw [List.length_drop, List.length_take]
    omega
  have t1 := w2_hi b 2
  have e1 : areaS (hdS b).aged.opts = true := p4
  have e2 : pieceS (hdS b).aged.off ((bodyS b).length : Int) (hdS b).aged.mf = true := by rw [hbl]; exact p5
  have e3 : ¬ (20 + ((hdS b).aged.opts.length : Int) + (bodyS b).length) > 65535 := by
    show ¬ (20 + ((hdS b).opts.length : Int) + (bodyS b).length) > 65535
    omega
  unfold buildE
  rw [if_pos e1, if_pos e2, if_neg e3]

end Go.Proofs.Ytdjldipiggfjdaa
