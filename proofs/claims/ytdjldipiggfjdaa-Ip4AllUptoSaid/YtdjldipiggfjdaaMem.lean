/-
  MEMORY WORDS OF THIS SEAT's PROOFS: byte slices that are read (RD), byte slices in memory of the call's own (Own: a window of a block), frames by cells (Fr), and the laws of append, make, copy and slicing over them. Conditions: none; plain lemmas over any program.
-/
import Derived.WalkKit
import Derived.KernelRfl
import Derived.Deep.QuietTactic
import Derived.BigQuiet
import Derived.Deep.Draws
import Derived.Laws.CopyOwn
import Derived.Laws.Slices
import Derived.Maps.AppendAt
import Derived.Deep.AppendLies
namespace Go.Proofs.Ytdjldipiggfjdaa
open Go.RowKit
set_option linter.unusedVariables false
set_option linter.unusedSimpArgs false

/-- A fact that the walk does not look into. -/
structure Sec (p : Prop) : Prop where mk :: (out : p)

/-! ### bytes -/
def rb (xs : List UInt8) (i : Int) : Int := ((xs.getD i.toNat 0).toNat : Int)
theorem rb_lo (xs : List UInt8) (i : Int) : 0 ≤ rb xs i := by unfold rb; omega
theorem rb_hi (xs : List UInt8) (i : Int) : rb xs i ≤ 255 := by unfold rb; have := (xs.getD i.toNat 0).toNat_lt; omega
/-- The byte of a number. -/
def u8 (y : Int) : UInt8 := UInt8.ofNat (y % 256).toNat
theorem u8_val (y : Int) : ((u8 y).toNat : Int) = y % 256 := by
  unfold u8
  rw [UInt8.toNat_ofNat']
  omega
theorem u8_val' (y : Int) (h0 : 0 ≤ y) (h1 : y ≤ 255) : ((u8 y).toNat : Int) = y := by rw [u8_val]; omega
theorem u8_rb (xs : List UInt8) (i : Int) : u8 (rb xs i) = xs.getD i.toNat 0 := by
  apply UInt8.toNat_inj.1
  have h := u8_val' (rb xs i) (rb_lo _ _) (rb_hi _ _)
  unfold rb at h ⊢
  omega
/-- The values of bytes. -/
def bv (xs : List UInt8) : List Value := xs.map fun b => .int .u8 (b.toNat : Int)
theorem bv_length (xs : List UInt8) : (bv xs).length = xs.length := by simp [bv]
theorem bv_append (xs ys : List UInt8) : bv (xs ++ ys) = bv xs ++ bv ys := by simp [bv]
theorem bv_get (xs : List UInt8) (j : Nat) (h : j < xs.length) : (bv xs)[j]? = some (.int .u8 (rb xs j)) := by
  simp [bv, rb, List.getElem?_eq_getElem h, List.getD_eq_getElem?_getD]
theorem bv_one (xs : List UInt8) : ∀ u ∈ bv xs, u.oneCell' = true := by
  intro u hu
  simp only [bv, List.mem_map] at hu
  obtain ⟨b, _, rfl⟩ := hu
  rfl
theorem bv_some (xs : List UInt8) (j : Nat) (u : Value) (h : (bv xs)[j]? = some u) : j < xs.length ∧ u = .int .u8 (rb xs j) := by
  have hj : j < xs.length := by
    have := (List.getElem?_eq_some_iff.1 h).1
    rwa [bv_length] at this
  rw [bv_get xs j hj] at h
  exact ⟨hj, (Option.some.inj h).symm⟩
theorem rb_append_left (xs ys : List UInt8) (i : Int) (h0 : 0 ≤ i) (h : i < xs.length) : rb (xs ++ ys) i = rb xs i := by
  unfold rb
  rw [List.getD_eq_getElem?_getD, List.getD_eq_getElem?_getD, List.getElem?_append_left (by omega)]
theorem rb_append_right (xs ys : List UInt8) (i : Int) (h : xs.length ≤ i) : rb (xs ++ ys) i = rb ys (i - xs.length) := by
  unfold rb
  rw [List.getD_eq_getElem?_getD, List.getD_eq_getElem?_getD, List.getElem?_append_right (by omega), show (i - xs.length).toNat = i.toNat - xs.length from by omega]
theorem rb_drop (xs : List UInt8) (k i : Int) (h0 : 0 ≤ k) (h1 : 0 ≤ i) : rb (xs.drop k.toNat) i = rb xs (k + i) := by
  unfold rb
  rw [List.getD_eq_getElem?_getD, List.getD_eq_getElem?_getD, List.getElem?_drop, show (k + i).toNat = k.toNat + i.toNat from by omega]
theorem rb_take (xs : List UInt8) (k i : Int) (h1 : i < k) (h0 : 0 ≤ i) : rb (xs.take k.toNat) i = rb xs i := by
  unfold rb
  rw [List.getD_eq_getElem?_getD, List.getD_eq_getElem?_getD, List.getElem?_take, if_pos (by omega)]
theorem list_rb_ext {xs ys : List UInt8} (hl : xs.length = ys.length) (h : ∀ i : Int, 0 ≤ i → i < xs.length → rb xs i = rb ys i) : xs = ys := by
  apply List.ext_getElem hl
  intro j h1 h2
  have := h j (by omega) (by omega)
  simp only [rb, Int.toNat_natCast, List.getD_eq_getElem?_getD, List.getElem?_eq_getElem h1, List.getElem?_eq_getElem h2, Option.getD_some] at this
  exact UInt8.toNat_inj.1 (by omega)

/-! ### addresses -/
theorem addr_block (a : Addr) (n : Nat) : (a.add n).block = a.block := by unfold Addr.add; split <;> rfl
theorem addr_add (a : Addr) (i j : Nat) : (a.add i).add j = a.add (i + j) := by
  unfold Addr.add
  by_cases hi : i = 0 <;> by_cases hj : j = 0 <;> simp [hi, hj, Nat.add_assoc]
theorem addr_plain (g o j : Nat) : (⟨g, o, none⟩ : Addr).add j = ⟨g, o + j, none⟩ := by unfold Addr.add; split <;> simp_all

/-! ### worlds: what a step has turned -/
/-- The old world, some orders having been drawn. -/
structure Dr (w w' : World) : Prop where mk :: (out : ∃ m, w' = w.drewN m)
theorem Dr.refl (w : World) : Dr w w := ⟨⟨0, rfl⟩⟩
theorem Dr.step {w w' : World} (h : Dr w w') (m : Nat) : Dr w (w'.drewN m) := by
  obtain ⟨k, rfl⟩ := h
  exact ⟨⟨k + m, World.drewN_drewN ..⟩⟩
theorem Dr.trans {a b c : World} (h : Dr a b) (k : Dr b c) : Dr a c := by
  obtain ⟨m, rfl⟩ := k
  exact h.step m
theorem below_drewN {B : Nat} {a w : World} (h : Below B a w) (n : Nat) : Below B a (w.drewN n) := ⟨h.os, h.tape, h.output, h.size, h.block⟩
theorem Dr.below {w w' : World} (h : Dr w w') : Below w.heap.size w w' := by
  obtain ⟨m, rfl⟩ := h
  exact below_drewN (Below.refl _ _) m
theorem below_then {B : Nat} {w w1 w2 : World} (h : Below B w w1) (hB : B ≤ w1.heap.size) (k : Below w1.heap.size w1 w2) : Below B w w2 := h.trans (k.mono hB)
/-- From the call's own begin on. -/
theorem below_on {w w1 w2 : World} (h : Below w.heap.size w w1) (k : Below w1.heap.size w1 w2) : Below w.heap.size w w2 := below_then h h.size k
theorem below_new {w w1 : World} (h : Below w.heap.size w w1) (o : Obj) : Below w.heap.size w (w1.alloc o) := h.alloc h.size o
theorem cell_below {w w1 : World} (h : Below w.heap.size w w1) {a : Addr} {v : Value} (hc : w.cell? a = some v) : w1.cell? a = some v := (h.cell (World.block_lt_of_cell? w a hc)).trans hc

/-- All old cells but those of S are as they were; the blocks are of the same make. -/
structure Fr (S : Nat → Nat → Prop) (w w' : World) : Prop where
  os : w'.os = w.os
  tape : w'.tape = w.tape
  output : w'.output = w.output
  size : w.heap.size ≤ w'.heap.size
  keep : ∀ k, k < w.heap.size → (∀ o, ¬ S k o) → w'.heap[k]? = w.heap[k]?
  part : ∀ k cs t fr, w.heap[k]? = some (.cells cs t fr) → ∃ cs', w'.heap[k]? = some (.cells cs' t fr) ∧ cs'.size = cs.size ∧ ∀ o, ¬ S k o → cs'[o]? = cs[o]?
theorem lt_of_obj {w : World} {k : Nat} {o : Obj} (h : w.heap[k]? = some o) : k < w.heap.size := (Array.getElem?_eq_some_iff.1 h).1
theorem Fr.of_below {w w' : World} (h : Below w.heap.size w w') (S : Nat → Nat → Prop) : Fr S w w' :=
  ⟨h.os, h.tape, h.output, h.size, fun k hk _ => h.block k hk, fun k cs t fr hk => ⟨cs, (h.block k (lt_of_obj hk)).trans hk, rfl, fun _ _ => rfl⟩⟩
theorem Fr.refl (S : Nat → Nat → Prop) (w : World) : Fr S w w := Fr.of_below (Below.refl _ _) S
theorem Fr.mono {S S' : Nat → Nat → Prop} {w w' : World} (h : Fr S w w') (hS : ∀ k o, k < w.heap.size → S k o → S' k o) : Fr S' w w' :=
  ⟨h.os, h.tape, h.output, h.size, fun k hk hn => h.keep k hk fun o ho => hn o (hS k o hk ho), fun k cs t fr hk => by
    obtain ⟨cs', h1, h2, h3⟩ := h.part k cs t fr hk
    exact ⟨cs', h1, h2, fun o ho => h3 o fun hs => ho (hS k o (lt_of_obj hk) hs)⟩⟩
theorem Fr.trans {S : Nat → Nat → Prop} {a b c : World} (h : Fr S a b) (k : Fr S b c) : Fr S a c :=
  ⟨k.os.trans h.os, k.tape.trans h.tape, k.output.trans h.output, Nat.le_trans h.size k.size, fun i hi hn => (k.keep i (Nat.lt_of_lt_of_le hi h.size) hn).trans (h.keep i hi hn), fun i cs t fr hi => by
    obtain ⟨cs1, h1, h2, h3⟩ := h.part i cs t fr hi
    obtain ⟨cs2, k1, k2, k3⟩ := k.part i cs1 t fr h1
    exact ⟨cs2, k1, k2.trans h2, fun o ho => (k3 o ho).trans (h3 o ho)⟩⟩
theorem Fr.cell {S : Nat → Nat → Prop} {w w' : World} (h : Fr S w w') {p : Addr} {v : Value} (hc : w.cell? p = some v) (hn : ¬ S p.block p.off) : w'.cell? p = some v := by
  unfold World.cell? at hc ⊢
  cases hk : w.heap[p.block]? with
  | none => rw [hk] at hc; cases hc
  | some o =>
    rw [hk] at hc
    cases o with
    | cells cs t fr =>
      obtain ⟨cs', h1, _, h3⟩ := h.part _ cs t fr hk
      rw [h1]
      simp only at hc ⊢
      split at hc
      · cases hc
      · rename_i hs
        rw [if_neg hs, h3 _ hn]
        exact hc
    | _ => cases hc
/-- No old cell has turned. -/
theorem Fr.below {w w' : World} (h : Fr (fun _ _ => False) w w') : Below w.heap.size w w' :=
  ⟨h.os, h.tape, h.output, h.size, fun k hk => h.keep k hk fun _ => id⟩

/-! ### byte slices that are read -/
structure RD (w : World) (A : Option Addr) (xs : List UInt8) : Prop where
  len : xs.length ≤ 140737488351232
  get : ∀ i : Int, 0 ≤ i → i < xs.length → ∃ ad, A = some ad ∧ w.cell? (ad.add i.toNat) = some (.int .u8 (rb xs i))
theorem addr_lit (a : Addr) (n : Nat) (h : 0 < n) : a.add n = ⟨a.block, a.off + n, none⟩ := by unfold Addr.add; rw [if_neg (by omega)]
/-- At an index that the code has as a number (not 0): the address as the walk spells it. -/
theorem RD.lit {w : World} {A : Option Addr} {xs : List UInt8} (h : RD w A xs) (n : Nat) (i : Int) (hi : i = n) (hn : 0 < n) (hl : n < xs.length) : ∃ ad : Addr, A = some ad ∧ w.cell? ⟨ad.block, ad.off + n, none⟩ = some (.int .u8 (rb xs i)) := by
  subst hi
  obtain ⟨ad, e, hc⟩ := h.get n (by omega) (by omega)
  rw [Int.toNat_natCast, addr_lit _ _ hn] at hc
  exact ⟨ad, e, hc⟩
theorem RD.zero {w : World} {A : Option Addr} {xs : List UInt8} (h : RD w A xs) (hl : 0 < xs.length) : ∃ ad, A = some ad ∧ w.cell? ad = some (.int .u8 (rb xs 0)) := by
  obtain ⟨ad, e, hc⟩ := h.get 0 (by omega) (by omega)
  exact ⟨ad, e, by simpa [Addr.add] using hc⟩
theorem RD.lit_ {w : World} {ad : Addr} {xs : List UInt8} (h : RD w (some ad) xs) (n : Nat) (i : Int) (hi : i = n) (hn : 0 < n) (hl : n < xs.length) : w.cell? ⟨ad.block, ad.off + n, none⟩ = some (.int .u8 (rb xs i)) := by
  obtain ⟨ad', e, hc⟩ := h.lit n i hi hn hl
  injection e with e
  subst e
  exact hc
theorem RD.nil (w : World) (A : Option Addr) : RD w A [] := ⟨by simp, fun i h0 h1 => absurd h1 (by simp; omega)⟩
theorem RD.keep {w w' : World} {A : Option Addr} {xs : List UInt8} (h : RD w A xs) (hk : ∀ (p : Addr) v, w.cell? p = some v → (∃ ad, A = some ad ∧ ∃ i, i < xs.length ∧ p = ad.add i) → w'.cell? p = some v) : RD w' A xs :=
  ⟨h.len, fun i h0 h1 => by
    obtain ⟨ad, rfl, hc⟩ := h.get i h0 h1
    exact ⟨ad, rfl, hk _ _ hc ⟨ad, rfl, i.toNat, by omega, rfl⟩⟩⟩
theorem RD.below {w w' : World} {A : Option Addr} {xs : List UInt8} (h : RD w A xs) (hb : Below w.heap.size w w') : RD w' A xs := h.keep fun p v hc _ => cell_below hb hc
theorem RD.dr {w w' : World} {A : Option Addr} {xs : List UInt8} (h : RD w A xs) (hb : Dr w w') : RD w' A xs := h.below hb.below
theorem RD.drewN {w : World} {A : Option Addr} {xs : List UInt8} (h : RD w A xs) (m : Nat) : RD (w.drewN m) A xs := h.dr ((Dr.refl _).step m)
theorem RD.alloc {w : World} {A : Option Addr} {xs : List UInt8} (h : RD w A xs) (o : Obj) : RD (w.alloc o) A xs := h.below (below_new (Below.refl _ _) o)
theorem RD.fr {S : Nat → Nat → Prop} {w w' : World} {A : Option Addr} {xs : List UInt8} (h : RD w A xs) (hf : Fr S w w') (hn : ∀ ad, A = some ad → ∀ o, ad.off ≤ o → o < ad.off + xs.length → ¬ S ad.block o) : RD w' A xs :=
  h.keep fun p v hc ⟨ad, e, i, hi, hp⟩ => hf.cell hc (by
    subst hp
    rw [addr_block]
    have : (ad.add i).off = ad.off + i := by unfold Addr.add; split <;> simp_all
    rw [this]
    exact hn ad e _ (by omega) (by omega))
/-- The cells, as the laws of the library ask them. -/
theorem RD.cells {w : World} {ad : Addr} {xs : List UInt8} (h : RD w (some ad) xs) : ∀ j u, (bv xs)[j]? = some u → w.cell? (ad.add j) = some u := by
  intro j u hu
  obtain ⟨hj, rfl⟩ := bv_some xs j u hu
  obtain ⟨ad', e, hc⟩ := h.get j (by omega) (by omega)
  injection e with e
  subst e
  exact hc
theorem RD.some_ {w : World} {A : Option Addr} {xs : List UInt8} (h : RD w A xs) (hp : 0 < xs.length) : ∃ ad, A = some ad := by
  obtain ⟨ad, e, _⟩ := h.get 0 (by omega) (by omega)
  exact ⟨ad, e⟩
theorem RD.mk_cells {w : World} {A : Option Addr} {xs : List UInt8} (hl : xs.length ≤ 140737488351232) (h : 0 < xs.length → ∃ ad, A = some ad ∧ ∀ j u, (bv xs)[j]? = some u → w.cell? (ad.add j) = some u) : RD w A xs :=
  ⟨hl, fun i h0 h1 => by
    obtain ⟨ad, e, hc⟩ := h (by omega)
    refine ⟨ad, e, ?_⟩
    have h2 : i.toNat < xs.length := by omega
    have := hc i.toNat _ (bv_get xs i.toNat h2)
    rwa [show ((i.toNat : Nat) : Int) = i from by omega] at this⟩

/-! ### byte slices of the call's own: a window of a block -/
/-- Window [off, off + c) of block g, of element type e; its first bytes are xs. -/
structure Win (e : TypeId) (w : World) (g off c : Nat) (xs : List UInt8) : Prop where
  blk : ∃ cur, w.heap[g]? = some (.cells cur e (0, 0)) ∧ off + c ≤ cur.size ∧ ∀ j u, (bv xs)[j]? = some u → cur[off + j]? = some u
  len : xs.length ≤ c
  max : c ≤ 9223372036854775807
/-- A slice value (address A, capacity c, length that of xs) of the call's own, its block from base on. -/
inductive Own (e : TypeId) (w : World) (base : Nat) : Option Addr → Nat → List UInt8 → Prop where
  | nil : Own e w base none 0 []
  | win (g off c : Nat) (xs : List UInt8) (hb : base ≤ g) (h : Win e w g off c xs) (hl : xs.length ≤ 140737488351232) : Own e w base (some ⟨g, off, none⟩) c xs
theorem Win.lt {e : TypeId} {w : World} {g off c : Nat} {xs : List UInt8} (h : Win e w g off c xs) : g < w.heap.size := by
  obtain ⟨cur, h1, _⟩ := h.blk
  exact lt_of_obj h1
theorem cell_cells {w : World} {g : Nat} {cs : Array Value} {t : TypeId} {fr : Nat × Nat} (h : w.heap[g]? = some (.cells cs t fr)) (o : Nat) : w.cell? ⟨g, o, none⟩ = cs[o]? := cell_of_row w g o cs t fr h
theorem Win.cell {e : TypeId} {w : World} {g off c : Nat} {xs : List UInt8} (h : Win e w g off c xs) (j : Nat) (hj : j < xs.length) : w.cell? ⟨g, off + j, none⟩ = some (.int .u8 (rb xs j)) := by
  obtain ⟨cur, h1, h2, h3⟩ := h.blk
  rw [cell_cells h1]
  exact h3 j _ (bv_get xs j hj)
theorem Win.frozen {e : TypeId} {w : World} {g off c : Nat} {xs : List UInt8} (h : Win e w g off c xs) (o : Nat) : w.frozen? ⟨g, o, none⟩ = false := by
  obtain ⟨cur, h1, _⟩ := h.blk
  simp [World.frozen?, h1]
theorem Win.reads {e : TypeId} {w : World} {g off c : Nat} {xs : List UInt8} (h : Win e w g off c xs) (hl : xs.length ≤ 140737488351232) : RD w (some ⟨g, off, none⟩) xs :=
  ⟨hl, fun i h0 h1 => ⟨_, rfl, by
    rw [addr_plain]
    have := h.cell i.toNat (by omega)
    rwa [show ((i.toNat : Nat) : Int) = i from by omega] at this⟩⟩
theorem Own.reads {e : TypeId} {w : World} {base : Nat} {A : Option Addr} {c : Nat} {xs : List UInt8} (h : Own e w base A c xs) : RD w A xs := by
  cases h with
  | nil => exact RD.nil _ _
  | win g off c xs hb h hl => exact h.reads hl
theorem Own.len {e : TypeId} {w : World} {base : Nat} {A : Option Addr} {c : Nat} {xs : List UInt8} (h : Own e w base A c xs) : xs.length ≤ 140737488351232 := by
  cases h with
  | nil => simp
  | win g off c xs hb h hl => exact hl
theorem Own.cap {e : TypeId} {w : World} {base : Nat} {A : Option Addr} {c : Nat} {xs : List UInt8} (h : Own e w base A c xs) : xs.length ≤ c := by
  cases h with
  | nil => simp
  | win g off c xs hb h hl => exact h.len
theorem Win.keep {e : TypeId} {w w' : World} {g off c : Nat} {xs : List UInt8} (h : Win e w g off c xs) (hk : w'.heap[g]? = w.heap[g]?) : Win e w' g off c xs := by
  obtain ⟨cur, h1, h2⟩ := h.blk
  exact ⟨⟨cur, hk.trans h1, h2⟩, h.len, h.max⟩
theorem Own.below {e : TypeId} {w w' : World} {base : Nat} {A : Option Addr} {c : Nat} {xs : List UInt8} (h : Own e w base A c xs) (hb : Below w.heap.size w w') : Own e w' base A c xs := by
  cases h with
  | nil => exact .nil
  | win g off c xs hg h hl => exact .win g off c xs hg (h.keep (hb.block g h.lt)) hl
theorem Own.base {e : TypeId} {w : World} {base base' : Nat} {A : Option Addr} {c : Nat} {xs : List UInt8} (h : Own e w base A c xs) (hb : base' ≤ base) : Own e w base' A c xs := by
  cases h with
  | nil => exact .nil
  | win g off c xs hg h hl => exact .win g off c xs (Nat.le_trans hb hg) h hl
theorem Own.alloc {e : TypeId} {w : World} {base : Nat} {A : Option Addr} {c : Nat} {xs : List UInt8} (h : Own e w base A c xs) (o : Obj) : Own e (w.alloc o) base A c xs := h.below (below_new (Below.refl _ _) o)
theorem Own.drewN {e : TypeId} {w : World} {base : Nat} {A : Option Addr} {c : Nat} {xs : List UInt8} (h : Own e w base A c xs) (m : Nat) : Own e (w.drewN m) base A c xs := h.below (below_drewN (Below.refl _ _) m)
theorem Win.fr {S : Nat → Nat → Prop} {e : TypeId} {w w' : World} {g off c : Nat} {xs : List UInt8} (h : Win e w g off c xs) (hf : Fr S w w') (hn : ∀ o, off ≤ o → o < off + xs.length → ¬ S g o) : Win e w' g off c xs := by
  obtain ⟨cur, h1, h2, h3⟩ := h.blk
  obtain ⟨cs', k1, k2, k3⟩ := hf.part g cur e (0, 0) h1
  refine ⟨⟨cs', k1, by omega, fun j u hu => ?_⟩, h.len, h.max⟩
  have hj := (bv_some xs j u hu).1
  rw [k3 _ (hn _ (by omega) (by omega))]
  exact h3 j u hu

end Go.Proofs.Ytdjldipiggfjdaa
