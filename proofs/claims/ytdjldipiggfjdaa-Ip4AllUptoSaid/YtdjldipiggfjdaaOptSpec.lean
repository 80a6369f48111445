/-
  THE PLAIN SIDE OF LAYER 3 (options, pieces): which option areas and which pieces may be; what later pieces carry. Conditions: none; plain integers and lists.
-/
import Derived.Test.YtdjldipiggfjdaaMemB
namespace Go.Proofs.Ytdjldipiggfjdaa
set_option linter.unusedVariables false

/-- Are all bytes from place i on 0? -/
def zerosS (o : List UInt8) (i : Int) : Bool := (o.drop i.toNat).all (fun b => b == 0)
/-- The place behind the option at i; -1: none may stand there. -/
def behindS (o : List UInt8) (i : Int) : Int :=
  if rb o i = 1 then i + 1
  else if rb o i = 0 then (if zerosS o i then o.length else -1)
  else if i + 1 ≥ o.length then -1
  else if rb o (i + 1) < 2 then -1
  else if i + rb o (i + 1) > o.length then -1
  else i + rb o (i + 1)
def areaGo (o : List UInt8) : Nat → Int → Bool
  | 0, _ => false
  | n + 1, i => if i < 0 then false else if i ≥ o.length then true else areaGo o n (behindS o i)
/-- May these bytes be an area of options? -/
def areaS (o : List UInt8) : Bool := if o.length > 40 then false else if o.length % 4 = 0 then areaGo o (o.length + 1) 0 else false
theorem behindS_neg (o : List UInt8) (n : Nat) : areaGo o n (-1) = false := by cases n <;> simp [areaGo]
theorem behindS_or (o : List UInt8) (i : Int) (h0 : 0 ≤ i) (h : i < o.length) : behindS o i = -1 ∨ (i < behindS o i ∧ behindS o i ≤ o.length) := by
  unfold behindS
  have := rb_lo o (i + 1)
  repeat' split
  all_goals omega
/-- May a piece be, of that offset, with a body of that length, more following or not? -/
def pieceS (off n : Int) (more : Bool) : Bool :=
  if off < 0 then false else if off > 65528 then false else if off % 8 = 0 then (if off + n > 65535 then false else if more then decide (n > 0 ∧ n % 8 = 0) else true) else false

theorem zerosS_step (o : List UInt8) (i : Int) (h0 : 0 ≤ i) (h : i < o.length) : zerosS o i = (decide (rb o i = 0) && zerosS o (i + 1)) := by
  have h1 : i.toNat < o.length := by omega
  unfold zerosS
  rw [List.drop_eq_getElem_cons h1, List.all_cons, show (i + 1).toNat = i.toNat + 1 from by omega]
  congr 1
  have e : rb o i = (o[i.toNat].toNat : Int) := by simp [rb, List.getD_eq_getElem?_getD, List.getElem?_eq_getElem h1]
  rw [e, Bool.eq_iff_iff, beq_iff_eq, decide_eq_true_eq]
  constructor
  · intro hh; rw [hh]; rfl
  · intro hh
    apply UInt8.toNat_inj.1
    show _ = (0 : Nat)
    omega
theorem zerosS_end (o : List UInt8) (i : Int) (h : o.length ≤ i) : zerosS o i = true := by
  unfold zerosS
  rw [List.drop_of_length_le (by omega)]
  rfl

end Go.Proofs.Ytdjldipiggfjdaa
