/-
  THE PLAIN SIDE OF LAYER 3 (checksums): the sum of bytes as the document has it. Conditions: none; plain integers and lists.
-/
import Derived.Test.YtdjldipiggfjdaaMem
namespace Go.Proofs.Ytdjldipiggfjdaa
set_option linter.unusedVariables false

/-- S of T: the representative in 1 .. 65535 (0 for 0). -/
def foldS (t : Int) : Int := if t = 0 then 0 else 1 + (t - 1) % 65535
theorem foldS_lo (t : Int) (h : 0 ≤ t) : 0 ≤ foldS t := by unfold foldS; split <;> omega
theorem foldS_hi (t : Int) (h : 0 ≤ t) : foldS t ≤ 65535 := by unfold foldS; split <;> omega
theorem foldS_small (t : Int) (h : 0 ≤ t) (h1 : t ≤ 65535) : foldS t = t := by unfold foldS; split <;> omega
theorem foldS_step (t : Int) (h : 65535 < t) : foldS (t / 65536 + t % 65536) = foldS t := by
  unfold foldS
  rw [if_neg (by omega), if_neg (by omega)]
  omega
/-- T of bytes; hi: the next byte is a high one. -/
def totF : Bool → List UInt8 → Int
  | _, [] => 0
  | hi, b :: r => (if hi then 256 * (b.toNat : Int) else (b.toNat : Int)) + totF (!hi) r
theorem totF_lo (hi : Bool) (xs : List UInt8) : 0 ≤ totF hi xs := by
  induction xs generalizing hi with
  | nil => simp [totF]
  | cons b r ih => have := ih (!hi); cases hi <;> simp [totF] at this ⊢ <;> omega
theorem totF_hi (hi : Bool) (xs : List UInt8) : totF hi xs ≤ 65280 * xs.length := by
  induction xs generalizing hi with
  | nil => simp [totF]
  | cons b r ih =>
    have := ih (!hi)
    have hb := b.toNat_lt
    rw [List.length_cons]
    cases hi <;> simp [totF] at this ⊢ <;> omega
/-- Whether the byte behind xs is a high one, if the first one is as hi says. -/
def flip (hi : Bool) (n : Nat) : Bool := if n % 2 = 0 then hi else !hi
theorem totF_append (hi : Bool) (xs ys : List UInt8) : totF hi (xs ++ ys) = totF hi xs + totF (flip hi xs.length) ys := by
  induction xs generalizing hi with
  | nil => simp [totF, flip]
  | cons b r ih =>
    rw [List.cons_append, totF, totF, ih (!hi), List.length_cons]
    have : flip (!hi) r.length = flip hi (r.length + 1) := by
      unfold flip
      rcases Nat.mod_two_eq_zero_or_one r.length with h | h
      · rw [if_pos h, if_neg (by omega)]
      · rw [if_neg (by omega), if_pos (by omega), Bool.not_not]
    rw [this]
    omega
theorem flip_succ (hi : Bool) (n : Nat) : flip hi (n + 1) = !(flip hi n) := by
  unfold flip
  rcases Nat.mod_two_eq_zero_or_one n with h | h
  · rw [if_neg (show ¬ (n + 1) % 2 = 0 by omega), if_pos h]
  · rw [if_pos (show (n + 1) % 2 = 0 by omega), if_neg (by omega), Bool.not_not]
/-- The complemented checksum. -/
def sumS (xs : List UInt8) : Int := 65535 - foldS (totF true xs)
theorem sumS_lo (xs : List UInt8) : 0 ≤ sumS xs := by have := foldS_hi _ (totF_lo true xs); unfold sumS; omega
theorem sumS_hi (xs : List UInt8) : sumS xs ≤ 65535 := by have := foldS_lo _ (totF_lo true xs); unfold sumS; omega
/-- The sum of what has one word changed. -/
def adjS (s o n : Int) : Int := 65535 - foldS ((65535 - s) + (65535 - o) + n)

end Go.Proofs.Ytdjldipiggfjdaa
