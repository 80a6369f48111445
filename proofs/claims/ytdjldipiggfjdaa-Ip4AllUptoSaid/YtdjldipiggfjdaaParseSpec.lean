/-
  THE PLAIN SIDE OF LAYER 3 (reading a packet): the errors in the document's order, the header's fields, what is read. Conditions: none; plain integers and lists.
-/
import Derived.Test.YtdjldipiggfjdaaSums
import Derived.Test.YtdjldipiggfjdaaOptSpec
namespace Go.Proofs.Ytdjldipiggfjdaa
set_option linter.unusedVariables false

/-- A header. -/
structure Hd where
  tos : Int
  id : Int
  df : Bool
  mf : Bool
  off : Int
  ttl : Int
  proto : Int
  src : Int
  dst : Int
  opts : List UInt8
def Hd.zero : Hd := ⟨0, 0, false, false, 0, 0, 0, 0, 0, []⟩
/-- The header's end. -/
def headS (b : List UInt8) : Int := 4 * (rb b 0 % 16)
theorem headS_lo (b : List UInt8) : 0 ≤ headS b := by have := rb_lo b 0; unfold headS; omega
theorem headS_hi (b : List UInt8) : headS b ≤ 60 := by have := rb_lo b 0; unfold headS; omega
/-- Errors 1 to 6 (0: none). -/
def frontE (b : List UInt8) (whole : Bool) : Int :=
  if b.length < 20 then 30
  else if rb b 0 / 16 = 4 then
    (if headS b < 20 then 32
     else if (b.length : Int) < headS b then 30
     else if w2 b 2 < headS b then 32
     else if whole then (if (b.length : Int) < w2 b 2 then 30 else 0) else 0)
  else 31
/-- What stands at the front, if nothing is wrong there. -/
theorem frontE_ok {b : List UInt8} {whole : Bool} (h : frontE b whole = 0) :
    20 ≤ b.length ∧ rb b 0 / 16 = 4 ∧ 20 ≤ headS b ∧ headS b ≤ b.length ∧ headS b ≤ w2 b 2 ∧ (whole = true → w2 b 2 ≤ b.length) := by
  unfold frontE at h
  repeat' split at h
  all_goals first | omega | (refine ⟨by omega, by omega, by omega, by omega, by omega, fun hw => ?_⟩; first | omega | (subst hw; omega) | simp_all)
/-- A number, or 0 where there was an error. -/
def ifz (e x : Int) : Int := if e = 0 then x else 0
theorem ifz_ok {e : Int} (x : Int) (h : e = 0) : ifz e x = x := by unfold ifz; rw [if_pos h]
theorem ifz_no {e : Int} (x : Int) (h : e ≠ 0) : ifz e x = 0 := by unfold ifz; rw [if_neg h]
/-- All errors (0: none). -/
def parseE (b : List UInt8) (whole : Bool) : Int :=
  if frontE b whole = 0 then
    (if sumS (b.take (headS b).toNat) = 0 then
      (if w2 b 6 / 32768 = 0 then
        (if areaS ((b.take (headS b).toNat).drop 20) then
          (if pieceS (8 * (w2 b 6 % 8192)) (w2 b 2 - headS b) (decide (w2 b 6 / 8192 % 2 = 1)) then 0 else 36)
         else 34)
       else 32)
     else 33)
  else frontE b whole
/-- The header that is read. -/
def hdS (b : List UInt8) : Hd :=
  { tos := rb b 1, id := w2 b 4, df := decide (w2 b 6 / 16384 % 2 = 1), mf := decide (w2 b 6 / 8192 % 2 = 1), off := 8 * (w2 b 6 % 8192), ttl := rb b 8, proto := rb b 9, src := w4 b 12, dst := w4 b 16, opts := (b.take (headS b).toNat).drop 20 }
/-- The body that is read. -/
def bodyS (b : List UInt8) : List UInt8 := (b.take (w2 b 2).toNat).drop (headS b).toNat

/-- A header, or the zero one where there was an error. -/
def ifH (e : Int) (h : Hd) : Hd := if e = 0 then h else Hd.zero
theorem ifH_ok {e : Int} (h : Hd) (he : e = 0) : ifH e h = h := by unfold ifH; rw [if_pos he]
theorem ifH_no {e : Int} (h : Hd) (he : e ≠ 0) : ifH e h = Hd.zero := by unfold ifH; rw [if_neg he]
/-- A header's cells; A, c: where its options lie, and their capacity. -/
def hcells (h : Hd) (A : Option Addr) (n c : Nat) : Array Value :=
  #[.int .u8 h.tos, .int .u16 h.id, .bool h.df, .bool h.mf, .int .i64 h.off, .int .u8 h.ttl, .int .u8 h.proto, .int .u32 h.src, .int .u32 h.dst, .slice A n c]

end Go.Proofs.Ytdjldipiggfjdaa
