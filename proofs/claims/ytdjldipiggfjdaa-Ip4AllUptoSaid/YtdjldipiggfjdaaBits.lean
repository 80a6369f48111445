/-
  NUMBERS OF THIS SEAT's PROOFS: the bit operations that the program uses, on integers in their ranges. Conditions: the ranges, in each lemma.
-/
import Derived.WalkKit
import Derived.Laws.BitsAllLaws
import Derived.Laws.BitsLemmas
namespace Go.Proofs.Ytdjldipiggfjdaa
set_option linter.unusedVariables false
theorem or16 (a b : Int) (h0 : 0 ≤ a) (h1 : a ≤ 255) (h2 : 0 ≤ b) (h3 : b ≤ 255) : bits .or .u16 (a * 256) b = a * 256 + b := by
  rw [u16_or _ _ (by omega) (by omega) (by omega) (by omega), nat_join 8 _ _ (by omega) (by omega)]
  omega
theorem or32 (a b : Int) (h0 : 0 ≤ a) (h1 : a ≤ 65535) (h2 : 0 ≤ b) (h3 : b ≤ 65535) : bits .or .u32 (a * 65536) b = a * 65536 + b := by
  rw [u32_or _ _ (by omega) (by omega) (by omega) (by omega), nat_join 16 _ _ (by omega) (by omega)]
  omega
theorem and64_16 (a : Int) (h0 : 0 ≤ a) (h1 : a < 18446744073709551616) : bits .and .u64 a 65535 = a % 65536 := by
  rw [u64_and _ _ h0 h1 (by omega) (by omega)]
  show ((a.toNat &&& 65535 : Nat) : Int) = _
  rw [nat_mask16]
  omega
theorem nat_xor16 (x : Nat) (h : x < 65536) : 65535 ^^^ x = 65535 - x := by
  have h1 : (65535 : Nat) = (BitVec.allOnes 16).toNat := by decide
  have h2 : x = (BitVec.ofNat 16 x).toNat := by rw [BitVec.toNat_ofNat]; exact (Nat.mod_eq_of_lt h).symm
  rw [h2]
  rw [show 65535 ^^^ (BitVec.ofNat 16 x).toNat = (BitVec.allOnes 16 ^^^ BitVec.ofNat 16 x).toNat from by rw [BitVec.toNat_xor]; rfl, BitVec.allOnes_xor, BitVec.toNat_not]
theorem not16 (a : Int) (h0 : 0 ≤ a) (h1 : a ≤ 65535) : bits .xor .u16 IntKind.u16.max a = 65535 - a := by
  show bits .xor .u16 65535 a = _
  rw [u16_xor _ _ (by omega) (by omega) h0 (by omega)]
  show ((65535 ^^^ a.toNat : Nat) : Int) = _
  rw [nat_xor16 _ (by omega)]
  omega
theorem and16_res (a : Int) (h0 : 0 ≤ a) (h1 : a ≤ 65535) : bits .and .u16 a 32768 = a / 32768 * 32768 := by
  rw [u16_and _ _ h0 (by omega) (by omega) (by omega)]
  show ((a.toNat &&& 2 ^ 15 : Nat) : Int) = _
  rw [nat_bit]
  omega
theorem and16_df (a : Int) (h0 : 0 ≤ a) (h1 : a ≤ 65535) : bits .and .u16 a 16384 = a / 16384 % 2 * 16384 := by
  rw [u16_and _ _ h0 (by omega) (by omega) (by omega)]
  show ((a.toNat &&& 2 ^ 14 : Nat) : Int) = _
  rw [nat_bit]
  omega
theorem and16_mf (a : Int) (h0 : 0 ≤ a) (h1 : a ≤ 65535) : bits .and .u16 a 8192 = a / 8192 % 2 * 8192 := by
  rw [u16_and _ _ h0 (by omega) (by omega) (by omega)]
  show ((a.toNat &&& 2 ^ 13 : Nat) : Int) = _
  rw [nat_bit]
  omega
theorem and16_off (a : Int) (h0 : 0 ≤ a) (h1 : a ≤ 65535) : bits .and .u16 a 8191 = a % 8192 := by
  rw [u16_and _ _ h0 (by omega) (by omega) (by omega)]
  show ((a.toNat &&& 8191 : Nat) : Int) = _
  rw [nat_mask13]
  omega
theorem u16_unsigned : IntKind.u16.signed = false := rfl
end Go.Proofs.Ytdjldipiggfjdaa
