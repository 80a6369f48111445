/-
  THE PLAIN SIDE OF LAYER 3 (building a packet): the errors in the document's order, the bytes. Conditions: none; plain integers and lists.
-/
import Derived.Test.YtdjldipiggfjdaaParseSpec
import Derived.Laws.BitsAllLaws
namespace Go.Proofs.Ytdjldipiggfjdaa
set_option linter.unusedVariables false

/-- A header's numbers are of their types. -/
structure HdIn (h : Hd) : Prop where
  tos0 : 0 ≤ h.tos
  tos1 : h.tos ≤ 255
  id0 : 0 ≤ h.id
  id1 : h.id ≤ 65535
  off0 : -9223372036854775808 ≤ h.off
  off1 : h.off ≤ 9223372036854775807
  ttl0 : 0 ≤ h.ttl
  ttl1 : h.ttl ≤ 255
  pro0 : 0 ≤ h.proto
  pro1 : h.proto ≤ 255
  src0 : 0 ≤ h.src
  src1 : h.src ≤ 4294967295
  dst0 : 0 ≤ h.dst
  dst1 : h.dst ≤ 4294967295
/-- The word of the flags and the offset. -/
def fragW (h : Hd) : Int := h.off / 8 + (if h.df then 16384 else 0) + (if h.mf then 8192 else 0)
/-- The first twenty bytes. -/
def hdr (h : Hd) (n s : Int) : List UInt8 :=
  [u8 (69 + h.opts.length / 4), u8 h.tos, u8 (n / 256), u8 (n % 256), u8 (h.id / 256), u8 (h.id % 256), u8 (fragW h / 256), u8 (fragW h % 256), u8 h.ttl, u8 h.proto, u8 (s / 256), u8 (s % 256),
   u8 (h.src / 65536 / 256), u8 (h.src / 65536 % 256), u8 (h.src % 65536 / 256), u8 (h.src % 65536 % 256), u8 (h.dst / 65536 / 256), u8 (h.dst / 65536 % 256), u8 (h.dst % 65536 / 256), u8 (h.dst % 65536 % 256)]
theorem hdr_length (h : Hd) (n s : Int) : (hdr h n s).length = 20 := rfl
/-- The error (0: none). -/
def buildE (h : Hd) (body : List UInt8) : Int :=
  if areaS h.opts then (if pieceS h.off body.length h.mf then (if (20 + h.opts.length + body.length : Int) > 65535 then 37 else 0) else 36) else 34
/-- The header's bytes with their sum. -/
def headW (h : Hd) (n : Int) : List UInt8 := hdr h n (sumS (hdr h n 0 ++ h.opts)) ++ h.opts
/-- The packet's bytes. -/
def buildS (h : Hd) (body : List UInt8) : List UInt8 := headW h (20 + h.opts.length + body.length) ++ body

theorem areaS_len {o : List UInt8} (h : areaS o = true) : o.length ≤ 40 ∧ o.length % 4 = 0 := by
  unfold areaS at h
  split at h
  · cases h
  · split at h
    · omega
    · cases h
theorem pieceS_off {off n : Int} {m : Bool} (h : pieceS off n m = true) : 0 ≤ off ∧ off ≤ 65528 ∧ off % 8 = 0 ∧ off + n ≤ 65535 := by
  unfold pieceS at h
  split at h
  · cases h
  · split at h
    · cases h
    · split at h
      · split at h
        · cases h
        · omega
      · cases h
theorem or16_df (a : Int) (h0 : 0 ≤ a) (h1 : a ≤ 8191) : bits .or .u16 a 16384 = a + 16384 := by
  rw [u16_or _ _ h0 (by omega) (by omega) (by omega)]
  show ((a.toNat ||| 16384 : Nat) : Int) = _
  rw [Nat.or_comm, nat_join 14 16384 a.toNat (by decide) (by omega)]
  omega
theorem or16_mf (a : Int) (d : Bool) (h0 : 0 ≤ a) (h1 : a ≤ 8191) : bits .or .u16 (a + (if d then 16384 else 0)) 8192 = a + (if d then 16384 else 0) + 8192 := by
  cases d
  · rw [u16_or _ _ (by simp; omega) (by simp; omega) (by omega) (by omega)]
    have : ((a + (if false = true then (16384 : Int) else 0)).toNat ||| (8192 : Int).toNat) = a.toNat + 8192 := by
      show ((a + 0).toNat ||| 8192) = _
      rw [Int.add_zero, Nat.or_comm, nat_join 13 8192 a.toNat (by decide) (by omega)]
      omega
    rw [this]
    simp
    omega
  · rw [u16_or _ _ (by simp; omega) (by simp; omega) (by omega) (by omega)]
    have : ((a + (if true = true then (16384 : Int) else 0)).toNat ||| (8192 : Int).toNat) = a.toNat + 24576 := by
      show ((a + 16384).toNat ||| 8192) = _
      rw [show (a + 16384).toNat = 16384 + a.toNat from by omega, ← nat_join 14 16384 a.toNat (by decide) (by omega), Nat.or_assoc, Nat.or_comm a.toNat, ← Nat.or_assoc, show (16384 ||| 8192 : Nat) = 24576 from by decide, nat_join 13 24576 a.toNat (by decide) (by omega)]
      omega
    rw [this]
    simp
    omega
theorem or64_ver (a : Int) (h0 : 0 ≤ a) (h1 : a ≤ 63) : bits .or .i64 64 a = 64 + a := by
  have key : ∀ n : Fin 64, bits .or .i64 64 (n.val : Int) = 64 + n.val := by decide
  have := key ⟨a.toNat, by omega⟩
  simp only [] at this
  rw [Int.toNat_of_nonneg h0] at this
  exact this
/-- The sum's own place adds nothing while it is 0. -/
theorem sum_skip (xs : List UInt8) (h10 : xs[10]? = some 0) (h11 : xs[11]? = some 0) : sumS (xs.take 10 ++ xs.drop 12) = sumS xs := by
  have hl : 11 < xs.length := (List.getElem?_eq_some_iff.1 h11).1
  have e : xs.drop 10 = 0 :: 0 :: xs.drop 12 := by
    rw [List.drop_eq_getElem_cons (by omega), List.drop_eq_getElem_cons (by omega)]
    rw [List.getElem?_eq_getElem (by omega)] at h10 h11
    injection h10 with h10
    injection h11 with h11
    rw [h10, h11]
  have e2 : totF true xs = totF true (xs.take 10 ++ xs.drop 12) := by
    have : xs = xs.take 10 ++ xs.drop 10 := (List.take_append_drop 10 xs).symm
    conv => lhs; rw [this]
    have hlen : (xs.take 10).length = 10 := by rw [List.length_take]; omega
    rw [totF_append, totF_append, e, hlen]
    simp [totF, flip]
  unfold sumS
  rw [e2]

end Go.Proofs.Ytdjldipiggfjdaa
