/-
  LAYER 3's program: a number is put into two or four bytes of a window of the call's own: by contract. Conditions: the places lie in the window.
-/
import Derived.Test.YtdjldipiggfjdaaPeek
namespace Go.Proofs.Ytdjldipiggfjdaa
open Go.RowKit
set_option linter.unusedVariables false
set_option linter.unusedSimpArgs false

/-- Two bytes are put at place i. -/
def pw (xs : List UInt8) (i : Nat) (v : Int) : List UInt8 := (xs.set i (u8 (v / 256))).set (i + 1) (u8 (v % 256))
theorem pw_length (xs : List UInt8) (i : Nat) (v : Int) : (pw xs i v).length = xs.length := by simp [pw]

theorem below_frg {base g : Nat} {w0 W w1 : World} (h : Below base w0 W) (hs : base ≤ W.heap.size) (hf : Fr (fun k _ => k = g) W w1) (hg : base ≤ g) : Below base w0 w1 :=
  h.trans ⟨hf.os, hf.tape, hf.output, hf.size, fun k hk => hf.keep k (by omega) fun _ => by omega⟩

set_option maxHeartbeats 800000 in
theorem putWord_any (xs : List UInt8) (g off c : Nat) (i v : Int) (w : World) (hw : Win 5 w g off c xs) (hl : xs.length ≤ 140737488351232) (hi : 0 ≤ i) (hi1 : i + 1 < xs.length) (v0 : 0 ≤ v) (v1 : v ≤ 65535) :
    Calls Try.prog 91 #[.slice (some ⟨g, off, none⟩) xs.length c, .int .i64 i, .int .u16 v] w fun e w' =>
      e = .returned (.tuple #[]) ∧ Win 5 w' g off c (pw xs i.toNat v) ∧ Fr (fun k _ => k = g) w w' := by
  have HW := Sec.mk hw
  have hq : i < xs.length := by omega
  have ei : (i + 1).toNat = i.toNat + 1 := by omega
  have hp : 0 ≤ i + 1 := by omega
  have hb0 : 0 ≤ v / 256 := by omega
  have hb1 : v / 256 ≤ 255 := by omega
  clear hw
  go_enter Try.func91, Try.ntmps91
  go_wp2_with (first
    | (with_reducible refine st_byte (w0 := w) 0 rfl 5 (.tmp 16) (.tmp 13) rfl 5 g off c _ _ i.toNat (v / 256) rfl rfl rfl HW.out (by omega) hb0 hb1 byteInfo (Below.refl _ _) (Nat.zero_le _) ?_
       intro w1 hw1 hb1' hf1 hs1)
    | (with_reducible refine st_byte (w0 := w) 0 rfl 5 (.tmp 17) (.tmp 15) rfl 5 g off c _ _ (i.toNat + 1) (v % 256) rfl rfl rfl hw1 (by simp; omega) (by omega) (by omega) byteInfo hb1' (Nat.zero_le _) ?_
       intro w2 hw2 hb2' hf2 hs2))
  go_end0
  exact ⟨rfl, hw2, (hf1.mono fun k o _ h => h.1).trans (hf2.mono fun k o _ h => h.1)⟩

set_option maxHeartbeats 800000 in
theorem putLong_any (xs : List UInt8) (g off c : Nat) (i v : Int) (w : World) (hw : Win 5 w g off c xs) (hl : xs.length ≤ 140737488351232) (hi : 0 ≤ i) (hi1 : i + 3 < xs.length) (v0 : 0 ≤ v) (v1 : v ≤ 4294967295) :
    Calls Try.prog 92 #[.slice (some ⟨g, off, none⟩) xs.length c, .int .i64 i, .int .u32 v] w fun e w' =>
      e = .returned (.tuple #[]) ∧ Win 5 w' g off c (pw (pw xs i.toNat (v / 65536)) (i.toNat + 2) (v % 65536)) ∧ Fr (fun k _ => k = g) w w' := by
  have HW := Sec.mk hw
  have ei : (i + 2).toNat = i.toNat + 2 := by omega
  have hb0 : 0 ≤ v / 65536 := by omega
  have hb1 : v / 65536 ≤ 65535 := by omega
  clear hw
  go_enter Try.func92, Try.ntmps92
  go_wp2_with fail
  refine (putWord_any xs g off c i (v / 65536) w HW.out hl hi (by omega) hb0 hb1).mono ?_
  rintro e w1 ⟨rfl, hw1, hf1⟩
  go_wp2_with fail
  refine ((pw_length xs i.toNat (v / 65536)) ▸ putWord_any (pw xs i.toNat (v / 65536)) g off c (i + 2) (v % 65536) w1 hw1 (by rw [pw_length]; omega) (by omega) (by rw [pw_length]; omega) (by omega) (by omega)).mono ?_
  rintro e w2 ⟨rfl, hw2, hf2⟩
  go_wp2_with fail
  rw [ei] at hw2
  go_end0
  exact ⟨rfl, hw2, hf1.trans hf2⟩

end Go.Proofs.Ytdjldipiggfjdaa
