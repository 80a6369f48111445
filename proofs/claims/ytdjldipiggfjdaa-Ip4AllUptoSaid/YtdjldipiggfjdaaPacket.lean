/-
  LAYER 3's program: a packet is read whole or from its front: by contract, in any world. Conditions: readable bytes; the header's and the body's copies are the call's own and lie apart.
-/
import Derived.Test.YtdjldipiggfjdaaParse
import Derived.Test.YtdjldipiggfjdaaBlkM
import Derived.Deep.RegionWith
namespace Go.Proofs.Ytdjldipiggfjdaa
open Go.RowKit
set_option linter.unusedVariables false
set_option linter.unusedSimpArgs false

/-- Bytes, or none where there was an error. -/
def ifB (e : Int) (b : List UInt8) : List UInt8 := if e = 0 then b else []
theorem ifB_ok {e : Int} (b : List UInt8) (h : e = 0) : ifB e b = b := by unfold ifB; rw [if_pos h]
theorem ifB_no {e : Int} (b : List UInt8) (h : e ≠ 0) : ifB e b = [] := by unfold ifB; rw [if_neg h]
/-- A packet's cells. -/
def pcells (h : Hd) (A : Option Addr) (n c : Nat) (B : Option Addr) (m d : Nat) : Array Value :=
  #[.int .u8 h.tos, .int .u16 h.id, .bool h.df, .bool h.mf, .int .i64 h.off, .int .u8 h.ttl, .int .u8 h.proto, .int .u32 h.src, .int .u32 h.dst, .slice A n c, .slice B m d]
theorem pktZero : (Try.prog.info? 37).map (·.zero) = some (some (.agg (pcells Hd.zero none 0 0 none 0 0))) := by kernel_rfl
theorem pktSize : (Try.prog.info? 37).map (·.size) = some 11 := by kernel_rfl
theorem pktSize' (h : Hd) (A : Option Addr) (n c : Nat) (B : Option Addr) (m d : Nat) : (Try.prog.info? 37).map (·.size) = some (pcells h A n c B m d).size := pktSize
theorem pcells_sizes (h : Hd) (A : Option Addr) (n c : Nat) (B : Option Addr) (m d : Nat) (h' : Hd) (A' : Option Addr) (n' c' : Nat) (B' : Option Addr) (m' d' : Nat) : (pcells h A n c B m d).size = (pcells h' A' n' c' B' m' d').size := rfl
theorem pcells_one (h : Hd) (A : Option Addr) (n c : Nat) (B : Option Addr) (m d : Nat) : (pcells h A n c B m d).all (·.oneCell') = true := by simp [pcells, Value.oneCell']

theorem Own.ge {e : TypeId} {w : World} {base : Nat} {A : Option Addr} {c : Nat} {xs : List UInt8} (h : Own e w base A c xs) (ad : Addr) (hA : A = some ad) : base ≤ ad.block := by
  cases h with
  | nil => cases hA
  | win g off c xs hb hw hl => injection hA with hA; subst hA; exact hb
theorem Own.set {e : TypeId} {w : World} {base g : Nat} {A : Option Addr} {c : Nat} {xs : List UInt8} (h : Own e w base A c xs) (hg : g < base) (o : Nat) (v : Value) : Own e (w.setCell ⟨g, o, none⟩ v) base A c xs :=
  h.fr (fr_set v) fun ad hA o' _ _ hs => by have := h.ge ad hA; omega
theorem Own.off {e : TypeId} {w w' : World} {base g : Nat} {A : Option Addr} {c : Nat} {xs : List UInt8} (h : Own e w base A c xs) (hg : g < base) (hf : Fr (fun k _ => k = g) w w') : Own e w' base A c xs :=
  h.fr hf fun ad hA o' _ _ hs => by have := h.ge ad hA; omega
theorem parseE_ok {b : List UInt8} {whole : Bool} (h : parseE b whole = 0) : frontE b whole = 0 := by
  unfold parseE at h
  split at h
  · assumption
  · assumption

set_option maxHeartbeats 1600000 in
set_option maxRecDepth 100000 in
theorem parse_any (b : List UInt8) (A : Option Addr) (c : Nat) (w : World) (hx : RD w A b) (hc : b.length ≤ c) :
    Calls Try.prog 52 #[.slice A b.length c] w fun e w' => ∃ A1 c1 A2 c2,
      e = .returned (.tuple #[.agg (pcells (ifH (parseE b true) (hdS b)) A1 (ifH (parseE b true) (hdS b)).opts.length c1 A2 (ifB (parseE b true) (bodyS b)).length c2), .int .i64 (parseE b true)]) ∧
      Own 5 w' w.heap.size A1 c1 (ifH (parseE b true) (hdS b)).opts ∧ Own 5 w' w.heap.size A2 c2 (ifB (parseE b true) (bodyS b)) ∧ Apart A1 c1 A2 c2 ∧ Below w.heap.size w w' := by
  have HX := Sec.mk hx
  have lx := hx.len
  clear hx
  by_cases c1 : parseE b true = 0
  rotate_left
  · obtain ⟨E, hE⟩ : ∃ E, E = parseE b true := ⟨_, rfl⟩
    have HE := Sec.mk hE
    have c1b : (E != 0) = true := bne_iff_ne.mpr (by rw [hE]; exact c1)
    have HH := Sec.mk (ifH_no (hdS b) (show E ≠ 0 by rw [hE]; exact c1))
    have HB := Sec.mk (ifB_no (bodyS b) (show E ≠ 0 by rw [hE]; exact c1))
    have HZ := Sec.mk (fun x => ifz_no (e := E) x (show E ≠ 0 by rw [hE]; exact c1))
    rw [← hE]
    clear c1 hE
    go_enter Try.func52, Try.ntmps52
    go_wp2_with (with_reducible refine al_step w.heap.size rfl 2 rfl 37 rfl _ pktZero (Below.refl _ _) (Nat.le_refl _) ?_; intro g w1 hg hblk hb0 hb1 hs1)
    refine (read_any b A c true _ (HX.out.below hb1) hc).mono ?_
    rintro e w2 ⟨rfl, hb2⟩
    rw [← HE.out, HH.out, HZ.out, HZ.out]
    have hbw := below_on hb1 hb2
    have hblk2 := hblk.below hb2
    go_wp2_with (first
      | (with_reducible refine al_step w.heap.size rfl 4 rfl 35 rfl (hcells Hd.zero none 0 0) headZero hbw hbw.size ?_; intro g3 w3 hg3 hk3 hb30 hb3 hs3
         have hblk3 := hblk2.below hb30
         have hne := hblk3.ne hk3 (by decide))
      | (with_reducible refine st_row (w0 := w) w.heap.size rfl 35 (.tmp 4) _ rfl g3 _ rfl rfl 35 _ hk3 (headSize' _ _ _ _) (hcells_sizes _ _ _ _ _ _ _ _) (hcells_one _ _ _ _) hb3 (Nat.le_trans hbw.size hg3) ?_
         intro w4 hk4 hb4 hf4 hs4
         have hblk4 := hblk3.fr hf4 (fun _ => hne))
      | (refine st_row (w0 := w) w.heap.size rfl 37 (.tmp 2) _ rfl g (pcells Hd.zero none 0 0 none 0 0) rfl rfl 37 _ hblk4 (pktSize' _ _ _ _ _ _ _) (pcells_sizes _ _ _ _ _ _ _ _ _ _ _ _ _ _) (pcells_one _ _ _ _ _ _ _) hb4 hg ?_
         intro w5 hk5 hb5 hf5 hs5))
    rw [HH.out, HB.out]
    refine bodyPost_ret (res_ct rfl rfl hk5 Try.underlying37 rfl (pktSize' _ _ _ _ _ _ _)) rfl ⟨none, 0, none, 0, rfl, .nil, .nil, (fun a1 a2 h1 => by cases h1), hb5⟩
  · obtain ⟨f1, f2, f3, f4, f5, f6⟩ := frontE_ok (parseE_ok c1)
    have f6 := f6 rfl
    have C1 := Sec.mk c1
    obtain ⟨h, hh⟩ : ∃ h, h = hdS b := ⟨_, rfl⟩
    obtain ⟨hd, hhd⟩ : ∃ hd, hd = headS b := ⟨_, rfl⟩
    obtain ⟨t, ht⟩ : ∃ t, t = w2 b 2 := ⟨_, rfl⟩
    rw [← hhd] at f3 f4 f5
    rw [← ht] at f5 f6
    obtain ⟨OA, oc, os, HOS, hol, HRO, hoc, hcut1⟩ := cut_lohi (P := Try.prog) Try.underlying30 byteInfo HX.out hc .i64 .i64 20 hd (by omega) f3 f4
    obtain ⟨BA, bc, bs, HBS, hbl, HRB, hbc, hcut2⟩ := cut_lohi (P := Try.prog) Try.underlying30 byteInfo HX.out hc .i64 .i64 hd t (by omega) f5 f6
    have HOPT : Sec (h.opts = os) := ⟨by rw [HOS.out, hh, hhd]; rfl⟩
    have HBODY : Sec (bodyS b = bs) := ⟨by rw [HBS.out, ht, hhd]; rfl⟩
    have hsum : os.length + bs.length ≤ 140737488351232 := by omega
    have HOL := Sec.mk hol
    have HBL := Sec.mk hbl
    have HH := Sec.mk hh
    have HD := Sec.mk hhd
    have HT := Sec.mk ht
    rw [c1, ifH_ok _ rfl, ifB_ok _ rfl, ← hh, HBODY.out, HOPT.out]
    clear c1 f2 hh hhd ht hol hbl
    have hsz : (hcells h none 0 0).size = 10 := rfl
    go_enter Try.func52, Try.ntmps52
    go_wp2_with (with_reducible refine al_step w.heap.size rfl 2 rfl 37 rfl _ pktZero (Below.refl _ _) (Nat.le_refl _) ?_; intro g w1 hg hblk hb0 hb1 hs1)
    refine (read_any b A c true _ (HX.out.below hb1) hc).mono ?_
    rintro e w2 ⟨rfl, hb2⟩
    rw [C1.out, ifH_ok _ rfl, ifz_ok _ rfl, ifz_ok _ rfl, ← HH.out, ← HD.out, ← HT.out]
    have hbw := below_on hb1 hb2
    have hblk2 := hblk.below hb2
    go_wp2_with (first
      | (with_reducible refine al_step w.heap.size rfl 4 rfl 35 rfl (hcells Hd.zero none 0 0) headZero hbw hbw.size ?_; intro g3 w3 hg3 hk3 hb30 hb3 hs3
         have hblk3 := hblk2.below hb30
         have hne := hblk3.ne hk3 (by decide))
      | (with_reducible refine st_row (w0 := w) w.heap.size rfl 35 (.tmp 4) _ rfl g3 _ rfl rfl 35 _ hk3 (headSize' _ _ _ _) (hcells_sizes _ _ _ _ _ _ _ _) (hcells_one _ _ _ _) hb3 (Nat.le_trans hbw.size hg3) ?_
         intro w4 hk4 hb4 hf4 hs4
         have hblk4 := hblk3.fr hf4 (fun _ => hne))
      | (with_reducible refine ld_row rfl 35 (.tmp 4) rfl g3 rfl 35 _ hk4 _ Try.underlying35 rfl (headSize' _ _ _ _) ?_)
      | (with_reducible refine al_step w.heap.size rfl 8 rfl 37 rfl _ pktZero hb4 hb4.size ?_; intro g5 w5 hg5 hk5 hb50 hb5 hs5
         have hblk5 := hblk4.below hb50)
      | (refine st_row (w0 := w) w.heap.size rfl 37 (.tmp 8) _ rfl g5 (pcells h none 0 0 none 0 0) rfl (by kernel_rfl) 37 _ hk5 (pktSize' _ _ _ _ _ _ _) (pcells_sizes _ _ _ _ _ _ _ _ _ _ _ _ _ _) (pcells_one _ _ _ _ _ _ _) hb5 (Nat.le_trans hb4.size hg5) ?_
         intro w6 hk6 hb6 hf6 hs6))
    go_region_with (go_at_call 97
                    go_loud (refine (apart_any os bs OA BA oc bc _ (HRO.out.below hb6.drew) (HRB.out.below hb6.drew) hsum).mono ?_
                             rintro e w7 ⟨A1, c1, A2, c2, rfl, ho1, ho2, hap, hb7⟩
                             have hk7 := Blk.below hk6.drew hb7
                             have q9 := hk7.cell 9 _ rfl
                             have q10 := hk7.cell 10 _ rfl
                             have q9f := hk7.frozen))
    have hlt : g5 < w6.drew.heap.size := hk6.lt
    have hgn : g ≠ g5 := by have := hblk4.lt; omega
    have hblk8 := ((((hblk5.fr hf6 (fun _ => hgn)).drew.below hb7).far (p := ⟨g5, 9, none⟩) hgn (.slice A1 os.length c1)).far (p := ⟨g5, 10, none⟩) hgn (.slice A2 bs.length c2))
    have hk8 := (hk7.set 9 (.slice A1 os.length c1) (pcells h A1 os.length c1 none 0 0) rfl).set 10 (.slice A2 bs.length c2) (pcells h A1 os.length c1 A2 bs.length c2) rfl
    have ho1' := (ho1.set hlt 9 (.slice A1 os.length c1)).set hlt 10 (.slice A2 bs.length c2)
    have ho2' := (ho2.set hlt 9 (.slice A1 os.length c1)).set hlt 10 (.slice A2 bs.length c2)
    have hgl : g < w6.drew.heap.size := by show g < w6.heap.size; have := hblk5.lt; omega
    have hgw : w.heap.size ≤ g5 := Nat.le_trans hb4.size hg5
    have hb8 := ((below_on hb6.drew hb7).setCell (p := ⟨g5, 9, none⟩) hgw (.slice A1 os.length c1)).setCell (p := ⟨g5, 10, none⟩) hgw (.slice A2 bs.length c2)
    generalize ((w7.setCell ⟨g5, 9, none⟩ (.slice A1 os.length c1)).setCell ⟨g5, 10, none⟩ (.slice A2 bs.length c2)) = W8 at hblk8 hk8 ho1' ho2' hb8 ⊢
    clear ho1 ho2 hk7 q9 q10 q9f hb7 hk6 hf6 hblk5
    go_wp2_with (first
      | (with_reducible refine ld_row rfl 37 (.tmp 8) rfl g5 rfl 37 _ hk8 _ Try.underlying37 rfl (pktSize' _ _ _ _ _ _ _) ?_)
      | (with_reducible refine st_row (w0 := w) w.heap.size rfl 37 (.tmp 2) _ rfl g _ rfl rfl 37 _ hblk8 (pktSize' _ _ _ _ _ _ _) (pcells_sizes _ _ _ _ _ _ _ _ _ _ _ _ _ _) (pcells_one _ _ _ _ _ _ _) hb8 hg ?_
         intro w9 hk9 hb9 hf9 hs9))
    refine bodyPost_ret (res_ct rfl rfl hk9 Try.underlying37 rfl (pktSize' _ _ _ _ _ _ _)) rfl ⟨A1, c1, A2, c2, rfl, (ho1'.off hgl hf9).base hb6.size, (ho2'.off hgl hf9).base hb6.size, hap, hb9⟩

end Go.Proofs.Ytdjldipiggfjdaa
