/-
  LAYER 3's program: a packet is built: by contract, in any world. Conditions: a header whose numbers are of their types; readable options and body.
-/
import Derived.Test.YtdjldipiggfjdaaPut
import Derived.Test.YtdjldipiggfjdaaBuildSpec
import Derived.Deep.CutRange
namespace Go.Proofs.Ytdjldipiggfjdaa
open Go.RowKit
set_option linter.unusedVariables false
set_option linter.unusedSimpArgs false

theorem Blk.head {W : World} {g : Nat} {t : TypeId} {h : Hd} {A : Option Addr} {n c : Nat} (hk : Blk W g t (hcells h A n c)) :
    W.cell? ⟨g, 0, none⟩ = some (.int .u8 h.tos) ∧ W.cell? ⟨g, 1, none⟩ = some (.int .u16 h.id) ∧ W.cell? ⟨g, 2, none⟩ = some (.bool h.df) ∧ W.cell? ⟨g, 3, none⟩ = some (.bool h.mf) ∧ W.cell? ⟨g, 4, none⟩ = some (.int .i64 h.off) ∧
      W.cell? ⟨g, 5, none⟩ = some (.int .u8 h.ttl) ∧ W.cell? ⟨g, 6, none⟩ = some (.int .u8 h.proto) ∧ W.cell? ⟨g, 7, none⟩ = some (.int .u32 h.src) ∧ W.cell? ⟨g, 8, none⟩ = some (.int .u32 h.dst) ∧ W.cell? ⟨g, 9, none⟩ = some (.slice A n c) :=
  ⟨hk.cell 0 _ rfl, hk.cell 1 _ rfl, hk.cell 2 _ rfl, hk.cell 3 _ rfl, hk.cell 4 _ rfl, hk.cell 5 _ rfl, hk.cell 6 _ rfl, hk.cell 7 _ rfl, hk.cell 8 _ rfl, hk.cell 9 _ rfl⟩
theorem Blk.phead {W : World} {g : Nat} {t : TypeId} {h : Hd} {A B : Option Addr} {n c m d : Nat} (hk : Blk W g t (pcells h A n c B m d)) :
    W.cell? ⟨g, 0, none⟩ = some (.int .u8 h.tos) ∧ W.cell? ⟨g, 1, none⟩ = some (.int .u16 h.id) ∧ W.cell? ⟨g, 2, none⟩ = some (.bool h.df) ∧ W.cell? ⟨g, 3, none⟩ = some (.bool h.mf) ∧ W.cell? ⟨g, 4, none⟩ = some (.int .i64 h.off) ∧
      W.cell? ⟨g, 5, none⟩ = some (.int .u8 h.ttl) ∧ W.cell? ⟨g, 6, none⟩ = some (.int .u8 h.proto) ∧ W.cell? ⟨g, 7, none⟩ = some (.int .u32 h.src) ∧ W.cell? ⟨g, 8, none⟩ = some (.int .u32 h.dst) ∧ W.cell? ⟨g, 9, none⟩ = some (.slice A n c) :=
  ⟨hk.cell 0 _ rfl, hk.cell 1 _ rfl, hk.cell 2 _ rfl, hk.cell 3 _ rfl, hk.cell 4 _ rfl, hk.cell 5 _ rfl, hk.cell 6 _ rfl, hk.cell 7 _ rfl, hk.cell 8 _ rfl, hk.cell 9 _ rfl⟩
theorem Blk.body {W : World} {g : Nat} {t : TypeId} {h : Hd} {A B : Option Addr} {n c m d : Nat} (hk : Blk W g t (pcells h A n c B m d)) : W.cell? ⟨g, 10, none⟩ = some (.slice B m d) := hk.cell 10 _ rfl

theorem Win.cell0 {e : TypeId} {w : World} {g c : Nat} {xs : List UInt8} (h : Win e w g 0 c xs) (j : Nat) (hj : j < xs.length) : w.cell? ⟨g, j, none⟩ = some (.int .u8 (rb xs j)) := by
  have := h.cell j hj
  rwa [Nat.zero_add] at this
/-- How the memory stands while a packet is built. -/
structure BS (w W : World) (g1 g4 gm n : Nat) (h : Hd) (A : Option Addr) (c : Nat) (B : Option Addr) (body : List UInt8) (d : Nat) (xs : List UInt8) : Prop where
  k1 : Blk W g1 37 (pcells h A h.opts.length c B body.length d)
  k4 : Blk W g4 35 (hcells h A h.opts.length c)
  win : Win 5 W gm 0 n xs
  bel : Below w.heap.size w W
theorem BS.next {w W W' : World} {g1 g4 gm n : Nat} {h : Hd} {A : Option Addr} {c : Nat} {B : Option Addr} {body : List UInt8} {d : Nat} {xs xs' : List UInt8} (s : BS w W g1 g4 gm n h A c B body d xs) (n1 : g1 ≠ gm) (n4 : g4 ≠ gm) (hgm : w.heap.size ≤ gm)
    (hf : Fr (fun k _ => k = gm) W W') (hw : Win 5 W' gm 0 n xs') : BS w W' g1 g4 gm n h A c B body d xs' :=
  ⟨s.k1.fr hf fun _ => n1, s.k4.fr hf fun _ => n4, hw, below_frg s.bel s.bel.size hf hgm⟩
theorem BS.nextB {w W W' : World} {g1 g4 gm n : Nat} {h : Hd} {A : Option Addr} {c : Nat} {B : Option Addr} {body : List UInt8} {d : Nat} {xs xs' : List UInt8} (s : BS w W g1 g4 gm n h A c B body d xs) (l1 : g1 < gm) (l4 : g4 < gm) (hgm : w.heap.size ≤ gm)
    (hb : Below gm W W') (hw : Win 5 W' gm 0 n xs') : BS w W' g1 g4 gm n h A c B body d xs' :=
  ⟨⟨(hb.block _ l1).trans s.k1.out⟩, ⟨(hb.block _ l4).trans s.k4.out⟩, hw, s.bel.trans (hb.mono hgm)⟩
theorem BS.alloc {w W : World} {g1 g4 gm n : Nat} {h : Hd} {A : Option Addr} {c : Nat} {B : Option Addr} {body : List UInt8} {d : Nat} {xs : List UInt8} (s : BS w W g1 g4 gm n h A c B body d xs) (o : Obj) : BS w (W.alloc o) g1 g4 gm n h A c B body d xs :=
  ⟨s.k1.alloc o, s.k4.alloc o, s.win.keep ((below_new (Below.refl _ _) o).block _ s.win.lt), below_new s.bel o⟩
theorem BS.drewN {w W : World} {g1 g4 gm n : Nat} {h : Hd} {A : Option Addr} {c : Nat} {B : Option Addr} {body : List UInt8} {d : Nat} {xs : List UInt8} (s : BS w W g1 g4 gm n h A c B body d xs) (m : Nat) : BS w (W.drewN m) g1 g4 gm n h A c B body d xs :=
  ⟨s.k1.drewN m, s.k4.drewN m, s.win.keep rfl, below_drewN s.bel m⟩
theorem BS.drew {w W : World} {g1 g4 gm n : Nat} {h : Hd} {A : Option Addr} {c : Nat} {B : Option Addr} {body : List UInt8} {d : Nat} {xs : List UInt8} (s : BS w W g1 g4 gm n h A c B body d xs) : BS w W.drew g1 g4 gm n h A c B body d xs :=
  ⟨⟨s.k1.out⟩, ⟨s.k4.out⟩, s.win.keep rfl, s.bel.drew⟩
theorem BS.set {w W : World} {g1 g4 gm n : Nat} {h : Hd} {A : Option Addr} {c : Nat} {B : Option Addr} {body : List UInt8} {d : Nat} {xs : List UInt8} (s : BS w W g1 g4 gm n h A c B body d xs) (n1 : g1 ≠ gm) (n4 : g4 ≠ gm) (hgm : w.heap.size ≤ gm) (i : Nat) (y : Int) (hi : i < xs.length) (h0 : 0 ≤ y) (h1 : y ≤ 255) :
    BS w (W.setCell ⟨gm, i, none⟩ (.int .u8 y)) g1 g4 gm n h A c B body d (xs.set i (u8 y)) := by
  have hw := win_set s.win i y hi h0 h1
  rw [Nat.zero_add] at hw
  exact s.next n1 n4 hgm ((fr_set _).mono fun k o _ hs => hs.1) hw
theorem pw_app (L R : List UInt8) (i : Nat) (v : Int) (h : i + 1 < L.length) : pw (L ++ R) i v = pw L i v ++ R := by
  unfold pw
  rw [List.set_append_left _ _ (by omega), List.set_append_left _ _ (by simpa using h)]
theorem laid_hdr (h : Hd) (n : Int) : pw (pw (pw (pw (((pw (pw (pw [u8 (69 + (h.opts.length : Int) / 4), u8 h.tos,0,0,0,0,0,0,0,0,0,0,0,0,0,0,0,0,0,0] (Int.toNat 2) n) (Int.toNat 4) h.id) (Int.toNat 6) (fragW h)).set 8 (u8 h.ttl)).set 9 (u8 h.proto))
    (Int.toNat 12) (h.src / 65536)) (Int.toNat 12 + 2) (h.src % 65536)) (Int.toNat 16) (h.dst / 65536)) (Int.toNat 16 + 2) (h.dst % 65536) = hdr h n 0 := by kernel_rfl
theorem put_sum (h : Hd) (n s : Int) : pw (hdr h n 0) (Int.toNat 10) s = hdr h n s := by kernel_rfl
theorem putW_at (L R : List UInt8) (n : Nat) (hn : L.length + R.length = n) (g c : Nat) (i v : Int) (w : World) (hw : Win 5 w g 0 c (L ++ R)) (hl : n ≤ 140737488351232) (hi : 0 ≤ i) (hi1 : i + 1 < L.length) (v0 : 0 ≤ v) (v1 : v ≤ 65535) :
    Calls Try.prog 91 #[.slice (some ⟨g, 0, none⟩) n c, .int .i64 i, .int .u16 v] w fun e w' =>
      e = .returned (.tuple #[]) ∧ ∃ L', Sec (L' = pw L i.toNat v) ∧ L'.length = L.length ∧ Win 5 w' g 0 c (L' ++ R) ∧ Fr (fun k _ => k = g) w w' := by
  have hn' : (L ++ R).length = n := by rw [List.length_append]; exact hn
  subst hn'
  refine (putWord_any (L ++ R) g 0 c i v w hw hl hi (by rw [List.length_append]; omega) v0 v1).mono ?_
  rintro e w' ⟨rfl, hw', hf⟩
  rw [pw_app _ _ _ _ (by omega)] at hw'
  exact ⟨rfl, _, ⟨rfl⟩, pw_length _ _ _, hw', hf⟩
theorem putL_at (L R : List UInt8) (n : Nat) (hn : L.length + R.length = n) (g c : Nat) (i v : Int) (w : World) (hw : Win 5 w g 0 c (L ++ R)) (hl : n ≤ 140737488351232) (hi : 0 ≤ i) (hi1 : i + 3 < L.length) (v0 : 0 ≤ v) (v1 : v ≤ 4294967295) :
    Calls Try.prog 92 #[.slice (some ⟨g, 0, none⟩) n c, .int .i64 i, .int .u32 v] w fun e w' =>
      e = .returned (.tuple #[]) ∧ ∃ L', Sec (L' = pw (pw L i.toNat (v / 65536)) (i.toNat + 2) (v % 65536)) ∧ L'.length = L.length ∧ Win 5 w' g 0 c (L' ++ R) ∧ Fr (fun k _ => k = g) w w' := by
  have hn' : (L ++ R).length = n := by rw [List.length_append]; exact hn
  subst hn'
  refine (putLong_any (L ++ R) g 0 c i v w hw hl hi (by rw [List.length_append]; omega) v0 v1).mono ?_
  rintro e w' ⟨rfl, hw', hf⟩
  rw [pw_app _ _ _ _ (by omega), pw_app _ _ _ _ (by rw [pw_length]; omega)] at hw'
  exact ⟨rfl, _, ⟨rfl⟩, by rw [pw_length, pw_length], hw', hf⟩

set_option maxHeartbeats 3200000 in
set_option maxRecDepth 100000 in
theorem build_any (h : Hd) (hi : HdIn h) (A B : Option Addr) (c d : Nat) (body : List UInt8) (w : World) (ho : RD w A h.opts) (hoc : h.opts.length ≤ c) (hx : RD w B body) (hbc : body.length ≤ d) :
    Calls Try.prog 45 #[.agg (pcells h A h.opts.length c B body.length d)] w fun e w' => ∃ A1 c1,
      e = .returned (.tuple #[.slice A1 (ifB (buildE h body) (buildS h body)).length c1, .int .i64 (buildE h body)]) ∧ Own 5 w' w.heap.size A1 c1 (ifB (buildE h body) (buildS h body)) ∧ Below w.heap.size w w' := by
  have HO := Sec.mk ho
  have HX := Sec.mk hx
  have lo := ho.len
  have lx := hx.len
  have f0 := hi.off0
  have f1 := hi.off1
  clear ho hx
  by_cases c1 : areaS h.opts = true
  rotate_left
  · have c1' : areaS h.opts = false := by simpa using c1
    have HAR := Sec.mk c1'
    have HE := Sec.mk (show buildE h body = 34 by unfold buildE; rw [if_neg c1])
    clear c1 c1'
    go_enter Try.func45, Try.ntmps45
    go_wp2_with (first
      | (with_reducible refine bx_step w.heap.size rfl 1 rfl 37 _ rfl (pcells h A h.opts.length c B body.length d) rfl (Below.refl _ _) (Nat.le_refl _) ?_; intro g1 w1 hg1 hk1 hb10 hb1 hs1)
      | (refine ld_mid rfl 35 (.tmp 8) rfl g1 0 rfl 37 _ hk1 (hcells h A h.opts.length c) (by kernel_rfl) _ Try.underlying35 rfl (headSize' _ _ _ _) ?_)
      | (with_reducible refine al_step w.heap.size rfl 4 rfl 35 rfl (hcells Hd.zero none 0 0) headZero hb1 hb1.size ?_; intro g4 w2 hg4 hk4 hb20 hb2 hs2
         have hk1 := hk1.below hb20
         have hne : g1 ≠ g4 := by have := hk1.ne hk4 (by decide); exact this)
      | (with_reducible refine st_row (w0 := w) w.heap.size rfl 35 (.tmp 4) _ rfl g4 _ rfl rfl 35 _ hk4 (headSize' _ _ _ _) (hcells_sizes _ _ _ _ _ _ _ _) (hcells_one _ _ _ _) hb2 (Nat.le_trans hb1.size hg4) ?_
         intro w3 hk4 hb3 hf3 hs3
         clear hs3
         have hk1 := hk1.fr hf3 (fun _ => hne)
         have q10 := hk1.body
         obtain ⟨q0, q1, q2, q3, q4, q5, q6, q7, q8, q9⟩ := hk4.head))
    refine (options_any h.opts A c _ (HO.out.below hb3) hoc).mono ?_
    rintro e w4 ⟨rfl, ⟨m4, rfl⟩⟩
    rw [HAR.out]
    go_wp2_with fail
    go_ret2
    exact ⟨none, 0, by rw [HE.out]; rfl, by rw [HE.out]; exact .nil, (below_drewN hb3 _)⟩
  have HAR := Sec.mk c1
  obtain ⟨l1, l2⟩ := areaS_len c1
  clear c1
  by_cases c2 : pieceS h.off body.length h.mf = true
  rotate_left
  · have c2' : pieceS h.off body.length h.mf = false := by simpa using c2
    have HPC := Sec.mk c2'
    have HE := Sec.mk (show buildE h body = 36 by unfold buildE; rw [if_pos HAR.out, if_neg c2])
    clear c2 c2'
    go_enter Try.func45, Try.ntmps45
    go_wp2_with (first
      | (with_reducible refine bx_step w.heap.size rfl 1 rfl 37 _ rfl (pcells h A h.opts.length c B body.length d) rfl (Below.refl _ _) (Nat.le_refl _) ?_; intro g1 w1 hg1 hk1 hb10 hb1 hs1)
      | (refine ld_mid rfl 35 (.tmp 8) rfl g1 0 rfl 37 _ hk1 (hcells h A h.opts.length c) (by kernel_rfl) _ Try.underlying35 rfl (headSize' _ _ _ _) ?_)
      | (with_reducible refine al_step w.heap.size rfl 4 rfl 35 rfl (hcells Hd.zero none 0 0) headZero hb1 hb1.size ?_; intro g4 w2 hg4 hk4 hb20 hb2 hs2
         have hk1 := hk1.below hb20
         have hne : g1 ≠ g4 := by have := hk1.ne hk4 (by decide); exact this)
      | (with_reducible refine st_row (w0 := w) w.heap.size rfl 35 (.tmp 4) _ rfl g4 _ rfl rfl 35 _ hk4 (headSize' _ _ _ _) (hcells_sizes _ _ _ _ _ _ _ _) (hcells_one _ _ _ _) hb2 (Nat.le_trans hb1.size hg4) ?_
         intro w3 hk4 hb3 hf3 hs3
         clear hs3
         have hk1 := hk1.fr hf3 (fun _ => hne)
         have q10 := hk1.body
         obtain ⟨q0, q1, q2, q3, q4, q5, q6, q7, q8, q9⟩ := hk4.head))
    refine (options_any h.opts A c _ (HO.out.below hb3) hoc).mono ?_
    rintro e w4 ⟨rfl, ⟨m4, rfl⟩⟩
    rw [HAR.out]
    go_wp2_with fail
    refine (orderly_any h.off body.length h.mf _ f0 f1 (by omega) (by omega)).mono ?_
    rintro e w5 ⟨rfl, rfl⟩
    rw [HPC.out]
    go_wp2_with fail
    go_ret2
    exact ⟨none, 0, by rw [HE.out]; rfl, by rw [HE.out]; exact .nil, (below_drewN hb3 _)⟩
  have HPC := Sec.mk c2
  obtain ⟨p1, p2, p3, p4⟩ := pieceS_off c2
  clear c2
  by_cases c3 : (20 + h.opts.length + body.length : Int) > 65535
  · have HE := Sec.mk (show buildE h body = 37 by unfold buildE; rw [if_pos HAR.out, if_pos HPC.out, if_pos c3])
    go_enter Try.func45, Try.ntmps45
    go_wp2_with (first
      | (with_reducible refine bx_step w.heap.size rfl 1 rfl 37 _ rfl (pcells h A h.opts.length c B body.length d) rfl (Below.refl _ _) (Nat.le_refl _) ?_; intro g1 w1 hg1 hk1 hb10 hb1 hs1)
      | (refine ld_mid rfl 35 (.tmp 8) rfl g1 0 rfl 37 _ hk1 (hcells h A h.opts.length c) (by kernel_rfl) _ Try.underlying35 rfl (headSize' _ _ _ _) ?_)
      | (with_reducible refine al_step w.heap.size rfl 4 rfl 35 rfl (hcells Hd.zero none 0 0) headZero hb1 hb1.size ?_; intro g4 w2 hg4 hk4 hb20 hb2 hs2
         have hk1 := hk1.below hb20
         have hne : g1 ≠ g4 := by have := hk1.ne hk4 (by decide); exact this)
      | (with_reducible refine st_row (w0 := w) w.heap.size rfl 35 (.tmp 4) _ rfl g4 _ rfl rfl 35 _ hk4 (headSize' _ _ _ _) (hcells_sizes _ _ _ _ _ _ _ _) (hcells_one _ _ _ _) hb2 (Nat.le_trans hb1.size hg4) ?_
         intro w3 hk4 hb3 hf3 hs3
         clear hs3
         have hk1 := hk1.fr hf3 (fun _ => hne)
         have q10 := hk1.body
         obtain ⟨q0, q1, q2, q3, q4, q5, q6, q7, q8, q9⟩ := hk4.head))
    refine (options_any h.opts A c _ (HO.out.below hb3) hoc).mono ?_
    rintro e w4 ⟨rfl, ⟨m4, rfl⟩⟩
    rw [HAR.out]
    go_wp2_with fail
    refine (orderly_any h.off body.length h.mf _ f0 f1 (by omega) (by omega)).mono ?_
    rintro e w5 ⟨rfl, rfl⟩
    rw [HPC.out]
    go_wp2_with fail
    go_ret2
    exact ⟨none, 0, by rw [HE.out]; rfl, by rw [HE.out]; exact .nil, (below_drewN hb3 _)⟩
  have HE := Sec.mk (show buildE h body = 0 by unfold buildE; rw [if_pos HAR.out, if_pos HPC.out, if_neg c3])
  have c3' : (20 + h.opts.length + body.length : Int) ≤ 65535 := by omega
  have c3b : decide ((65535 : Int) < 20 + h.opts.length + body.length) = false := decide_eq_false (by omega)
  clear c3
  obtain ⟨n, hn⟩ : ∃ n, n = 20 + h.opts.length + body.length := ⟨_, rfl⟩
  have hmk : ∀ W : World, (Instr.makeSlice 30 (.int .i64 (20 + (h.opts.length : Int) + body.length)) (.int .i64 (20 + (h.opts.length : Int) + body.length))).run Try.prog W = .ok (.slice (some ⟨W.heap.size, 0, none⟩) n n) (W.alloc (.cells (madeCells #[.int .u8 0] n) 5)) := by
    intro W
    have hr := run_mk (P := Try.prog) 30 5 Try.underlying30 byteInfo (20 + h.opts.length + body.length : Int) (by omega) (by omega) W
    rw [show (20 + (h.opts.length : Int) + body.length).toNat = n from by omega] at hr
    exact hr
  have hv : bits .or .i64 64 ((20 + (h.opts.length : Int)) / 4) = 69 + h.opts.length / 4 := by rw [or64_ver _ (by omega) (by omega)]; omega
  have hv0 : 0 ≤ 69 + (h.opts.length : Int) / 4 := by omega
  have hv1 : 69 + (h.opts.length : Int) / 4 ≤ 79 := by omega
  have hnle : n ≤ 140737488351232 := by omega
  have HZ : Sec (List.replicate n (0 : UInt8) = [0,0,0,0,0,0,0,0,0,0,0,0,0,0,0,0,0,0,0,0] ++ List.replicate (h.opts.length + body.length) 0) := ⟨by
    rw [hn, Nat.add_assoc, ← List.replicate_append_replicate]; rfl⟩
  have hn0 : 0 < n := by omega
  have HN := Sec.mk hn
  have hna : 20 + h.opts.length + body.length ≤ n := by omega
  have hnb : n ≤ 20 + h.opts.length + body.length := by omega
  clear hn
  go_enter Try.func45, Try.ntmps45
  go_wp2_with (first
    | (with_reducible refine bx_step w.heap.size rfl 1 rfl 37 _ rfl (pcells h A h.opts.length c B body.length d) rfl (Below.refl _ _) (Nat.le_refl _) ?_; intro g1 w1 hg1 hk1 hb10 hb1 hs1)
    | (refine ld_mid rfl 35 (.tmp 8) rfl g1 0 rfl 37 _ hk1 (hcells h A h.opts.length c) (by kernel_rfl) _ Try.underlying35 rfl (headSize' _ _ _ _) ?_)
    | (with_reducible refine al_step w.heap.size rfl 4 rfl 35 rfl (hcells Hd.zero none 0 0) headZero hb1 hb1.size ?_; intro g4 w2 hg4 hk4 hb20 hb2 hs2
       have hk1 := hk1.below hb20
       have hne : g1 ≠ g4 := by have := hk1.ne hk4 (by decide); exact this)
    | (with_reducible refine st_row (w0 := w) w.heap.size rfl 35 (.tmp 4) _ rfl g4 _ rfl rfl 35 _ hk4 (headSize' _ _ _ _) (hcells_sizes _ _ _ _ _ _ _ _) (hcells_one _ _ _ _) hb2 (Nat.le_trans hb1.size hg4) ?_
       intro w3 hk4 hb3 hf3 hs3
       clear hs3
       have hk1 := hk1.fr hf3 (fun _ => hne)
       have q10 := hk1.body
       obtain ⟨q0, q1, q2, q3, q4, q5, q6, q7, q8, q9⟩ := hk4.head))
  refine (options_any h.opts A c _ (HO.out.below hb3) hoc).mono ?_
  rintro e w4 ⟨rfl, ⟨m4, rfl⟩⟩
  rw [HAR.out]
  go_wp2_with fail
  refine (orderly_any h.off body.length h.mf _ f0 f1 (by omega) (by omega)).mono ?_
  rintro e w5 ⟨rfl, rfl⟩
  rw [HPC.out]
  go_wp2_with fail
  try rw [← HN.out]
  have n1 : g1 ≠ w3.heap.size := by have := hk1.lt; omega
  have n4 : g4 ≠ w3.heap.size := by have := hk4.lt; omega
  have k1lt : g1 < w3.heap.size := hk1.lt
  have k4lt : g4 < w3.heap.size := hk4.lt
  have hw0 := win_made (w3.drewN m4) 5 n hnle
  rw [show (w3.drewN m4).heap.size = w3.heap.size from rfl, HZ.out] at hw0
  have s0 : BS w ((w3.drewN m4).alloc (.cells (madeCells #[.int .u8 0] n) 5)) g1 g4 w3.heap.size n h A c B body d _ := ⟨(hk1.drewN m4).alloc _, (hk4.drewN m4).alloc _, hw0, below_new (below_drewN hb3 m4) _⟩
  have hgm := hb3.size
  clear hw0 hk1 hk4 hb3 q0 q1 q2 q3 q4 q5 q6 q7 q8 q9 q10 hf3 hb2 hb20 hb1 hb10
  generalize w3.heap.size = gm at s0 n1 n4 k1lt k4lt hgm ⊢
  generalize (w3.drewN m4).alloc (.cells (madeCells #[.int .u8 0] n) 5) = W0 at s0 ⊢
  clear hmk hs1 hs2 hg4 hg1 hne w3 m4
  obtain ⟨q0, q1, q2, q3, q4, q5, q6, q7, q8, q9⟩ := s0.k4.head
  have z0 := s0.win.cell0 0 (by simp)
  have z1 := s0.win.cell0 1 (by simp)
  have zf := s0.win.frozen
  have hn1 : (1 : Int) < n := by omega
  have hn0 : (0 : Int) < n := by omega
  go_region
  have hti := hi.tos0
  have hti1 := hi.tos1
  have s1 := ((s0.set n1 n4 hgm 0 (69 + (h.opts.length : Int) / 4) (by simp) hv0 (by omega)).set n1 n4 hgm 1 h.tos (by simp) hti hti1).drew
  generalize ((W0.setCell ⟨gm, 0, none⟩ (.int .u8 (69 + (h.opts.length : Int) / 4))).setCell ⟨gm, 1, none⟩ (.int .u8 h.tos)).drew = W1 at s1 ⊢
  obtain ⟨R, hR⟩ : ∃ R, R = List.replicate (h.opts.length + body.length) (0 : UInt8) := ⟨_, rfl⟩
  have hRl : R.length = h.opts.length + body.length := by rw [hR]; simp
  have HR := Sec.mk hR
  rw [← hR] at s1
  obtain ⟨L1, hL1⟩ : ∃ L, L = [u8 (69 + (h.opts.length : Int) / 4), u8 h.tos,0,0,0,0,0,0,0,0,0,0,0,0,0,0,0,0,0,0] := ⟨_, rfl⟩
  have l1' : L1.length = 20 := by rw [hL1]; rfl
  have s1 : BS w W1 g1 g4 gm n h A c B body d (L1 ++ R) := by rw [hL1]; exact s1
  have H1 := Sec.mk hL1
  clear hR z0 z1 zf s0 hti hti1 hL1
  clear q0 q1 q2 q3 q4 q5 q6 q7 q8 q9
  obtain ⟨q0, q1, q2, q3, q4, q5, q6, q7, q8, q9⟩ := s1.k4.head
  have q10 := s1.k1.body
  have hN0 : (0 : Int) ≤ n := by omega
  have hN1 : (n : Int) ≤ 65535 := by omega
  go_wp2_with fail
  refine (putW_at L1 R n (by omega) gm n 2 n W1 s1.win (by omega) (by omega) (by omega) hN0 hN1).mono ?_
  rintro e W2 ⟨rfl, L2, H2, l2', hw2, hf2⟩
  have s2 := s1.next n1 n4 hgm hf2 hw2
  clear hw2 hf2 s1
  clear q0 q1 q2 q3 q4 q5 q6 q7 q8 q9 q10
  obtain ⟨q0, q1, q2, q3, q4, q5, q6, q7, q8, q9⟩ := s2.k4.head
  have q10 := s2.k1.body
  have i0 := hi.id0
  have i1 := hi.id1
  go_wp2_with fail
  refine (putW_at L2 R n (by omega) gm n 4 h.id W2 s2.win (by omega) (by omega) (by omega) i0 i1).mono ?_
  rintro e W3 ⟨rfl, L3, H3, l3', hw3, hf3⟩
  have s3 := s2.next n1 n4 hgm hf3 hw3
  clear hw3 hf3 s2
  clear q0 q1 q2 q3 q4 q5 q6 q7 q8 q9 q10
  obtain ⟨q0, q1, q2, q3, q4, q5, q6, q7, q8, q9⟩ := s3.k4.head
  have q10 := s3.k1.body
  have r0 : 0 ≤ h.off / 8 := by omega
  have r1 : h.off / 8 ≤ 8191 := by omega
  have m2 := or16_df (h.off / 8) r0 r1
  obtain ⟨F1, hF1⟩ : ∃ F1 : Int, F1 = h.off / 8 + (if h.df then 16384 else 0) := ⟨_, rfl⟩
  have F10 : 0 ≤ F1 := by rw [hF1]; split <;> omega
  have F11 : F1 ≤ 24575 := by rw [hF1]; split <;> omega
  have HF1 := Sec.mk hF1
  have HFW : Sec (fragW h = F1 + (if h.mf then 8192 else 0)) := ⟨by rw [hF1]; rfl⟩
  have HF8 : Sec (bits .or .u16 F1 8192 = F1 + 8192) := ⟨by rw [hF1]; exact or16_mf (h.off / 8) h.df r0 r1⟩
  have F20 : 0 ≤ fragW h := by rw [HFW.out]; split <;> omega
  have F21 : fragW h ≤ 65535 := by rw [HFW.out]; split <;> omega
  clear hF1
  obtain ⟨dv, hdv⟩ : ∃ dv, dv = h.df := ⟨_, rfl⟩
  obtain ⟨mv, hmv⟩ : ∃ mv, mv = h.mf := ⟨_, rfl⟩
  have HDV := Sec.mk hdv
  have HMV := Sec.mk hmv
  rw [← hdv] at q2
  rw [← hmv] at q3
  clear hdv hmv
  go_upto_if 65 with fail
  go_cut [7] from 66 to 67 (fun v wx => v = .int .u16 F1 ∧ wx = W3)
  case first =>
    have hd1 := HDV.out
    have hf1 := HF1.out
    rw [← hd1] at hf1
    clear HDV hd1
    cases dv
    · simp only [Bool.false_eq_true, if_false, Int.add_zero] at hf1
      subst hf1
      go_wp2_with fail
      go_meet
      exact ⟨rfl, rfl⟩
    · simp only [if_true] at hf1
      subst hf1
      go_wp2_with fail
      go_meet
      exact ⟨rfl, rfl⟩
  obtain ⟨rfl, hwc⟩ := hcut
  obtain rfl := hwc.symm
  go_upto_if 69 with fail
  go_cut [7] from 70 to 71 (fun v wx => v = .int .u16 (fragW h) ∧ wx = W3)
  case first =>
    have hd1 := HMV.out
    have hf1 := HFW.out
    have m8 := HF8.out
    rw [← hd1] at hf1
    have HFF := Sec.mk hf1
    clear HMV hd1 hf1
    cases mv
    · go_wp2_with fail
      go_meet
      exact ⟨by rw [HFF.out]; simp, rfl⟩
    · go_wp2_with fail
      go_meet
      exact ⟨by rw [HFF.out]; simp, rfl⟩
  obtain ⟨rfl, hwc⟩ := hcut
  obtain rfl := hwc.symm
  go_wp2_with fail
  refine (putW_at L3 R n (by omega) gm n 6 (fragW h) W3 s3.win (by omega) (by omega) (by omega) (by omega) (by omega)).mono ?_
  rintro e W4 ⟨rfl, L4, H4, l4', hw4, hf4⟩
  have s4 := s3.next n1 n4 hgm hf4 hw4
  clear hw4 hf4
  clear q0 q1 q2 q3 q4 q5 q6 q7 q8 q9 q10
  obtain ⟨q0, q1, q2, q3, q4, q5, q6, q7, q8, q9⟩ := s4.k4.head
  have q10 := s4.k1.body
  have z8 := s4.win.cell0 8 (by simp; omega)
  have z9 := s4.win.cell0 9 (by simp; omega)
  have zf := s4.win.frozen
  go_wp2_with fail
  go_region
  have s5 := ((s4.set n1 n4 hgm 8 h.ttl (by simp; omega) hi.ttl0 hi.ttl1).set n1 n4 hgm 9 h.proto (by simp; omega) hi.pro0 hi.pro1).drew
  rw [List.set_append_left _ _ (by omega), List.set_append_left _ _ (by rw [List.length_set]; omega)] at s5
  generalize ((W4.setCell ⟨gm, 8, none⟩ (.int .u8 h.ttl)).setCell ⟨gm, 9, none⟩ (.int .u8 h.proto)).drew = W5 at s5 ⊢
  obtain ⟨L5, hL5⟩ : ∃ L, L = (L4.set 8 (u8 h.ttl)).set 9 (u8 h.proto) := ⟨_, rfl⟩
  have l5' : L5.length = 20 := by rw [hL5, List.length_set, List.length_set]; omega
  rw [← hL5] at s5
  have H5 := Sec.mk hL5
  clear z8 z9 zf hL5
  clear q0 q1 q2 q3 q4 q5 q6 q7 q8 q9 q10
  obtain ⟨q0, q1, q2, q3, q4, q5, q6, q7, q8, q9⟩ := s5.k4.head
  have q10 := s5.k1.body
  go_wp2_with fail
  refine (putL_at L5 R n (by omega) gm n 12 h.src W5 s5.win (by omega) (by omega) (by omega) hi.src0 hi.src1).mono ?_
  rintro e W6 ⟨rfl, L6, H6, l6', hw6, hf6⟩
  have s6 := s5.next n1 n4 hgm hf6 hw6
  clear hw6 hf6
  clear q0 q1 q2 q3 q4 q5 q6 q7 q8 q9 q10
  obtain ⟨q0, q1, q2, q3, q4, q5, q6, q7, q8, q9⟩ := s6.k4.head
  have q10 := s6.k1.body
  go_wp2_with fail
  refine (putL_at L6 R n (by omega) gm n 16 h.dst W6 s6.win (by omega) (by omega) (by omega) hi.dst0 hi.dst1).mono ?_
  rintro e W7 ⟨rfl, L7, H7, l7', hw7, hf7⟩
  have s7 := s6.next n1 n4 hgm hf7 hw7
  clear hw7 hf7
  clear q0 q1 q2 q3 q4 q5 q6 q7 q8 q9 q10
  obtain ⟨q0, q1, q2, q3, q4, q5, q6, q7, q8, q9⟩ := s7.k4.head
  have q10 := s7.k1.body
  have hF : L7 = hdr h n 0 := by
    have e1 := H1.out
    have e2 := H2.out
    have e3 := H3.out
    have e4 := H4.out
    have e5 := H5.out
    have e6 := H6.out
    have e7 := H7.out
    rw [e7, e6, e5, e4, e3, e2, e1]
    exact laid_hdr h n
  subst hF
  have hq20 : (20 : Int) ≤ n := by omega
  obtain ⟨D1, hD1⟩ : ∃ D, D = cutA (some ⟨gm, 0, none⟩) n 20 := ⟨_, rfl⟩
  have hcut1 : ∀ W : World, (Instr.slice 30 (.slice (some ⟨gm, 0, none⟩) n n) (some (.int .i64 20)) none none).run Try.prog W = .ok (.slice D1 (n - 20) (n - 20)) W := by
    intro W
    rw [run_cut_lo 30 5 Try.underlying30 byteInfo _ n n .i64 20 (by omega) hq20 W, hD1]
    rfl
  have hpos1 : 0 < h.opts.length → D1 = some ⟨gm, 0 + 20, none⟩ := fun hp => by
    rw [hD1]
    unfold cutA
    rw [if_neg (by omega)]
    simp [addr_plain]
  obtain ⟨D2, hD2⟩ : ∃ D, D = cutA (some ⟨gm, 0, none⟩) n (20 + h.opts.length) := ⟨_, rfl⟩
  have hcut2 : ∀ W : World, (Instr.slice 30 (.slice (some ⟨gm, 0, none⟩) n n) (some (.int .i64 (20 + (h.opts.length : Int)))) none none).run Try.prog W = .ok (.slice D2 body.length body.length) W := by
    intro W
    rw [run_cut_lo 30 5 Try.underlying30 byteInfo _ n n .i64 (20 + h.opts.length) (by omega) (by omega) W, hD2, show (20 + (h.opts.length : Int)).toNat = 20 + h.opts.length from by omega, show n - (20 + h.opts.length) = body.length from by omega]
  have hpos2 : 0 < body.length → D2 = some ⟨gm, 0 + (20 + h.opts.length), none⟩ := fun hp => by
    rw [hD2]
    unfold cutA
    rw [if_neg (by omega)]
    simp [addr_plain]
  have HP1 := Sec.mk hpos1
  have HP2 := Sec.mk hpos2
  clear hD1 hD2 hpos1 hpos2
  go_wp2_with fail
  refine wp_region_quiet_tail 4 (by kernel_rfl) (by kernel_rfl) ?_
  simp only [List.take_succ_cons, List.take_zero, List.drop_succ_cons, List.drop_zero]
  repeat (quiet_step (fail))
  refine wpQuiet_nil ?_
  rintro w' ⟨nq, rfl⟩
  have e8 : over (hdr h n 0 ++ R) 20 h.opts = hdr h n 0 ++ h.opts ++ List.replicate body.length 0 := by
    rw [HR.out]
    have := over_mid (hdr h n 0) h.opts (h.opts.length + body.length) (by omega)
    rw [hdr_length] at this
    rw [this, show h.opts.length + body.length - h.opts.length = body.length from by omega]
  have e9 : over (hdr h n 0 ++ h.opts ++ List.replicate body.length 0) (20 + h.opts.length) body = hdr h n 0 ++ h.opts ++ body := by
    have := over_mid (hdr h n 0 ++ h.opts) body body.length (by omega)
    rw [List.length_append, hdr_length] at this
    rw [this, Nat.sub_self]
    simp
  have E8 := Sec.mk e8
  have E9 := Sec.mk e9
  have s7 := s7.drewN nq
  clear e8 e9
  clear q0 q1 q2 q3 q4 q5 q6 q7 q8 q9 q10
  generalize W7.drewN nq = W7 at s7 ⊢
  go_wp2_with (with_reducible refine cpy_step (w0 := W7) gm rfl (.tmp 92) (.tmp 94) 30 30 5 rfl Try.underlying30 byteInfo s7.win 20 _ _ _ A c h.opts _ rfl rfl rfl (HO.out.below s7.bel) HP1.out (by omega) (by rw [List.length_append, hdr_length]; omega) (Below.refl _ _) (Nat.le_refl _) ?_
               intro W8 zs8 hz8 hw8 hb8 hs8
               have hw8' := hw8
               rw [hz8.out, E8.out] at hw8'
               have s8 := s7.nextB k1lt k4lt hgm hb8 hw8'
               clear hw8 hw8' hb8 hs8 hz8
               obtain ⟨q0, q1, q2, q3, q4, q5, q6, q7, q8, q9⟩ := s8.k4.head
               have q10 := s8.k1.body)
  refine wp_region_quiet_tail 5 (by kernel_rfl) (by kernel_rfl) ?_
  simp only [List.take_succ_cons, List.take_zero, List.drop_succ_cons, List.drop_zero]
  repeat (quiet_step (fail))
  refine wpQuiet_nil ?_
  rintro w' ⟨nq2, rfl⟩
  have s8 := s8.drewN nq2
  clear q0 q1 q2 q3 q4 q5 q6 q7 q8 q9 q10
  generalize W8.drewN nq2 = W8 at s8 ⊢
  go_wp2_with (with_reducible refine cpy_step (w0 := W8) gm rfl (.tmp 98) (.tmp 100) 30 30 5 rfl Try.underlying30 byteInfo s8.win (20 + h.opts.length) _ _ _ B d body _ rfl rfl rfl (HX.out.below s8.bel) HP2.out (by omega) (by rw [List.length_append, List.length_append, hdr_length]; simp) (Below.refl _ _) (Nat.le_refl _) ?_
               intro W9 zs9 hz9 hw9 hb9 hs9
               have hw9' := hw9
               rw [hz9.out, E9.out] at hw9'
               have s9 := s8.nextB k1lt k4lt hgm hb9 hw9'
               clear hw9 hw9' hb9 hs9 hz9)
  obtain ⟨X, hX⟩ : ∃ X, X = hdr h n 0 ++ h.opts ++ body := ⟨_, rfl⟩
  have hXl : X.length = n := by rw [hX, List.length_append, List.length_append, hdr_length]; omega
  rw [← hX] at s9
  have hrx := s9.win.reads (by omega)
  obtain ⟨y1, HY1, hy1l, HR1, hy1c, hcut3⟩ := cut_hi (P := Try.prog) Try.underlying30 byteInfo hrx (show X.length ≤ n by omega) .i64 10 (by omega) (by omega)
  obtain ⟨A2, c2, y2, HY2, hy2l, HR2, hy2c, hcut4⟩ := cut_lohi (P := Try.prog) Try.underlying30 byteInfo hrx (show X.length ≤ n by omega) .i64 .i64 12 (20 + h.opts.length) (by omega) (by omega) (by omega)
  rw [hXl] at hcut3 hcut4
  have HSUM : Sec (sumS [y1, y2].flatten = sumS (hdr h n 0 ++ h.opts)) := ⟨by
    rw [show [y1, y2].flatten = y1 ++ y2 from by simp, HY1.out, HY2.out]
    have e1 : X.take (20 + (h.opts.length : Int)).toNat = hdr h n 0 ++ h.opts := by
      rw [show (20 + (h.opts.length : Int)).toNat = (hdr h n 0 ++ h.opts).length from by rw [List.length_append, hdr_length]; omega, hX, List.take_left]
    have e2 : X.take (10 : Int).toNat = (hdr h n 0 ++ h.opts).take 10 := by
      rw [hX]
      exact List.take_append_of_le_length (by rw [List.length_append, hdr_length]; omega)
    rw [e1, e2]
    exact sum_skip _ (by rw [List.getElem?_append_left (by rw [hdr_length]; omega)]; rfl) (by rw [List.getElem?_append_left (by rw [hdr_length]; omega)]; rfl)⟩
  have HYF : [y1, y2].flatten.length ≤ 140737488351232 := by simp; omega
  have HX9 := Sec.mk hX
  have s9w := s9.win
  rw [hX, List.append_assoc] at s9w
  obtain ⟨sm, hsm⟩ : ∃ sm, sm = sumS [y1, y2].flatten := ⟨_, rfl⟩
  have sm0 : 0 ≤ sm := by rw [hsm]; exact sumS_lo _
  have sm1 : sm ≤ 65535 := by rw [hsm]; exact sumS_hi _
  have HSM := Sec.mk hsm
  clear hX hsm hrx
  go_region_with (first
    | (go_at_call 46
       go_loud (refine (sum_any [y1, y2] _ _ _ (RDs.alloc2 (by simp) 30 hy1c hy2c (HR1.out.below ((Below.refl _ _).drew)) (HR2.out.below ((Below.refl _ _).drew))) HYF).mono ?_
                rintro e w1 ⟨rfl, rfl⟩
                rw [← HSM.out]))
    | (go_at_call 91
       go_loud (refine (putW_at (hdr h n 0) (h.opts ++ body) n (by rw [List.length_append, hdr_length]; omega) gm n 10 sm _ ((s9w.keep (w' := W9.drew) rfl).keep ((below_new (Below.refl _ _) _).block _ s9w.lt)) (by omega) (by omega) (by rw [hdr_length]; omega) sm0 sm1).mono ?_
                rintro e W10 ⟨rfl, L10, H10, l10', hw10, hf10⟩
                have hbA := below_frg (below_new s9.bel.drew _) (Nat.le_trans s9.bel.size (by simp)) hf10 hgm)))
  go_wp2_with fail
  go_ret2
  have hL : L10 = hdr h n sm := by rw [H10.out]; exact put_sum h n sm
  have hN : (n : Int) = 20 + h.opts.length + body.length := by omega
  have hB : buildS h body = L10 ++ (h.opts ++ body) := by
    rw [hL, HSM.out, HSUM.out]
    unfold buildS headW
    rw [← hN, List.append_assoc]
  have hl : (L10 ++ (h.opts ++ body)).length = n := by rw [List.length_append, List.length_append, l10', hdr_length]; omega
  rw [HE.out, ifB_ok _ rfl, hB]
  refine ⟨some ⟨gm, 0, none⟩, n, by rw [hl]; rfl, .win _ _ _ _ hgm hw10 (by omega), hbA⟩

end Go.Proofs.Ytdjldipiggfjdaa
