/- WHAT IS PROVED HERE: Package judge: Read of a state that is known. -/
import Derived.Test.YtpeflgfldbjflaaGreatDoorG41
set_option linter.unusedVariables false
set_option linter.unusedSimpArgs false
set_option linter.unusedSectionVars false
set_option linter.unnecessarySimpa false
section
namespace Go.Proofs.YtpeflgfldbjflaaGreatDoor
open Go.RowKit Go.Orch Go.Shelf
set_option maxRecDepth 100000 in
set_option maxHeartbeats 4000000 in
theorem juRead_known (R w : World) (l : List HP) (G : GoodR R) (jb : Nat) (J : JuV) (k n : Nat) (hk : k < J.states.length) (hlen : J.states.length ≤ 100000) (S : StV) (hS : J.states[k] = S) (hok : S.ok n) (s : ByteArray) (hs : s.size ≤ 1000000) (e0 : Int) (he : e0 ≠ 21) (r : ResV) (rv : Value) (nd : NodeV) (kv ev : Value) (lead least : Int) (hl : least ≤ k) (ks : List ByteArray) (hks : ks.length ≤ 1000000)
    (H : Orch.Sep R w (juAt jb J :: strS kv ks :: l)) :
    Calls Tryz.prog 12 #[.pointer (some ⟨jb, 0, none⟩), .string s, .agg (repC e0 r rv nd kv ev (k : Int) lead).toArray, .int .i64 least] w fun e w' => e = .returned (.bool (!readBad S s nd e0 ks)) ∧ Orch.Sep R w' (juAt jb (bad_ J (readBad S s nd e0 ks)) :: strS kv ks :: l) := by
  have hkl := tkids_len hok.1 s
  have htr := hok.tree
  have HG := Lib.hid (fun w l tb H => tget_any R w l G tb S.tree s (by omega) H)
  have HKd := Lib.hid (fun w l tb H => tkids_any R w l G tb S.tree htr s (by omega) H)
  have HNe := Lib.hid (fun w => neqNode (tget S.tree s).1 nd w)
  have HKn := Lib.hid (fun w l H => juKnown_any R w l jb J (by omega) H)
  have HBd := Lib.hid (fun w l is H => juBad_any R w l jb J is H)
  have hrb : readBad S s nd e0 ks = (!decide ((tget S.tree s).1 = nd) || (!decide ((tget S.tree s).2 = e0) || !decide ((tkids S.tree s).1 = ks))) := rfl
  generalize readBad S s nd e0 ks = rb at *
  generalize htg : tget S.tree s = tg at *
  obtain ⟨⟨g1, g2, g3, g4, g5, g6, g7⟩, ge⟩ := tg
  generalize htk : tkids S.tree s = tk at *
  obtain ⟨tks, tke⟩ := tk
  simp only at HG HKd HNe hrb hkl
  obtain ⟨r1, r2, r3, r4⟩ := r
  obtain ⟨n1, n2, n3, n4, n5, n6, n7⟩ := nd
  obtain ⟨kp, kc, rfl⟩ := ((Sep.f1 (H))).listSlice
  have H1 := Lib.hid (H.mkc (repC e0 ⟨r1, r2, r3, r4⟩ rv ⟨n1, n2, n3, n4, n5, n6, n7⟩ (.slice kp ks.length kc) ev (k : Int) lead).toArray 50)
  simp only [repC] at *
  have hb : (e0 == 21) = false := by simpa using he
  have hl2 : decide ((k : Int) < least) = false := decide_eq_false (by omega)
  have hl3 : decide ((J.states.length : Int) - 1 < (k : Int)) = false := decide_eq_false (by omega)
  have k14 : World.cell? _ ⟨w.heap.size, 14, none⟩ = some (.int .i64 (k : Int)) := H1.out.c 14 rfl
  have HB1 := Lib.hid (HBd.out _ _ false ((Sep.f1 (H1.out.drew))))
  obtain ⟨d1, hd1⟩ : ∃ d1, d1 = decide ((⟨g1, g2, g3, g4, g5, g6, g7⟩ : NodeV) = ⟨n1, n2, n3, n4, n5, n6, n7⟩) := ⟨_, rfl⟩
  obtain ⟨d2, hd2⟩ : ∃ d2, d2 = decide (ge = e0) := ⟨_, rfl⟩
  obtain ⟨d3, hd3⟩ : ∃ d3, d3 = decide (tks = ks) := ⟨_, rfl⟩
  rw [← hd1, ← hd2, ← hd3] at hrb
  have hne := HNe.out
  rw [← hd1] at hne
  simp only [nodeV] at hne
  have hge : (ge != e0) = !d2 := by rw [hd2]; simp [bne]; rfl
  have hk1 : tks.length ≤ 9000000000000000000 := by omega
  have hk2' : ks.length ≤ 9000000000000000000 := by omega
  have HNe2 := Lib.hid hne
  have HGe := Lib.hid hge
  have HK1 := Lib.hid hk1
  have HK2 := Lib.hid hk2'
  clear hne hge hk1 hk2'
  have HRb := Lib.hid hrb
  have HD3 := Lib.hid hd3
  clear HNe hd1 hd2 hd3
  clear H he htg htk hrb hl htr hlen
  generalize hnb : w.heap.size = nb at *
  go_enter Tryz.func12, Tryz.ntmps12
  go_wp2_with fail
  first
  | go_region_held3 (fun W => W.cell? ⟨nb, 14, none⟩ = some (.int .i64 (k : Int)))
      (first
        | exact k14
        | exact ((Sep.f1 (H3))).c 14 rfl
        | exact ((Sep.f1 (H2))).c 14 rfl)
      (first
        | (go_at_call 25; refine Calls.mono HB1.out ?_; rintro e w1 ⟨rfl, H2⟩)
        | (go_at_call 18; refine Calls.mono (HKn.out _ _ H2) ?_; rintro e w2 ⟨rfl, H3⟩))
  | fail
  have X0 : Orch.Sep R w2 (juAt jb J :: cellsAt nb #[.int .i64 e0, .int .i64 r1, .int .i64 r2, rv, .int .i64 r4, .string n1, .int .i64 n2, .int .i64 n3, .int .i64 n4, .int .i64 n5, .int .i64 n6, .int .i64 n7, .slice kp ks.length kc, ev, .int .i64 (k : Int), .int .i64 lead] :: strS (.slice kp ks.length kc) ks :: l) := H3
  obtain ⟨tb, eb, sv, bs, hkb, Xr, hbl, H4, hcl, _⟩ := X0.juSt3 k hk
  rw [hS] at H4 hcl
  obtain ⟨sp, sc, rfl⟩ := ((Sep.f2 (H4))).listSlice
  obtain ⟨ob, off, rfl, hc⟩ := ((Sep.f2 (H4))).listElem k hkb
  have HCl := Lib.hid hcl
  have HKb := Lib.hid hkb
  have hkbi : (k : Int) < (bs.length : Int) := by omega
  have hki : (0 : Int) ≤ (k : Int) := by omega
  generalize hpb : bs[k] = pb at *
  have hcell : ∀ (w : World) (l : List HP) (n c : Nat), Orch.Sep R w (listS ptrV (.slice (some ⟨ob, off, none⟩) n c) bs :: l) → w.cell? ⟨ob, off + k, none⟩ = some (.pointer (some ⟨pb, 0, none⟩)) := fun w l n c H => by
    exact (H.listCell k hkb).trans (congrArg some (congrArg ptrV hpb))
  have HCell := Lib.hid hcell
  obtain ⟨tt, sb, bb, H5⟩ := ((Sep.f3 (H4))).st_
  have HH5 := Lib.hid H5
  have c1 : w2.cell? ⟨jb, 1, none⟩ = some (.slice (some ⟨ob, off, none⟩) bs.length sc) := ((Sep.f4 (H5))).c 1 rfl
  have c14 : w2.cell? ⟨nb, 14, none⟩ = some (.int .i64 (k : Int)) := ((Sep.f8 (H5))).c 14 rfl
  have cp : w2.cell? ⟨ob, off + k, none⟩ = some (.pointer (some ⟨pb, 0, none⟩)) := hc
  have ct : w2.cell? ⟨pb, 0, none⟩ = some (.pointer (some ⟨tt, 0, none⟩)) := H5.c 0 rfl
  clear H2 H3 H4 X0 hcl hc hpb hcell HKb hkb HB1 HKn k14 hS hbl
  have c1d : w2.drew.cell? ⟨jb, 1, none⟩ = some (.slice (some ⟨ob, off, none⟩) bs.length sc) := c1
  have c1b : ∀ o, ((w2.alloc o).drew).cell? ⟨jb, 1, none⟩ = some (.slice (some ⟨ob, off, none⟩) bs.length sc) := fun o => Lib.cell?_alloc_some (W := w2) o c1
  have c1e : ∀ o, (w2.drew.alloc o).cell? ⟨jb, 1, none⟩ = some (.slice (some ⟨ob, off, none⟩) bs.length sc) := fun o => Lib.cell?_alloc_some (W := w2.drew) o c1
  have c14d : w2.drew.cell? ⟨nb, 14, none⟩ = some (.int .i64 (k : Int)) := c14
  have c14b : ∀ o, ((w2.alloc o).drew).cell? ⟨nb, 14, none⟩ = some (.int .i64 (k : Int)) := fun o => Lib.cell?_alloc_some (W := w2) o c14
  have c14e : ∀ o, (w2.drew.alloc o).cell? ⟨nb, 14, none⟩ = some (.int .i64 (k : Int)) := fun o => Lib.cell?_alloc_some (W := w2.drew) o c14
  have cpd : w2.drew.cell? ⟨ob, off + k, none⟩ = some (.pointer (some ⟨pb, 0, none⟩)) := cp
  have cpb : ∀ o, ((w2.alloc o).drew).cell? ⟨ob, off + k, none⟩ = some (.pointer (some ⟨pb, 0, none⟩)) := fun o => Lib.cell?_alloc_some (W := w2) o cp
  have cpe : ∀ o, (w2.drew.alloc o).cell? ⟨ob, off + k, none⟩ = some (.pointer (some ⟨pb, 0, none⟩)) := fun o => Lib.cell?_alloc_some (W := w2.drew) o cp
  have ctd : w2.drew.cell? ⟨pb, 0, none⟩ = some (.pointer (some ⟨tt, 0, none⟩)) := ct
  have ctb : ∀ o, ((w2.alloc o).drew).cell? ⟨pb, 0, none⟩ = some (.pointer (some ⟨tt, 0, none⟩)) := fun o => Lib.cell?_alloc_some (W := w2) o ct
  have cte : ∀ o, (w2.drew.alloc o).cell? ⟨pb, 0, none⟩ = some (.pointer (some ⟨tt, 0, none⟩)) := fun o => Lib.cell?_alloc_some (W := w2.drew) o ct
  simp only [nodeV] at HG
  have XA := HH5.out.drew
  have XB := HH5.out.drew.mkc #[.string ⟨#[]⟩, .int .i64 0, .int .i64 0, .int .i64 0, .int .i64 0, .int .i64 0, .int .i64 0] 33
  rw [show w2.drew.heap.size = w2.heap.size from rfl] at XB
  have HGA := Lib.hid (HG.out _ _ tt ((Sep.f1 (XA))))
  have hgb := HG.out _ _ tt ((Sep.f2 (XB)))
  have HGB := Lib.hid (show Calls Tryz.prog _ _ ((w2.alloc (.cells #[.string ⟨#[]⟩, .int .i64 0, .int .i64 0, .int .i64 0, .int .i64 0, .int .i64 0, .int .i64 0] 33)).drew) _ from hgb)
  clear hgb
  clear XA XB HG
  go_wp2_with fail
  go_region_held3 (fun W => W.cell? ⟨jb, 1, none⟩ = some (.slice (some ⟨ob, off, none⟩) bs.length sc) ∧ W.cell? ⟨nb, 14, none⟩ = some (.int .i64 (k : Int)) ∧ W.cell? ⟨ob, off + k, none⟩ = some (.pointer (some ⟨pb, 0, none⟩)) ∧ W.cell? ⟨pb, 0, none⟩ = some (.pointer (some ⟨tt, 0, none⟩)))
      (first
        | (with_reducible exact ⟨c1d, c14d, cpd, ctd⟩)
        | (with_reducible exact ⟨c1b _, c14b _, cpb _, ctb _⟩)
        | (with_reducible exact ⟨c1e _, c14e _, cpe _, cte _⟩)
        | (with_reducible exact ⟨f1, f14, fp, ft⟩)
        | (with_reducible exact ⟨f1b _, f14b _, fpb _, ftb _⟩)
        | (with_reducible exact ⟨y1, y14, yp, yt⟩)
        | fail)
      (first
        | (go_at_call 10; (with_reducible refine Calls.mono HGA.out ?_); rintro e w3 ⟨rfl, H6⟩; have f1 : w3.cell? ⟨jb, 1, none⟩ = some (.slice (some ⟨ob, off, none⟩) bs.length sc) := ((Sep.f4 (H6))).c 1 rfl; have f14 : w3.cell? ⟨nb, 14, none⟩ = some (.int .i64 (k : Int)) := ((Sep.f8 (H6))).c 14 rfl; have fp : w3.cell? ⟨ob, off + k, none⟩ = some (.pointer (some ⟨pb, 0, none⟩)) := (HCell.out _ _ _ _ ((Sep.f6 (H6)))); have ft : w3.cell? ⟨pb, 0, none⟩ = some (.pointer (some ⟨tt, 0, none⟩)) := ((Sep.f1 (H6))).c 0 rfl; have f1b : ∀ o, (w3.alloc o).cell? ⟨jb, 1, none⟩ = some (.slice (some ⟨ob, off, none⟩) bs.length sc) := fun o => Lib.cell?_alloc_some o f1; have f14b : ∀ o, (w3.alloc o).cell? ⟨nb, 14, none⟩ = some (.int .i64 (k : Int)) := fun o => Lib.cell?_alloc_some o f14; have fpb : ∀ o, (w3.alloc o).cell? ⟨ob, off + k, none⟩ = some (.pointer (some ⟨pb, 0, none⟩)) := fun o => Lib.cell?_alloc_some o fp; have ftb : ∀ o, (w3.alloc o).cell? ⟨pb, 0, none⟩ = some (.pointer (some ⟨tt, 0, none⟩)) := fun o => Lib.cell?_alloc_some o ft)
        | (go_at_call 10; (with_reducible refine Calls.mono HGB.out ?_); rintro e w3 ⟨rfl, H7⟩; have f1 : w3.cell? ⟨jb, 1, none⟩ = some (.slice (some ⟨ob, off, none⟩) bs.length sc) := ((Sep.f5 (H7))).c 1 rfl; have f14 : w3.cell? ⟨nb, 14, none⟩ = some (.int .i64 (k : Int)) := ((Sep.f9 (H7))).c 14 rfl; have fp : w3.cell? ⟨ob, off + k, none⟩ = some (.pointer (some ⟨pb, 0, none⟩)) := (HCell.out _ _ _ _ ((Sep.f7 (H7)))); have ft : w3.cell? ⟨pb, 0, none⟩ = some (.pointer (some ⟨tt, 0, none⟩)) := ((Sep.f2 (H7))).c 0 rfl; obtain ⟨z0, z1, z2, z3, z4, z5, z6, zfz, zlt⟩ := ((Sep.f1 (H7))).c7; have Y := ((((((((Sep.f1 (H7))).st 0 (.string g1)).st 1 (.int .i64 g2)).st 2 (.int .i64 g3)).st 3 (.int .i64 g4)).st 4 (.int .i64 g5)).st 5 (.int .i64 g6)).st 6 (.int .i64 g7); have y1 : World.cell? _ ⟨jb, 1, none⟩ = some (.slice (some ⟨ob, off, none⟩) bs.length sc) := ((Sep.f5 (Y))).c 1 rfl; have y14 : World.cell? _ ⟨nb, 14, none⟩ = some (.int .i64 (k : Int)) := ((Sep.f9 (Y))).c 14 rfl; have yp : World.cell? _ ⟨ob, off + k, none⟩ = some (.pointer (some ⟨pb, 0, none⟩)) := (HCell.out _ _ _ _ ((Sep.f7 (Y)))); have yt : World.cell? _ ⟨pb, 0, none⟩ = some (.pointer (some ⟨tt, 0, none⟩)) := ((Sep.f2 (Y))).c 0 rfl)
        | fail)
  · have Z := H6.mkc #[.string g1, .int .i64 g2, .int .i64 g3, .int .i64 g4, .int .i64 g5, .int .i64 g6, .int .i64 g7] 33
    have m1 : World.cell? _ ⟨jb, 1, none⟩ = some (.slice (some ⟨ob, off, none⟩) bs.length sc) := ((Sep.f5 (Z.drew))).c 1 rfl
    have m14 : World.cell? _ ⟨nb, 14, none⟩ = some (.int .i64 (k : Int)) := ((Sep.f9 (Z.drew))).c 14 rfl
    have mp : World.cell? _ ⟨ob, off + k, none⟩ = some (.pointer (some ⟨pb, 0, none⟩)) := (HCell.out _ _ _ _ ((Sep.f7 (Z.drew))))
    have mt : World.cell? _ ⟨pb, 0, none⟩ = some (.pointer (some ⟨tt, 0, none⟩)) := ((Sep.f2 (Z.drew))).c 0 rfl
    have n1' : World.cell? _ ⟨jb, 1, none⟩ = some (.slice (some ⟨ob, off, none⟩) bs.length sc) := ((Sep.f5 (Z))).c 1 rfl
    have n14' : World.cell? _ ⟨nb, 14, none⟩ = some (.int .i64 (k : Int)) := ((Sep.f9 (Z))).c 14 rfl
    have np' : World.cell? _ ⟨ob, off + k, none⟩ = some (.pointer (some ⟨pb, 0, none⟩)) := (HCell.out _ _ _ _ ((Sep.f7 (Z))))
    have nt' : World.cell? _ ⟨pb, 0, none⟩ = some (.pointer (some ⟨tt, 0, none⟩)) := ((Sep.f2 (Z))).c 0 rfl
    have HKA := Lib.hid (HKd.out _ _ tt ((Sep.f1 (Z.drew))))
    clear Z HKd c1 c14 cp ct c1d c14d cpd ctd c1b c14b cpb ctb c1e c14e cpe cte f1 f14 fp ft
    go_wp2_with fail
    go_region_held3 (fun W => W.cell? ⟨jb, 1, none⟩ = some (.slice (some ⟨ob, off, none⟩) bs.length sc) ∧ W.cell? ⟨nb, 14, none⟩ = some (.int .i64 (k : Int)) ∧ W.cell? ⟨ob, off + k, none⟩ = some (.pointer (some ⟨pb, 0, none⟩)) ∧ W.cell? ⟨pb, 0, none⟩ = some (.pointer (some ⟨tt, 0, none⟩)))
      (first
        | (with_reducible exact ⟨m1, m14, mp, mt⟩)
        | (with_reducible exact ⟨x1, x14, xp, xt⟩)
        | exact ⟨m1, m14, mp, mt⟩
        | fail)
      (first
        | (go_at_call 11; (refine Calls.mono HKA.out ?_); rintro e w6 ⟨kv2, rfl, H8⟩; have x1 : w6.cell? ⟨jb, 1, none⟩ = some (.slice (some ⟨ob, off, none⟩) bs.length sc) := ((Sep.f6 (H8))).c 1 rfl; have x14 : w6.cell? ⟨nb, 14, none⟩ = some (.int .i64 (k : Int)) := ((Sep.f10 (H8))).c 14 rfl; have xp : w6.cell? ⟨ob, off + k, none⟩ = some (.pointer (some ⟨pb, 0, none⟩)) := (HCell.out _ _ _ _ ((Sep.f8 (H8)))); have xt : w6.cell? ⟨pb, 0, none⟩ = some (.pointer (some ⟨tt, 0, none⟩)) := ((Sep.f3 (H8))).c 0 rfl)
        | fail)
    have j1 := (Sep.f5 (Sep.f3 (Sep.f5 (Sep.f5 (H8)))))
    have j2 := j1.mkst (S := S)
    have j3 := (Sep.f6 (Sep.f6 (Sep.f6 (Sep.f1 (Sep.f6 (j2))))))
    have HJ0 := HCl.out _ _ j3
    obtain ⟨p2, c2, rfl⟩ := ((Sep.f1 (HJ0))).listSlice
    have HJ := Lib.hid HJ0
    have a0 : w6.cell? ⟨w3.heap.size, 0, none⟩ = some (.string g1) := ((Sep.f2 (HJ0))).c 0 rfl
    have a1 : w6.cell? ⟨w3.heap.size, 1, none⟩ = some (.int .i64 g2) := ((Sep.f2 (HJ0))).c 1 rfl
    have a2 : w6.cell? ⟨w3.heap.size, 2, none⟩ = some (.int .i64 g3) := ((Sep.f2 (HJ0))).c 2 rfl
    have a3 : w6.cell? ⟨w3.heap.size, 3, none⟩ = some (.int .i64 g4) := ((Sep.f2 (HJ0))).c 3 rfl
    have a4 : w6.cell? ⟨w3.heap.size, 4, none⟩ = some (.int .i64 g5) := ((Sep.f2 (HJ0))).c 4 rfl
    have a5 : w6.cell? ⟨w3.heap.size, 5, none⟩ = some (.int .i64 g6) := ((Sep.f2 (HJ0))).c 5 rfl
    have a6 : w6.cell? ⟨w3.heap.size, 6, none⟩ = some (.int .i64 g7) := ((Sep.f2 (HJ0))).c 6 rfl
    have b0 : w6.cell? ⟨nb, 0, none⟩ = some (.int .i64 e0) := ((Sep.f3 (HJ0))).c 0 rfl
    have b5 : w6.cell? ⟨nb, 5, none⟩ = some (.string n1) := ((Sep.f3 (HJ0))).c 5 rfl
    have b6 : w6.cell? ⟨nb, 6, none⟩ = some (.int .i64 n2) := ((Sep.f3 (HJ0))).c 6 rfl
    have b7 : w6.cell? ⟨nb, 7, none⟩ = some (.int .i64 n3) := ((Sep.f3 (HJ0))).c 7 rfl
    have b8 : w6.cell? ⟨nb, 8, none⟩ = some (.int .i64 n4) := ((Sep.f3 (HJ0))).c 8 rfl
    have b9 : w6.cell? ⟨nb, 9, none⟩ = some (.int .i64 n5) := ((Sep.f3 (HJ0))).c 9 rfl
    have b10 : w6.cell? ⟨nb, 10, none⟩ = some (.int .i64 n6) := ((Sep.f3 (HJ0))).c 10 rfl
    have b11 : w6.cell? ⟨nb, 11, none⟩ = some (.int .i64 n7) := ((Sep.f3 (HJ0))).c 11 rfl
    have b12 : w6.cell? ⟨nb, 12, none⟩ = some (.slice kp ks.length kc) := ((Sep.f3 (HJ0))).c 12 rfl
    have hEq := eqStr_any R w6 _ _ _ tks ks HK1.out HK2.out ((Sep.f2 (Sep.f4 (HJ0))))
    rw [← HD3.out] at hEq
    have HEq := Lib.hid hEq
    clear hEq
    generalize hNN : w3.heap.size = NN at *
    clear H8 HJ0 x1 x14 xp xt HKA m1 m14 mp mt n1' n14' np' nt'
    have hne := HNe2.out
    have hge := HGe.out
    cases d1 with
    | false =>
      go_wp2_with fail
      refine Calls.mono (HBd.out _ _ true HJ.out) ?_
      rintro e w7 ⟨rfl, H9⟩
      have H10 := Lib.hid ((Sep.f3 (Sep.f3 (Sep.f3 (H9))))).drop.drop.drop
      clear H9
      go_wp2
      go_ret
      rw [show rb = true from by rw [HRb.out]; rfl]
      exact ⟨rfl, H10.out⟩
    | true =>
      cases d2 with
      | false =>
        go_wp2_with fail
        refine Calls.mono (HBd.out _ _ true HJ.out) ?_
        rintro e w7 ⟨rfl, H9⟩
        have H10 := Lib.hid ((Sep.f3 (Sep.f3 (Sep.f3 (H9))))).drop.drop.drop
        clear H9
        go_wp2
        go_ret
        rw [show rb = true from by rw [HRb.out]; rfl]
        exact ⟨rfl, H10.out⟩
      | true =>
        go_wp2_with fail
        refine Calls.mono HEq.out ?_
        rintro e w7 ⟨rfl, H9⟩
        have H10 := Lib.hid ((Sep.f2 (H9)))
        clear H9
        go_wp2_with fail
        refine Calls.mono (HBd.out _ _ (!d3) H10.out) ?_
        rintro e w8 ⟨rfl, H11⟩
        have H12 := Lib.hid ((Sep.f3 (Sep.f4 (Sep.f4 (H11))))).drop.drop.drop
        clear H11
        go_wp2
        go_ret
        rw [show rb = !d3 from by rw [HRb.out]; rfl]
        refine ⟨?_, H12.out⟩
        cases d3 <;> rfl
  · have Z := Y
    simp only [List.setIfInBounds_toArray, List.set_cons_zero, List.set_cons_succ] at Z
    have m1 : World.cell? _ ⟨jb, 1, none⟩ = some (.slice (some ⟨ob, off, none⟩) bs.length sc) := ((Sep.f5 (Z.drew))).c 1 rfl
    have m14 : World.cell? _ ⟨nb, 14, none⟩ = some (.int .i64 (k : Int)) := ((Sep.f9 (Z.drew))).c 14 rfl
    have mp : World.cell? _ ⟨ob, off + k, none⟩ = some (.pointer (some ⟨pb, 0, none⟩)) := (HCell.out _ _ _ _ ((Sep.f7 (Z.drew))))
    have mt : World.cell? _ ⟨pb, 0, none⟩ = some (.pointer (some ⟨tt, 0, none⟩)) := ((Sep.f2 (Z.drew))).c 0 rfl
    have n1' : World.cell? _ ⟨jb, 1, none⟩ = some (.slice (some ⟨ob, off, none⟩) bs.length sc) := ((Sep.f5 (Z))).c 1 rfl
    have n14' : World.cell? _ ⟨nb, 14, none⟩ = some (.int .i64 (k : Int)) := ((Sep.f9 (Z))).c 14 rfl
    have np' : World.cell? _ ⟨ob, off + k, none⟩ = some (.pointer (some ⟨pb, 0, none⟩)) := (HCell.out _ _ _ _ ((Sep.f7 (Z))))
    have nt' : World.cell? _ ⟨pb, 0, none⟩ = some (.pointer (some ⟨tt, 0, none⟩)) := ((Sep.f2 (Z))).c 0 rfl
    have HKA := Lib.hid (HKd.out _ _ tt ((Sep.f1 (Z.drew))))
    clear Z HKd c1 c14 cp ct c1d c14d cpd ctd c1b c14b cpb ctb c1e c14e cpe cte f1 f14 fp ft
    go_wp2_with fail
    go_region_held3 (fun W => W.cell? ⟨jb, 1, none⟩ = some (.slice (some ⟨ob, off, none⟩) bs.length sc) ∧ W.cell? ⟨nb, 14, none⟩ = some (.int .i64 (k : Int)) ∧ W.cell? ⟨ob, off + k, none⟩ = some (.pointer (some ⟨pb, 0, none⟩)) ∧ W.cell? ⟨pb, 0, none⟩ = some (.pointer (some ⟨tt, 0, none⟩)))
      (first
        | (with_reducible exact ⟨m1, m14, mp, mt⟩)
        | (with_reducible exact ⟨x1, x14, xp, xt⟩)
        | exact ⟨m1, m14, mp, mt⟩
        | fail)
      (first
        | (go_at_call 11; (refine Calls.mono HKA.out ?_); rintro e w6 ⟨kv2, rfl, H8⟩; have x1 : w6.cell? ⟨jb, 1, none⟩ = some (.slice (some ⟨ob, off, none⟩) bs.length sc) := ((Sep.f6 (H8))).c 1 rfl; have x14 : w6.cell? ⟨nb, 14, none⟩ = some (.int .i64 (k : Int)) := ((Sep.f10 (H8))).c 14 rfl; have xp : w6.cell? ⟨ob, off + k, none⟩ = some (.pointer (some ⟨pb, 0, none⟩)) := (HCell.out _ _ _ _ ((Sep.f8 (H8)))); have xt : w6.cell? ⟨pb, 0, none⟩ = some (.pointer (some ⟨tt, 0, none⟩)) := ((Sep.f3 (H8))).c 0 rfl)
        | fail)
    have j1 := (Sep.f5 (Sep.f3 (Sep.f5 (Sep.f5 (H8)))))
    have j2 := j1.mkst (S := S)
    have j3 := (Sep.f6 (Sep.f6 (Sep.f6 (Sep.f1 (Sep.f6 (j2))))))
    have HJ0 := HCl.out _ _ j3
    obtain ⟨p2, c2, rfl⟩ := ((Sep.f1 (HJ0))).listSlice
    have HJ := Lib.hid HJ0
    have a0 : w6.cell? ⟨w2.heap.size, 0, none⟩ = some (.string g1) := ((Sep.f2 (HJ0))).c 0 rfl
    have a1 : w6.cell? ⟨w2.heap.size, 1, none⟩ = some (.int .i64 g2) := ((Sep.f2 (HJ0))).c 1 rfl
    have a2 : w6.cell? ⟨w2.heap.size, 2, none⟩ = some (.int .i64 g3) := ((Sep.f2 (HJ0))).c 2 rfl
    have a3 : w6.cell? ⟨w2.heap.size, 3, none⟩ = some (.int .i64 g4) := ((Sep.f2 (HJ0))).c 3 rfl
    have a4 : w6.cell? ⟨w2.heap.size, 4, none⟩ = some (.int .i64 g5) := ((Sep.f2 (HJ0))).c 4 rfl
    have a5 : w6.cell? ⟨w2.heap.size, 5, none⟩ = some (.int .i64 g6) := ((Sep.f2 (HJ0))).c 5 rfl
    have a6 : w6.cell? ⟨w2.heap.size, 6, none⟩ = some (.int .i64 g7) := ((Sep.f2 (HJ0))).c 6 rfl
    have b0 : w6.cell? ⟨nb, 0, none⟩ = some (.int .i64 e0) := ((Sep.f3 (HJ0))).c 0 rfl
    have b5 : w6.cell? ⟨nb, 5, none⟩ = some (.string n1) := ((Sep.f3 (HJ0))).c 5 rfl
    have b6 : w6.cell? ⟨nb, 6, none⟩ = some (.int .i64 n2) := ((Sep.f3 (HJ0))).c 6 rfl
    have b7 : w6.cell? ⟨nb, 7, none⟩ = some (.int .i64 n3) := ((Sep.f3 (HJ0))).c 7 rfl
    have b8 : w6.cell? ⟨nb, 8, none⟩ = some (.int .i64 n4) := ((Sep.f3 (HJ0))).c 8 rfl
    have b9 : w6.cell? ⟨nb, 9, none⟩ = some (.int .i64 n5) := ((Sep.f3 (HJ0))).c 9 rfl
    have b10 : w6.cell? ⟨nb, 10, none⟩ = some (.int .i64 n6) := ((Sep.f3 (HJ0))).c 10 rfl
    have b11 : w6.cell? ⟨nb, 11, none⟩ = some (.int .i64 n7) := ((Sep.f3 (HJ0))).c 11 rfl
    have b12 : w6.cell? ⟨nb, 12, none⟩ = some (.slice kp ks.length kc) := ((Sep.f3 (HJ0))).c 12 rfl
    have hEq := eqStr_any R w6 _ _ _ tks ks HK1.out HK2.out ((Sep.f2 (Sep.f4 (HJ0))))
    rw [← HD3.out] at hEq
    have HEq := Lib.hid hEq
    clear hEq
    generalize hNN : w2.heap.size = NN at *
    clear H8 HJ0 x1 x14 xp xt HKA m1 m14 mp mt n1' n14' np' nt'
    have hne := HNe2.out
    have hge := HGe.out
    cases d1 with
    | false =>
      go_wp2_with fail
      refine Calls.mono (HBd.out _ _ true HJ.out) ?_
      rintro e w7 ⟨rfl, H9⟩
      have H10 := Lib.hid ((Sep.f3 (Sep.f3 (Sep.f3 (H9))))).drop.drop.drop
      clear H9
      go_wp2
      go_ret
      rw [show rb = true from by rw [HRb.out]; rfl]
      exact ⟨rfl, H10.out⟩
    | true =>
      cases d2 with
      | false =>
        go_wp2_with fail
        refine Calls.mono (HBd.out _ _ true HJ.out) ?_
        rintro e w7 ⟨rfl, H9⟩
        have H10 := Lib.hid ((Sep.f3 (Sep.f3 (Sep.f3 (H9))))).drop.drop.drop
        clear H9
        go_wp2
        go_ret
        rw [show rb = true from by rw [HRb.out]; rfl]
        exact ⟨rfl, H10.out⟩
      | true =>
        go_wp2_with fail
        refine Calls.mono HEq.out ?_
        rintro e w7 ⟨rfl, H9⟩
        have H10 := Lib.hid ((Sep.f2 (H9)))
        clear H9
        go_wp2_with fail
        refine Calls.mono (HBd.out _ _ (!d3) H10.out) ?_
        rintro e w8 ⟨rfl, H11⟩
        have H12 := Lib.hid ((Sep.f3 (Sep.f4 (Sep.f4 (H11))))).drop.drop.drop
        clear H11
        go_wp2
        go_ret
        rw [show rb = !d3 from by rw [HRb.out]; rfl]
        refine ⟨?_, H12.out⟩
        cases d3 <;> rfl
end Go.Proofs.YtpeflgfldbjflaaGreatDoor
end
