/- WHAT IS PROVED HERE: JudgeReads: the walk. -/
import Derived.Test.YtpeflgfldbjflaaGreatDoorG48
import Derived.Deep.Cut
set_option linter.unusedVariables false
set_option linter.unusedSimpArgs false
set_option linter.unusedSectionVars false
set_option linter.unnecessarySimpa false
section
namespace Go.Proofs.YtpeflgfldbjflaaGreatDoor
open Go.RowKit Go.Orch Go.Shelf
set_option maxRecDepth 100000 in
set_option maxHeartbeats 4000000 in
theorem judgeReads_any (w : World) (G : GoodR w) (cs : List CmdE) (v : Value) (hv : RowIn w cmdE v cs) (hl : cs.length ≤ 9223372036854775807) (hops : ∀ x ∈ cs, x.1.ops.length ≤ 9223372036854775807 ∧ x.inR w) (at_ least how : Int) (s : ByteArray) :
    Calls Tryz.prog 3 #[v, .int .i64 at_, .int .i64 least, .int .i64 how, .string s] w fun e w' => e = .returned (.bool true) ∧ Orch.Sep w w' [] := by
  have H0 := Lib.hid (Orch.Sep.nil w)
  have HF := Lib.hid (fun w' l H => few13_any w w' l cs v hv hl hops H)
  have HFix := Lib.hid (fun w' l hl2 hops2 H => fixed_any w w' l G cs v hv hl2 hops2 H)
  go_enter Tryz.func3, Tryz.ntmps3
  go_wp2_with fail
  refine Calls.mono (head_any w w [] G H0.out) ?_
  rintro e w1 ⟨rfl, H1⟩
  have HF1 := Lib.hid (HF.out _ _ H1)
  clear H1 H0
  go_wp2_with fail
  refine Calls.mono HF1.out ?_
  rintro e w2 ⟨b, rfl, hb, H2⟩
  have H3 := Lib.hid H2
  clear H2 HF1 HF
  cases b with
  | false =>
    go_wp2
    go_ret
    exact ⟨rfl, H3.out⟩
  | true =>
    obtain ⟨hc1, hc2⟩ := hb rfl
    have HFx := Lib.hid (HFix.out _ _ hc1 (fun x hx => ⟨(hc2 x hx).1, (hops x hx).2⟩) H3.out)
    clear HFix hc2 hb hops
    by_cases hs : 100 < (s.size : Int)
    · go_wp2
      go_ret
      exact ⟨rfl, H3.out⟩
    have hs2 : decide (100 < (s.size : Int)) = false := decide_eq_false hs
    clear H3
    go_wp2_with fail
    refine Calls.mono HFx.out ?_
    rintro e w3 ⟨v1, v2, rfl, ts, bs, ⟨ht1, ht2, hb1⟩, H4⟩
    obtain ⟨p1, k1, rfl⟩ := H4.listSlice
    obtain ⟨p2, k2, rfl⟩ := ((Sep.f1 (H4))).listSlice
    have hts : ts.length ≤ 43 := by omega
    have HT2 := Lib.hid ht2
    have HB1 := Lib.hid hb1
    have H5 := Lib.hid H4
    clear H4 HFx ht2 hb1
    go_wp2_with fail
    refine Calls.mono (juNew2_any w _ _ H5.out) ?_
    rintro e w4 ⟨jb, rfl, H6⟩
    have H7 := Lib.hid H6
    clear H6 H5
    go_wp2_with fail
    go_loopw [41] (fun i wr => ∃ (j : Nat) (E : EvM), j ≤ ts.length ∧ i = .int .i64 j ∧ evsLe E (NB j) ∧ Orch.Sep w wr (juAt jb (juOf (ts.take j) E) :: strS (.slice p1 ts.length k1) ts :: listS ptrV (.slice p2 bs.length k2) bs :: stsAt bs (fixF ts) :: [])) (fun i _ => ts.length - (intOf i).toNat)
    case atStart => exact ⟨0, [], Nat.zero_le _, rfl, fun x hx => by simp at hx, H7.out⟩
    case round =>
      obtain ⟨j, E, hj, rfl, hE, H5⟩ := hrel
      have HE := Lib.hid hE
      clear hE
      by_cases hlt : j < ts.length
      · have hlti : (j : Int) < (ts.length : Int) := by omega
        obtain ⟨ob, off, rfl, hc⟩ := ((Sep.f1 (H5))).listElem j hlt
        have hlj : (ts.take j).length = j := by rw [List.length_take]; omega
        have hC := juMore_any w wr _ G jb (ts.take j) E (by rw [hlj]; exact HE.out) (by rw [hlj]; omega) ts[j] (by have := HT2.out ts[j] (List.getElem_mem hlt); omega) H5
        rw [hlj] at hC
        rw [← List.take_succ_eq_append_getElem hlt] at hC
        have HC := Lib.hid hC
        generalize ts[j] = t at *
        have hc2 : wr.cell? ⟨ob, off + j, none⟩ = some (.string t) := hc
        clear H5 hlj hC hc
        go_wp2_with fail
        refine Calls.mono HC.out ?_
        rintro e w9 ⟨rfl, E', hE', H6⟩
        have HE' := Lib.hid hE'
        have H7 := Lib.hid H6
        clear hE' H6 HC hc2
        go_wp2_with fail
        go_roundw
        case rel => exact ⟨j + 1, E', hlt, by go_num, HE'.out, H7.out⟩
        case measure => simp [intOf]; omega
      · obtain rfl : j = ts.length := by omega
        have hlti : ¬ (ts.length : Int) < (ts.length : Int) := by omega
        rw [List.take_length] at H5
        have H8 := Lib.hid H5
        clear H5 H7
        have hfl : (fixF ts).length = bs.length := by rw [fixF_len, HB1.out]
        obtain ⟨A, hA, hA0, hA1⟩ : ∃ A, bits .and .i64 at_ 255 = A ∧ 0 ≤ A ∧ A < 256 := ⟨_, rfl, by rw [i64_and255]; omega, by rw [i64_and255]; omega⟩
        have hm1 : (1 : Int) ≤ (bs.length : Int) := by have := HB1.out; omega
        have hm2 : bs.length ≤ 44 := by have := HB1.out; omega
        obtain ⟨a, hAm, ha⟩ : ∃ a : Nat, A % (bs.length : Int) = (a : Int) ∧ a < bs.length := ⟨(A % (bs.length : Int)).toNat, by
          have := Int.emod_nonneg A (b := (bs.length : Int)) (by omega)
          omega, by
          have h1 := Int.emod_nonneg A (b := (bs.length : Int)) (by omega)
          have h2 := Int.emod_lt_of_pos A (b := (bs.length : Int)) (by omega)
          omega⟩
        have hai : (a : Int) < (bs.length : Int) := by omega
        have ha0 : (0 : Int) ≤ (a : Int) := by omega
        have ha2 : a < (fixF ts).length := by omega
        obtain ⟨pb, hpb⟩ : ∃ pb, bs[a] = pb := ⟨_, rfl⟩
        obtain ⟨Sa, hSa⟩ : ∃ Sa, (fixF ts)[a] = Sa := ⟨_, rfl⟩
        have hok : Sa.ok (50000 * a) := by rw [← hSa]; exact fixF_ok ts (by omega) a ha2
        obtain ⟨X, H9, hcl⟩ := Sep.stsTake' a ha ha2 pb hpb Sa hSa ((Sep.f3 (H8.out)))
        obtain ⟨ob, of2, rfl, hc⟩ := ((Sep.f4 (H9))).listElem a ha
        have cp : wr.cell? ⟨ob, of2 + a, none⟩ = some (.pointer (some ⟨pb, 0, none⟩)) := hc.trans (congrArg some (congrArg ptrV hpb))
        have hcell : ∀ (w' : World) (l : List HP), Orch.Sep w w' (listS ptrV (.slice (some ⟨ob, of2, none⟩) bs.length k2) bs :: l) → w'.cell? ⟨ob, of2 + a, none⟩ = some (.pointer (some ⟨pb, 0, none⟩)) := fun w' l H => (H.listCell a ha).trans (congrArg some (congrArg ptrV hpb))
        have HCell := Lib.hid hcell
        have HSa := Lib.hid hSa
        obtain ⟨tt, sb, bb, H10⟩ := H9.st_
        have ct : wr.cell? ⟨pb, 0, none⟩ = some (.pointer (some ⟨tt, 0, none⟩)) := H10.c 0 rfl
        have hss : s.size ≤ 100 := by omega
        have HGt := Lib.hid (tget_any w _ _ G tt Sa.tree s (by omega) ((Sep.f1 (H10))))
        have htr := hok.tree
        have HKd := Lib.hid (fun w' l H => tkids_any w w' l G tt Sa.tree htr s (by omega) H)
        have HOk := Lib.hid hok
        have HCl := Lib.hid hcl
        have hte := tget_e Sa.tree s
        have hkl := tkids_len hok.1 s
        have hrb : ∀ nd e0 ks, readBad Sa s nd e0 ks = (!decide ((tget Sa.tree s).1 = nd) || (!decide ((tget Sa.tree s).2 = e0) || !decide ((tkids Sa.tree s).1 = ks))) := fun _ _ _ => rfl
        generalize htg : tget Sa.tree s = tg at *
        obtain ⟨⟨g1, g2, g3, g4, g5, g6, g7⟩, ge⟩ := tg
        generalize htk : tkids Sa.tree s = tk at *
        obtain ⟨ks, ke⟩ := tk
        simp only at HGt HKd hte hkl hrb
        simp only [nodeV] at HGt
        have HTg := Lib.hid htg
        have HTk := Lib.hid htk
        have HRb := Lib.hid hrb
        have HTe := Lib.hid hte
        have HKl := Lib.hid hkl
        clear H9 H10 hc hcell hSa hok htr hcl hte hkl htg htk hpb hrb
        go_wp2_with fail
        refine Calls.mono HGt.out ?_
        rintro e w5 ⟨rfl, H11⟩
        have H12 := H11.mkc #[.string g1, .int .i64 g2, .int .i64 g3, .int .i64 g4, .int .i64 g5, .int .i64 g6, .int .i64 g7] 33
        have cp2 : World.cell? _ ⟨ob, of2 + a, none⟩ = some (.pointer (some ⟨pb, 0, none⟩)) := HCell.out _ _ ((Sep.f8 (H12)))
        have ct2 : World.cell? _ ⟨pb, 0, none⟩ = some (.pointer (some ⟨tt, 0, none⟩)) := ((Sep.f2 (H12))).c 0 rfl
        have HKA := Lib.hid (HKd.out _ _ ((Sep.f1 (H12))))
        clear H11 H12 cp ct HGt HKd
        go_wp2_with fail
        refine Calls.mono HKA.out ?_
        rintro e w6 ⟨kv, rfl, H13⟩
        obtain ⟨kp, kc, rfl⟩ := H13.listSlice
        have j1 := (Sep.f5 (Sep.f3 (Sep.f5 (Sep.f5 (H13)))))
        have j2 := j1.mkst (S := Sa)
        have j3 := (Sep.f1 (Sep.f3 (j2)))
        have H14 := HCl.out _ _ j3
        have z0 : w6.cell? ⟨w5.heap.size, 0, none⟩ = some (.string g1) := ((Sep.f2 (H14))).c 0 rfl
        have z1 : w6.cell? ⟨w5.heap.size, 1, none⟩ = some (.int .i64 g2) := ((Sep.f2 (H14))).c 1 rfl
        have z2 : w6.cell? ⟨w5.heap.size, 2, none⟩ = some (.int .i64 g3) := ((Sep.f2 (H14))).c 2 rfl
        have z3 : w6.cell? ⟨w5.heap.size, 3, none⟩ = some (.int .i64 g4) := ((Sep.f2 (H14))).c 3 rfl
        have z4 : w6.cell? ⟨w5.heap.size, 4, none⟩ = some (.int .i64 g5) := ((Sep.f2 (H14))).c 4 rfl
        have z5 : w6.cell? ⟨w5.heap.size, 5, none⟩ = some (.int .i64 g6) := ((Sep.f2 (H14))).c 5 rfl
        have z6 : w6.cell? ⟨w5.heap.size, 6, none⟩ = some (.int .i64 g7) := ((Sep.f2 (H14))).c 6 rfl
        have H15 := H14.mkc #[.int .i64 ge, .int .i64 0, .int .i64 0, .slice none 0 0, .int .i64 0, .string g1, .int .i64 g2, .int .i64 g3, .int .i64 g4, .int .i64 g5, .int .i64 g6, .int .i64 g7, .slice kp ks.length kc, .slice none 0 0, .int .i64 (a : Int), .int .i64 0] 50
        generalize hN1 : w5.heap.size = N1 at *
        have hge21 : ge ≠ 21 := by have := HTe.out; omega
        have hlenA : (juOf ts E).states.length ≤ 100000 := by show (fixF ts).length ≤ 100000; omega
        obtain ⟨B, hB, hB0, hB1⟩ : ∃ B, bits .and .i64 least 255 = B ∧ 0 ≤ B ∧ B < 256 := ⟨_, rfl, by rw [i64_and255]; omega, by rw [i64_and255]; omega⟩
        obtain ⟨lb, hBm, hlb⟩ : ∃ lb : Nat, B % ((a : Int) + 1) = (lb : Int) ∧ lb ≤ a := ⟨(B % ((a : Int) + 1)).toNat, by
          have := Int.emod_nonneg B (b := (a : Int) + 1) (by omega)
          omega, by
          have h1 := Int.emod_nonneg B (b := (a : Int) + 1) (by omega)
          have h2 := Int.emod_lt_of_pos B (b := (a : Int) + 1) (by omega)
          omega⟩
        have hks6 : ks.length ≤ 1000000 := by have := HKl.out; omega
        have hR1 := juRead_known w _ _ G jb (juOf ts E) a (50000 * a) ha2 hlenA Sa HSa.out HOk.out s (by omega) ge hge21 ⟨0, 0, [], 0⟩ (.slice none 0 0) ⟨g1, g2, g3, g4, g5, g6, g7⟩ (.slice kp ks.length kc) (.slice none 0 0) 0 (lb : Int) (by omega) ks hks6 ((Sep.f4 (Sep.f2 (H15))))
        have hrb0 : readBad Sa s ⟨g1, g2, g3, g4, g5, g6, g7⟩ ge ks = false := by rw [HRb.out]; simp
        rw [hrb0] at hR1
        simp only [repC] at hR1
        have HR1 := Lib.hid hR1
        have HBm := Lib.hid hBm
        have HG21 := Lib.hid hge21
        clear hR1 hrb0 H13 H14 H15 j1 j2 j3 HKA cp2 ct2 hge21
        have ha3 : (1 : Int) ≤ (a : Int) + 1 := by omega
        go_wp2_with fail
        refine Calls.mono HR1.out ?_
        rintro e w7 ⟨rfl, H16⟩
        have r0 : w7.cell? ⟨w6.heap.size, 0, none⟩ = some (.int .i64 ge) := ((Sep.f2 (H16))).c 0 rfl
        have r1 : w7.cell? ⟨w6.heap.size, 1, none⟩ = some (.int .i64 0) := ((Sep.f2 (H16))).c 1 rfl
        have r2 : w7.cell? ⟨w6.heap.size, 2, none⟩ = some (.int .i64 0) := ((Sep.f2 (H16))).c 2 rfl
        have r3 : w7.cell? ⟨w6.heap.size, 3, none⟩ = some (.slice none 0 0) := ((Sep.f2 (H16))).c 3 rfl
        have r4 : w7.cell? ⟨w6.heap.size, 4, none⟩ = some (.int .i64 0) := ((Sep.f2 (H16))).c 4 rfl
        have r5 : w7.cell? ⟨w6.heap.size, 5, none⟩ = some (.string g1) := ((Sep.f2 (H16))).c 5 rfl
        have r6 : w7.cell? ⟨w6.heap.size, 6, none⟩ = some (.int .i64 g2) := ((Sep.f2 (H16))).c 6 rfl
        have r7 : w7.cell? ⟨w6.heap.size, 7, none⟩ = some (.int .i64 g3) := ((Sep.f2 (H16))).c 7 rfl
        have r8 : w7.cell? ⟨w6.heap.size, 8, none⟩ = some (.int .i64 g4) := ((Sep.f2 (H16))).c 8 rfl
        have r9 : w7.cell? ⟨w6.heap.size, 9, none⟩ = some (.int .i64 g5) := ((Sep.f2 (H16))).c 9 rfl
        have r10 : w7.cell? ⟨w6.heap.size, 10, none⟩ = some (.int .i64 g6) := ((Sep.f2 (H16))).c 10 rfl
        have r11 : w7.cell? ⟨w6.heap.size, 11, none⟩ = some (.int .i64 g7) := ((Sep.f2 (H16))).c 11 rfl
        have r12 : w7.cell? ⟨w6.heap.size, 12, none⟩ = some (.slice kp ks.length kc) := ((Sep.f2 (H16))).c 12 rfl
        have r13 : w7.cell? ⟨w6.heap.size, 13, none⟩ = some (.slice none 0 0) := ((Sep.f2 (H16))).c 13 rfl
        have r14 : w7.cell? ⟨w6.heap.size, 14, none⟩ = some (.int .i64 (a : Int)) := ((Sep.f2 (H16))).c 14 rfl
        have r15 : w7.cell? ⟨w6.heap.size, 15, none⟩ = some (.int .i64 0) := ((Sep.f2 (H16))).c 15 rfl
        have hR2 := juRead_old w w7 _ jb _ s ge HG21.out ⟨0, 0, [], 0⟩ (.slice none 0 0) ⟨g1, g2, g3, g4, g5, g6, g7⟩ (.slice kp ks.length kc) (.slice none 0 0) (a : Int) 0 ((a : Int) + 1) (by omega) H16
        simp only [repC] at hR2
        have HR2 := Lib.hid hR2
        clear hR2 H16 HR1 z0 z1 z2 z3 z4 z5 z6
        go_wp2_with fail
        refine Calls.mono HR2.out ?_
        rintro e w8 ⟨rfl, H17⟩
        have H18 := Lib.hid ((Sep.f5 (Sep.f4 (Sep.f2 (Sep.f1 (H17))))))
        clear H17 HR2 r0 r1 r2 r3 r4 r5 r6 r7 r8 r9 r10 r11 r12 r13 r14 r15
        generalize hN2 : w6.heap.size = N2 at *
        have H19 := Lib.hid (((Sep.f6 (Sep.f6 (Sep.f6 (H18.out))))).drop.drop.drop)
        have hlenF : (fixF ts).length ≤ 100000 := by omega
        have hs6 : s.size ≤ 1000000 := by omega
        clear H18 hlenA H8 HCl HCell hBm
        go_wp2_with fail
        refine Calls.mono (juNew2_any w _ _ H19.out) ?_
        rintro e w10 ⟨jb, rfl, H20⟩
        have H21 := Lib.hid H20
        clear H20 H19
        go_wp2_with fail
        go_loopw [108] (fun i wr => ∃ (j : Nat) (E : EvM), j ≤ ts.length ∧ i = .int .i64 j ∧ evsLe E (NB j) ∧ Orch.Sep w wr (juAt jb (juOf (ts.take j) E) :: strS (.slice p1 ts.length k1) ts :: cellsAt N1 #[.string g1, .int .i64 g2, .int .i64 g3, .int .i64 g4, .int .i64 g5, .int .i64 g6, .int .i64 g7] :: cellsAt N2 #[.int .i64 ge, .int .i64 0, .int .i64 0, .slice none 0 0, .int .i64 0, .string g1, .int .i64 g2, .int .i64 g3, .int .i64 g4, .int .i64 g5, .int .i64 g6, .int .i64 g7, .slice kp ks.length kc, .slice none 0 0, .int .i64 (a : Int), .int .i64 0] :: strS (.slice kp ks.length kc) ks :: [])) (fun i _ => ts.length - (intOf i).toNat)
        case atStart => exact ⟨0, [], Nat.zero_le _, rfl, fun x hx => by simp at hx, H21.out⟩
        case round =>
          obtain ⟨j, E, hj, rfl, hE, H5⟩ := hrel
          have HE := Lib.hid hE
          clear hE
          by_cases hlt : j < ts.length
          · have hlti : (j : Int) < (ts.length : Int) := by omega
            obtain ⟨ob, off, rfl, hc⟩ := ((Sep.f1 (H5))).listElem j hlt
            have hlj : (ts.take j).length = j := by rw [List.length_take]; omega
            have hC := juMore_any w wr _ G jb (ts.take j) E (by rw [hlj]; exact HE.out) (by rw [hlj]; omega) ts[j] (by have := HT2.out ts[j] (List.getElem_mem hlt); omega) H5
            rw [hlj] at hC
            rw [← List.take_succ_eq_append_getElem hlt] at hC
            have HC := Lib.hid hC
            generalize ts[j] = t at *
            have hc2 : wr.cell? ⟨ob, off + j, none⟩ = some (.string t) := hc
            clear H5 hlj hC hc
            go_wp2_with fail
            refine Calls.mono HC.out ?_
            rintro e w9 ⟨rfl, E', hE', H6⟩
            have HE' := Lib.hid hE'
            have H7 := Lib.hid H6
            clear hE' H6 HC hc2
            go_wp2_with fail
            go_roundw
            case rel => exact ⟨j + 1, E', hlt, by go_num, HE'.out, H7.out⟩
            case measure => simp [intOf]; omega
          · obtain rfl : j = ts.length := by omega
            have hlti : ¬ (ts.length : Int) < (ts.length : Int) := by omega
            rw [List.take_length] at H5
            have H22 := Lib.hid H5
            clear H5 H21
            go_upto_region 25 with (fail)
            refine readsTail w wr G jb N1 N2 a ts hts E Sa ha2 HSa.out HOk.out s (by omega) how g1 g2 g3 g4 g5 g6 g7 ge HTg.out ks (by rw [HTk.out]) kp kc (.slice p1 ts.length k1) H22.out _ _ ?_ ?_ _ _ _ _ _ _ _ _ _ _ _ _ _ _ _ _ _ _ _ _ _ _ _ _ _ _ _ _ _ _ _ _ _ _ _ _ _ _ _ _ _ _ _ _ _ _ _ _ _ _ _ _ _ _ _ _ _ _ _ _ _ _ _ _ _ _ _ _ _ _ _ _ _ _ _ _ _ _ _ _ _ _ _ _ _ _ _ _ _ _ _ _ _ _ _ _ _ _ _ _ _ _ _ _ _ _ _ _ _ _ _ _ _ _ _ _ _ _ _ _ _ _ _ _ _ _ _ _ _ _ _ _ _ _ _ _ _ _ _ _ _ _ _ _ _ _ _ _ _ _
            · assumption
            · assumption
end Go.Proofs.YtpeflgfldbjflaaGreatDoor
end
