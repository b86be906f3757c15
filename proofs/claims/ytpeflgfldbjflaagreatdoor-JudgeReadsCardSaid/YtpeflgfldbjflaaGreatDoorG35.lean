/- WHAT IS PROVED HERE: Package state: Apply. -/
import Derived.Test.YtpeflgfldbjflaaGreatDoorG34
set_option linter.unusedVariables false
set_option linter.unusedSimpArgs false
set_option linter.unusedSectionVars false
set_option linter.unnecessarySimpa false
section
namespace Go.Orch
open Go.RowKit Go.Proofs
def tabLeft (w : World) (b : Nat) : Nat := match w.cell? ⟨b, 1, none⟩ with
  | some (.pointer (some p)) => match w.cell? ⟨p.block, 0, none⟩ with
    | some (.map (some mb)) => match w.heap[mb]? with
      | some (.map es _) => es.size
      | _ => 0
    | _ => 0
  | _ => 0
theorem Sep.tabCount {R w : World} {l : List HP} {b : Nat} {S : StV} (H : Sep R w (stAt b S :: l)) : tabLeft w b = S.tab.length := by
  obtain ⟨tb, sb, bb, H1⟩ := H.st_
  obtain ⟨_, c1, _, _, _, _⟩ := H1.c4
  obtain ⟨mb, H2⟩ := ((Sep.f2 (H1))).tab
  obtain ⟨d0, _, _⟩ := H2.c1
  obtain ⟨es, clock, h1, _, _, H3⟩ := ((Sep.f1 (H2))).mapE
  unfold tabLeft
  rw [c1]
  simp only
  rw [d0]
  simp only
  rw [H3.block.2]
  have := congrArg List.length h1
  simpa [tabM] using this
end Go.Orch
namespace Go.Proofs.YtpeflgfldbjflaaGreatDoor
open Go.RowKit Go.Orch Go.Shelf
set_option maxRecDepth 100000 in
set_option maxHeartbeats 4000000 in
theorem stApply_any (R w : World) (l : List HP) (G : GoodR R) (b n : Nat) (S : StV) (hS : S.ok n) (hn : n ≤ 70000000) (text : ByteArray) (ht : text.size ≤ maxLen) (H : Sep R w (stAt b S :: l)) :
    Calls Tryz.prog 24 #[.pointer (some ⟨b, 0, none⟩), .string text] w fun e w' => ∃ v', e = .returned (.agg (resC (stApply S text).1 v').toArray) ∧ Sep R w' (outS v' (stApply S text).1.outs :: stAt b (stApply S text).2 :: l) := by
  have HRd := Lib.hid (fun w l H => opRead_any R w l text ht H)
  have hbd := readCmd_bounds text
  have herr := readCmd_err text
  have hcok := command_ok (at_ok hS) (by omega) (readCmd text).1 (S.at_ + 1) hbd.1 hbd.2.1
  have HCm := Lib.hid (fun (v : Value) w l H => stCommand_any R w l G b (n + 1) _ (at_ok hS) (by omega) (readCmd text).1 v (S.at_ + 1) hbd.1 hbd.2.1 hbd.2.2 H)
  unfold stApply
  obtain ⟨SF, hSF⟩ : ∃ SF, SF = stCrowds 17 (stCommand { S with at_ := S.at_ + 1 } (readCmd text).1 (S.at_ + 1)).2 (S.at_ + 1) := ⟨_, rfl⟩
  rw [← hSF]
  generalize stCommand { S with at_ := S.at_ + 1 } (readCmd text).1 (S.at_ + 1) = cr at *
  obtain ⟨⟨c1, c2, c3, c4⟩, cS⟩ := cr
  simp only at hcok HCm hSF ⊢
  have HSF := Lib.hid hSF
  have HCok := Lib.hid hcok
  have hat0 := hS.2.2.2.1
  have hat1 := hS.2.2.2.2
  clear hSF hcok hbd
  generalize readCmd text = rc at *
  obtain ⟨⟨a1, a2, a3, a4, ops, a6, a7, a8⟩, re⟩ := rc
  simp only at herr HRd HCm
  have HErr := Lib.hid herr
  obtain ⟨tb, sb, bb, H1⟩ := H.st_
  obtain ⟨b0, b1, b2, b3, fz, lt⟩ := H1.c4
  have Y := H1.st 3 (.int .i64 (S.at_ + 1))
  obtain ⟨d0, d1, d2, d3, dfz, dlt⟩ := Y.c4
  have H2 := Lib.hid ((Sep.mkst (S := { S with at_ := S.at_ + 1 }) Y).mkc #[.int .i64 0, .int .i64 0, .slice none 0 0, .int .i64 0] 47)
  clear H H1 Y herr
  go_enter Tryz.func24, Tryz.ntmps24
  go_wp2_with fail
  refine Calls.mono (HRd.out _ _ H2.out) ?_
  rintro e w2 ⟨v, rfl, H3⟩
  obtain ⟨p, k, rfl⟩ := H3.recSlice
  simp only [cmdC]
  have hsz : (w.setCell ⟨b, 3, none⟩ (.int .i64 (S.at_ + 1))).heap.size = w.heap.size := by simp [World.setCell]
  rw [hsz] at H3
  clear hsz
  generalize w.heap.size = zb at *
  by_cases hre : re = 0
  · subst hre
    have H4 := H3.mkc #[.int .i64 a1, .int .i64 a2, .int .i64 a3, .int .i64 a4, .slice p ops.length k, .string a6, .bool a7, .bool a8] 57
    generalize hnc : w2.heap.size = nc at H4
    have HIn := Lib.hid ((Sep.f3 (Sep.f1 (H4))))
    have HNc := Lib.hid hnc
    clear H3 H4 H2 b0 b1 b2 b3 fz lt d0 d1 d2 d3 dfz dlt hnc
    go_wp2_with fail
    refine Calls.mono (HCm.out _ _ _ HIn.out) ?_
    rintro e w3 ⟨v2, rfl, H5⟩
    obtain ⟨p2, k2, rfl⟩ := H5.recSlice
    have H6 := Lib.hid (H5.mkc #[.int .i64 c1, .int .i64 c2, .slice p2 c3.length k2, .int .i64 c4] 47)
    clear H5
    simp only [resC]
    go_wp2_with fail
    generalize w3.heap.size = nr at *
    go_loopw [32] (fun _ wr => ∃ (f : Nat) (S' : StV), stCrowds f S' (S.at_ + 1) = SF ∧ S'.tab.length < f ∧ f ≤ 17 ∧ S'.ok (n + 2401 + 2400 * (17 - f)) ∧ Sep R wr (cellsAt nr #[.int .i64 c1, .int .i64 c2, .slice p2 c3.length k2, .int .i64 c4] :: outS (.slice p2 c3.length k2) c3 :: stAt b S' :: opS (.slice p ops.length k) ops :: cellsAt nc #[.int .i64 a1, .int .i64 a2, .int .i64 a3, .int .i64 a4, .slice p ops.length k, .string a6, .bool a7, .bool a8] :: cellsAt zb #[.int .i64 0, .int .i64 0, .slice none 0 0, .int .i64 0] :: l)) (fun _ wr => tabLeft wr b)
    case atStart => exact ⟨17, cS, HSF.out.symm, by have := HCok.out.2.1.1.1; omega, Nat.le_refl _, HCok.out.mono (by omega), H6.out⟩
    case round =>
      obtain ⟨f, S', hsf, hlf, hf17, hok, H7⟩ := hrel
      obtain ⟨f', rfl⟩ : ∃ f', f = f' + 1 := ⟨f - 1, by omega⟩
      have hcnt := ((Sep.f2 (H7))).tabCount
      have HCnt := Lib.hid hcnt
      have HSf := Lib.hid hsf
      have HOk := Lib.hid hok
      have HCr := Lib.hid (stCrowded_any R wr _ G b _ S' hok (by omega) (S.at_ + 1) ((Sep.f2 (H7))))
      clear hcnt hsf hok H7
      cases hcr : stCrowd S' (S.at_ + 1) with
      | none =>
        have hst : SF = S' := by
          rw [← HSf.out]
          show (match stCrowd S' (S.at_ + 1) with | none => S' | some S'' => stCrowds f' S'' (S.at_ + 1)) = S'
          rw [hcr]
        have HSt := Lib.hid hst
        have hc := HCr.out
        rw [hcr] at hc
        have HCr2 := Lib.hid hc
        clear hst hc hcr HSf HCr
        obtain ⟨wo, rfl⟩ : ∃ wo : World, wo = wr := ⟨_, rfl⟩
        go_wp2_with fail
        refine Calls.mono HCr2.out ?_
        rintro e w5 ⟨rfl, H8⟩
        obtain ⟨r0, r1, r2, r3, rfz, rlt⟩ := ((Sep.f1 (H8))).c4
        obtain ⟨z0, z1, z2, z3, zfz, zlt⟩ := ((Sep.f5 (H8))).c4
        have H9 := Lib.hid H8
        clear H8
        go_wp2
        refine bodyPost_ret (v := .agg #[.int .i64 c1, .int .i64 c2, .slice p2 c3.length k2, .int .i64 c4]) (by simp [results, Tryz.results24, go_sem, z0, z1, z2, z3, zfz, zlt]) rfl ⟨.slice p2 c3.length k2, rfl, ?_⟩
        rw [HSt.out]
        have Y := (((((Sep.f5 (H9.out))).st 0 (.int .i64 c1)).st 1 (.int .i64 c2)).st 2 (.slice p2 c3.length k2)).st 3 (.int .i64 c4)
        exact (Sep.f1 (((Sep.f3 (Sep.f4 (Sep.f4 ((Y.drop)))))).drop.drop.drop))
      | some S'' =>
        have hst : stCrowds f' S'' (S.at_ + 1) = SF := by
          rw [← HSf.out]
          show _ = (match stCrowd S' (S.at_ + 1) with | none => S' | some S'' => stCrowds f' S'' (S.at_ + 1))
          rw [hcr]
        have HSt := Lib.hid hst
        have hlt := crowd_less hcr
        have HLt := Lib.hid hlt
        have hok2 := (crowd_ok HOk.out hcr).mono (by omega : n + 2401 + 2400 * (17 - (f' + 1)) + 2400 ≤ n + 2401 + 2400 * (17 - f'))
        have HOk2 := Lib.hid hok2
        have hc := HCr.out
        rw [hcr] at hc
        have HCr2 := Lib.hid hc
        clear hst hc hcr HSf HCr hok2
        obtain ⟨wo, rfl⟩ : ∃ wo : World, wo = wr := ⟨_, rfl⟩
        go_wp2_with fail
        refine Calls.mono HCr2.out ?_
        rintro e w5 ⟨rfl, H8⟩
        have hcnt2 := H8.tabCount
        have HC2 := Lib.hid hcnt2
        have H9 := Lib.hid ((Sep.f2 (Sep.f2 (H8))))
        clear H8 hcnt2
        go_wp2_with fail
        go_roundw
        case rel =>
          have hrel2 := H9.out
          have g1 : S''.tab.length < f' := by have := HLt.out; omega
          first
          | exact ⟨f', S'', HSt.out, g1, by omega, HOk2.out, hrel2⟩
          | refine ⟨_, _, _, ⟨f', S'', HSt.out, g1, by omega, HOk2.out, hrel2⟩, rfl⟩
        case measure => rw [HC2.out, HCnt.out]; exact hlt
  · have hz := HErr.out hre
    injection hz with g1 g2 g3 g4 g5 g6 g7 g8
    subst g1 g2 g3 g4 g5 g6 g7 g8
    have hreb : (re != 0) = true := by simpa using hre
    have H4 := (H3.mkc #[.int .i64 0, .int .i64 0, .int .i64 0, .int .i64 0, .slice none 0 0, .string ⟨#[]⟩, .bool false, .bool false] 57).nilRec (sz := 6) (enc := opC)
    generalize hnc : w2.heap.size = nc at H4
    have H4b : Sep R _ (opS (.slice none 0 0) [] :: cellsAt nc #[.int .i64 0, .int .i64 0, .int .i64 0, .int .i64 0, .slice none 0 0, .string ⟨#[]⟩, .bool false, .bool false] :: cellsAt zb #[.int .i64 0, .int .i64 0, .slice none 0 0, .int .i64 0] :: stAt b { S with at_ := S.at_ + 1 } :: l) := ((Sep.f2 (H4))).drop
    have HIn := Lib.hid ((Sep.f3 (H4b)))
    have HNc := Lib.hid hnc
    clear H3 H4 H4b H2 b0 b1 b2 b3 fz lt d0 d1 d2 d3 dfz dlt hnc
    go_wp2_with fail
    refine Calls.mono (HCm.out _ _ _ HIn.out) ?_
    rintro e w3 ⟨v2, rfl, H5⟩
    obtain ⟨p2, k2, rfl⟩ := H5.recSlice
    have H6 := Lib.hid (H5.mkc #[.int .i64 c1, .int .i64 c2, .slice p2 c3.length k2, .int .i64 c4] 47)
    clear H5
    simp only [resC]
    go_wp2_with fail
    generalize w3.heap.size = nr at *
    go_loopw [32] (fun _ wr => ∃ (f : Nat) (S' : StV), stCrowds f S' (S.at_ + 1) = SF ∧ S'.tab.length < f ∧ f ≤ 17 ∧ S'.ok (n + 2401 + 2400 * (17 - f)) ∧ Sep R wr (cellsAt nr #[.int .i64 c1, .int .i64 c2, .slice p2 c3.length k2, .int .i64 c4] :: outS (.slice p2 c3.length k2) c3 :: stAt b S' :: opS (.slice none 0 0) [] :: cellsAt nc #[.int .i64 0, .int .i64 0, .int .i64 0, .int .i64 0, .slice none 0 0, .string ⟨#[]⟩, .bool false, .bool false] :: cellsAt zb #[.int .i64 0, .int .i64 0, .slice none 0 0, .int .i64 0] :: l)) (fun _ wr => tabLeft wr b)
    case atStart => exact ⟨17, cS, HSF.out.symm, by have := HCok.out.2.1.1.1; omega, Nat.le_refl _, HCok.out.mono (by omega), H6.out⟩
    case round =>
      obtain ⟨f, S', hsf, hlf, hf17, hok, H7⟩ := hrel
      obtain ⟨f', rfl⟩ : ∃ f', f = f' + 1 := ⟨f - 1, by omega⟩
      have hcnt := ((Sep.f2 (H7))).tabCount
      have HCnt := Lib.hid hcnt
      have HSf := Lib.hid hsf
      have HOk := Lib.hid hok
      have HCr := Lib.hid (stCrowded_any R wr _ G b _ S' hok (by omega) (S.at_ + 1) ((Sep.f2 (H7))))
      clear hcnt hsf hok H7
      cases hcr : stCrowd S' (S.at_ + 1) with
      | none =>
        have hst : SF = S' := by
          rw [← HSf.out]
          show (match stCrowd S' (S.at_ + 1) with | none => S' | some S'' => stCrowds f' S'' (S.at_ + 1)) = S'
          rw [hcr]
        have HSt := Lib.hid hst
        have hc := HCr.out
        rw [hcr] at hc
        have HCr2 := Lib.hid hc
        clear hst hc hcr HSf HCr
        obtain ⟨wo, rfl⟩ : ∃ wo : World, wo = wr := ⟨_, rfl⟩
        go_wp2_with fail
        refine Calls.mono HCr2.out ?_
        rintro e w5 ⟨rfl, H8⟩
        obtain ⟨r0, r1, r2, r3, rfz, rlt⟩ := ((Sep.f1 (H8))).c4
        obtain ⟨z0, z1, z2, z3, zfz, zlt⟩ := ((Sep.f5 (H8))).c4
        have H9 := Lib.hid H8
        clear H8
        go_wp2
        refine bodyPost_ret (v := .agg #[.int .i64 c1, .int .i64 c2, .slice p2 c3.length k2, .int .i64 c4]) (by simp [results, Tryz.results24, go_sem, z0, z1, z2, z3, zfz, zlt]) rfl ⟨.slice p2 c3.length k2, rfl, ?_⟩
        rw [HSt.out]
        have Y := (((((Sep.f5 (H9.out))).st 0 (.int .i64 c1)).st 1 (.int .i64 c2)).st 2 (.slice p2 c3.length k2)).st 3 (.int .i64 c4)
        exact (Sep.f1 (((Sep.f3 (Sep.f4 (Sep.f4 ((Y.drop)))))).drop.drop.drop))
      | some S'' =>
        have hst : stCrowds f' S'' (S.at_ + 1) = SF := by
          rw [← HSf.out]
          show _ = (match stCrowd S' (S.at_ + 1) with | none => S' | some S'' => stCrowds f' S'' (S.at_ + 1))
          rw [hcr]
        have HSt := Lib.hid hst
        have hlt := crowd_less hcr
        have HLt := Lib.hid hlt
        have hok2 := (crowd_ok HOk.out hcr).mono (by omega : n + 2401 + 2400 * (17 - (f' + 1)) + 2400 ≤ n + 2401 + 2400 * (17 - f'))
        have HOk2 := Lib.hid hok2
        have hc := HCr.out
        rw [hcr] at hc
        have HCr2 := Lib.hid hc
        clear hst hc hcr HSf HCr hok2
        obtain ⟨wo, rfl⟩ : ∃ wo : World, wo = wr := ⟨_, rfl⟩
        go_wp2_with fail
        refine Calls.mono HCr2.out ?_
        rintro e w5 ⟨rfl, H8⟩
        have hcnt2 := H8.tabCount
        have HC2 := Lib.hid hcnt2
        have H9 := Lib.hid ((Sep.f2 (Sep.f2 (H8))))
        clear H8 hcnt2
        go_wp2_with fail
        go_roundw
        case rel =>
          have hrel2 := H9.out
          have g1 : S''.tab.length < f' := by have := HLt.out; omega
          first
          | exact ⟨f', S'', HSt.out, g1, by omega, HOk2.out, hrel2⟩
          | refine ⟨_, _, _, ⟨f', S'', HSt.out, g1, by omega, HOk2.out, hrel2⟩, rfl⟩
        case measure => rw [HC2.out, HCnt.out]; exact hlt
end Go.Proofs.YtpeflgfldbjflaaGreatDoor
end
