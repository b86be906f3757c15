/- WHAT IS PROVED HERE: JudgeReads: the walk behind its second judge: case 1. -/
import Derived.Test.YtpeflgfldbjflaaGreatDoorG43
set_option linter.unusedVariables false
set_option linter.unusedSimpArgs false
set_option linter.unusedSectionVars false
set_option linter.unnecessarySimpa false
section
namespace Go.Proofs.YtpeflgfldbjflaaGreatDoor
open Go.RowKit Go.Orch Go.Shelf
set_option maxRecDepth 1000000 in
set_option maxHeartbeats 4000000 in
theorem readsTail1 (w wr : World) (G : GoodR w) (jb N1 N2 a : Nat) (ts : List ByteArray) (hts : ts.length ≤ 43) (E : EvM) (Sa : StV) (ha2 : a < (fixF ts).length) (hSa : (fixF ts)[a] = Sa) (hok : Sa.ok (50000 * a)) (s : ByteArray) (hs6 : s.size ≤ 1000000) (how : Int) (hq : bits .and .i64 how 3 = 1)
    (g1 : ByteArray) (g2 g3 g4 g5 g6 g7 ge : Int) (htg : tget Sa.tree s = (⟨g1, g2, g3, g4, g5, g6, g7⟩, ge)) (ks : List ByteArray) (htk : (tkids Sa.tree s).1 = ks) (kp : Option Addr) (kc : Nat) (p1 : Value)
    (HS : Orch.Sep w wr (juAt jb (juOf ts E) :: strS p1 ts :: cellsAt N1 #[.string g1, .int .i64 g2, .int .i64 g3, .int .i64 g4, .int .i64 g5, .int .i64 g6, .int .i64 g7] :: cellsAt N2 #[.int .i64 ge, .int .i64 0, .int .i64 0, .slice none 0 0, .int .i64 0, .string g1, .int .i64 g2, .int .i64 g3, .int .i64 g4, .int .i64 g5, .int .i64 g6, .int .i64 g7, .slice kp ks.length kc, .slice none 0 0, .int .i64 (a : Int), .int .i64 0] :: strS (.slice kp ks.length kc) ks :: []))
    (K K1 : Act → World → Prop) (hK1 : ∀ a' w', (tlC rest25).wp Tryz.prog (bodyPost Tryz.prog Tryz.f3 fun e w' => e = Ending.returned (.bool true) ∧ Orch.Sep w w' []) a' w' → K1 a' w')
    (hK : ∀ a' w', (tlC (hdC rest25)).wp Tryz.prog (Exit.then K1 (bodyPost Tryz.prog Tryz.f3 fun e w' => e = Ending.returned (.bool true) ∧ Orch.Sep w w' [])) a' w' → K a' w')
    (s0 s2 s5 s6 s7 s8 s9 s10 s11 s12 s14 s15 s17 s19 s21 s22 s23 s24 s25 s26 s27 s28 s29 s30 s31 s32 s33 s34 s35 s36 s37 s38 s39 s40 s41 s42 s43 s44 s45 s46 s47 s48 s49 s50 s51 s52 s53 s54 s55 s56 s57 s58 s59 s60 s61 s62 s63 s64 s65 s66 s67 s68 s69 s70 s71 s72 s73 s74 s75 s76 s77 s78 s79 s80 s81 s82 s83 s84 s85 s86 s87 s88 s89 s90 s91 s92 s93 s94 s95 s96 s97 s98 s99 s100 s101 s102 s103 s104 s105 s106 s107 s108 s109 s110 s111 s112 s113 s114 s115 s116 s117 s118 s119 s120 s121 s122 s123 s124 s125 s126 s127 s128 s129 s130 s131 s132 s133 s134 s135 s136 s137 s138 s139 s140 s141 s142 s143 s144 s145 s146 s147 s148 s149 s150 s151 s152 s153 s154 s155 s156 : Value) :
    (hdC (hdC rest25)).wp Tryz.prog (Exit.then K (Exit.then K1 (bodyPost Tryz.prog Tryz.f3 fun e w' => e = Ending.returned (.bool true) ∧ Orch.Sep w w' []))) ⟨#[s0, .int .i64 (a : Int), s2, .int .i64 how, .string s, s5, s6, s7, s8, s9, s10, s11, s12, .pointer (some ⟨jb, 0, none⟩), s14, s15, .pointer (some ⟨N1, 0, none⟩), s17, .slice kp ks.length kc, s19, .pointer (some ⟨N2, 0, none⟩), s21, s22, s23, s24, s25, s26, s27, s28, s29, s30, s31, s32, s33, s34, s35, s36, s37, s38, s39, s40, s41, s42, s43, s44, s45, s46, s47, s48, s49, s50, s51, s52, s53, s54, s55, s56, s57, s58, s59, s60, s61, s62, s63, s64, s65, s66, s67, s68, s69, s70, s71, s72, s73, s74, s75, s76, s77, s78, s79, s80, s81, s82, s83, s84, s85, s86, s87, s88, s89, s90, s91, s92, s93, s94, s95, s96, s97, s98, s99, s100, s101, s102, s103, s104, s105, s106, s107, s108, s109, s110, s111, s112, s113, s114, s115, s116, s117, s118, s119, s120, s121, s122, s123, s124, s125, s126, s127, s128, s129, s130, s131, s132, s133, s134, s135, s136, s137, s138, s139, s140, s141, s142, s143, s144, s145, s146, s147, s148, s149, s150, s151, s152, s153, s154, s155, s156], []⟩ wr := by
  have hlenF : (fixF ts).length ≤ 100000 := by rw [fixF_len]; omega
  have hte := tget_e Sa.tree s
  have hkl := tkids_len hok.1 s
  have hsm := small_tget (fixF_small ts Sa (by rw [← hSa]; exact List.getElem_mem _)) s
  have hrb' : ∀ nd e0 ks', readBad Sa s nd e0 ks' = (!decide ((⟨g1, g2, g3, g4, g5, g6, g7⟩ : NodeV) = nd) || (!decide (ge = e0) || !decide (ks = ks'))) := fun nd e0 ks' => by
    unfold readBad
    rw [htg, htk]
  rw [htg] at hte hsm
  rw [htk] at hkl
  simp only at hte hsm
  have hge21 : ge ≠ 21 := by omega
  have hks6 : ks.length ≤ 1000000 := by omega
  have H22 := Lib.hid HS
  clear HS htg htk
  conv at hK => intro a' w'; arg 1; arg 2; whnf
  conv at hK1 => intro a' w'; arg 1; arg 2; whnf
  conv => arg 2; whnf
  have m0 : wr.cell? ⟨N1, 0, none⟩ = some (.string g1) := ((Sep.f2 (H22.out))).c 0 rfl
  have n0 : wr.cell? ⟨N2, 0, none⟩ = some (.int .i64 ge) := ((Sep.f3 (H22.out))).c 0 rfl
  have n1 : wr.cell? ⟨N2, 1, none⟩ = some (.int .i64 0) := ((Sep.f3 (H22.out))).c 1 rfl
  have n2 : wr.cell? ⟨N2, 2, none⟩ = some (.int .i64 0) := ((Sep.f3 (H22.out))).c 2 rfl
  have n3 : wr.cell? ⟨N2, 3, none⟩ = some (.slice none 0 0) := ((Sep.f3 (H22.out))).c 3 rfl
  have n4 : wr.cell? ⟨N2, 4, none⟩ = some (.int .i64 0) := ((Sep.f3 (H22.out))).c 4 rfl
  have n5 : wr.cell? ⟨N2, 5, none⟩ = some (.string g1) := ((Sep.f3 (H22.out))).c 5 rfl
  have n6 : wr.cell? ⟨N2, 6, none⟩ = some (.int .i64 g2) := ((Sep.f3 (H22.out))).c 6 rfl
  have n7 : wr.cell? ⟨N2, 7, none⟩ = some (.int .i64 g3) := ((Sep.f3 (H22.out))).c 7 rfl
  have n8 : wr.cell? ⟨N2, 8, none⟩ = some (.int .i64 g4) := ((Sep.f3 (H22.out))).c 8 rfl
  have n9 : wr.cell? ⟨N2, 9, none⟩ = some (.int .i64 g5) := ((Sep.f3 (H22.out))).c 9 rfl
  have n10 : wr.cell? ⟨N2, 10, none⟩ = some (.int .i64 g6) := ((Sep.f3 (H22.out))).c 10 rfl
  have n11 : wr.cell? ⟨N2, 11, none⟩ = some (.int .i64 g7) := ((Sep.f3 (H22.out))).c 11 rfl
  have n12 : wr.cell? ⟨N2, 12, none⟩ = some (.slice kp ks.length kc) := ((Sep.f3 (H22.out))).c 12 rfl
  have n13 : wr.cell? ⟨N2, 13, none⟩ = some (.slice none 0 0) := ((Sep.f3 (H22.out))).c 13 rfl
  have n14 : wr.cell? ⟨N2, 14, none⟩ = some (.int .i64 (a : Int)) := ((Sep.f3 (H22.out))).c 14 rfl
  have n15 : wr.cell? ⟨N2, 15, none⟩ = some (.int .i64 0) := ((Sep.f3 (H22.out))).c 15 rfl
  have kfz := ((Sep.f3 (H22.out))).fz
  have klt := ((Sep.f3 (H22.out))).clt
  have hge0 : 0 ≤ ge := by have := hte; omega
  have hge1 : ge ≤ 11 := by have := hte; omega
  have HZ := ((Sep.f3 (H22.out))).st 0 (.int .i64 (ge + 1))
  have hne : ¬ (ge = ge + 1) := by omega
  have hrb : readBad Sa s ⟨g1, g2, g3, g4, g5, g6, g7⟩ (ge + 1) ks = true := by rw [hrb', decide_eq_false hne]; simp
  have h22 : ge + 1 ≠ 21 := by omega
  have hR3 := juRead_known w _ _ G jb (juOf ts E) a (50000 * a) ha2 hlenF Sa hSa hok s hs6 (ge + 1) (h22) ⟨0, 0, [], 0⟩ (.slice none 0 0) (⟨g1, g2, g3, g4, g5, g6, g7⟩) (.slice kp ks.length kc) (.slice none 0 0) 0 0 (by omega) (ks) (hks6) ((Sep.f2 (Sep.f4 (HZ))))
  rw [hrb] at hR3
  simp only [repC] at hR3
  have HR3 := Lib.hid hR3
  clear hR3 HZ
  go_wp2_with fail
  refine Calls.mono HR3.out ?_
  rintro e w11 ⟨rfl, H24⟩
  have HW := Lib.hid (juWrong_any w _ _ jb _ H24)
  have hw6 : ((bad_ (juOf ts E) true).wrong == 6) = true := rfl
  clear H24 HR3
  go_wp2_with fail
  refine Calls.mono HW.out ?_
  rintro e w12 ⟨rfl, H25⟩
  have H26 := Lib.hid (Sep.nilOf H25)
  clear H25 HW
  go_wp2
  go_ret
  exact ⟨rfl, H26.out⟩
end Go.Proofs.YtpeflgfldbjflaaGreatDoor
end
