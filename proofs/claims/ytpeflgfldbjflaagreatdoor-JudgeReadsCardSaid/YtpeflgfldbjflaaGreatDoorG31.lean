/- WHAT IS PROVED HERE: Package state: update. -/
import Derived.Test.YtpeflgfldbjflaaGreatDoorG30
set_option linter.unusedVariables false
set_option linter.unusedSimpArgs false
set_option linter.unusedSectionVars false
set_option linter.unnecessarySimpa false
section
namespace Go.Proofs.YtpeflgfldbjflaaGreatDoor
open Go.RowKit Go.Orch Go.Shelf
theorem ch_info : (Tryz.prog.info? 196).map (fun i => (i.zero, i.size, i.bytes)) = some (some (.agg #[.string ⟨#[]⟩, .int .i64 0]), 2, 24) := by kernel_rfl
set_option maxRecDepth 100000 in
set_option maxHeartbeats 4000000 in
theorem stUpdate_any (R w : World) (l : List HP) (G : GoodR R) (b n : Nat) (S : StV) (hS : S.ok n) (hn : n ≤ 90000000) (c : CmdV) (v : Value) (whn : Int) (hl : c.ops.length ≤ 4) (hc : ∀ o ∈ c.ops, o.path.size ≤ 100 ∧ o.data.size ≤ 100) (H : Sep R w (stAt b S :: opS v c.ops :: l)) :
    Calls Tryz.prog 108 #[.pointer (some ⟨b, 0, none⟩), .agg (cmdC c v).toArray, .int .i64 whn] w fun e w' => ∃ v', e = .returned (.agg (resC (stUpdate S c whn).1 v').toArray) ∧ Sep R w' (outS v' (stUpdate S c whn).1.outs :: stAt b (stUpdate S c whn).2 :: opS v c.ops :: l) := by
  obtain ⟨p, k, rfl⟩ := ((Sep.f1 (H))).recSlice
  obtain ⟨a1, a2, a3, a4, ops, a6, a7, a8⟩ := c
  unfold stUpdate
  simp only at hl hc H ⊢
  show Calls Tryz.prog 108 #[.pointer (some ⟨b, 0, none⟩), .agg #[.int .i64 a1, .int .i64 a2, .int .i64 a3, .int .i64 a4, .slice p ops.length k, .string a6, .bool a7, .bool a8], .int .i64 whn] w _
  obtain ⟨SO, hSO⟩ : ∃ SO, SO = stOps a2 whn ops 0 S.tree [] [] := ⟨_, rfl⟩
  rw [← hSO]
  have HSO := Lib.hid hSO
  clear hSO
  obtain ⟨tb, sb, bb, H1⟩ := H.st_
  have X := (H1.mkc #[.int .i64 a1, .int .i64 a2, .int .i64 a3, .int .i64 a4, .slice p ops.length k, .string a6, .bool a7, .bool a8] 57).mkc #[.int .i64 0, .int .i64 0, .slice none 0 0, .int .i64 0] 47
  simp only [World.size_alloc] at X
  obtain ⟨c0, c1, c2, c3, fz, lt⟩ := H1.c4
  have HCl := Lib.hid (treeClone_any R _ _ tb S.tree ((Sep.f3 (X))))
  have HS := Lib.hid hS
  have HCo := Lib.hid hc
  clear X H H1 hS hc
  generalize hrs : stUpd S whn SO = rs
  have HRs := Lib.hid hrs
  clear hrs
  go_enter Tryz.func108, Tryz.ntmps108
  go_wp2_with fail
  refine Calls.mono HCl.out ?_
  rintro e w1 ⟨tb', rfl, H2⟩
  have H3 := Lib.hid ((H2.mkc #[.int .i64 0, .int .i64 0, .slice none 0 0, .int .i64 whn] 47).nilRec (sz := 2) (enc := outC) |>.nilRec (sz := 2) (enc := chC))
  obtain ⟨e0, e1, e2, e3, e4, e5, e6, e7, ez, elt⟩ := ((Sep.f3 (H2))).c8
  clear HCl c0 c1 c2 c3 fz lt H2
  go_wp2_with fail
  generalize w.heap.size = nc at *
  generalize w1.heap.size = n8 at *
  generalize nc + 1 = nz at *
  have HT1 : ∀ {wx : World} {A B C D : HP}, Sep R wx (A :: B :: C :: D :: treeAt tb S.tree :: cellsAt nz #[.int .i64 0, .int .i64 0, .slice none 0 0, .int .i64 0] :: cellsAt nc #[.int .i64 a1, .int .i64 a2, .int .i64 a3, .int .i64 a4, .slice p ops.length k, .string a6, .bool a7, .bool a8] :: cellsAt b #[.pointer (some ⟨tb, 0, none⟩), .pointer (some ⟨sb, 0, none⟩), .pointer (some ⟨bb, 0, none⟩), .int .i64 S.at_] :: tabAt sb S.tab :: bookAt bb S.book :: opS (.slice p ops.length k) ops :: l) → Sep R wx (stAt b S :: A :: B :: C :: D :: cellsAt nz #[.int .i64 0, .int .i64 0, .slice none 0 0, .int .i64 0] :: cellsAt nc #[.int .i64 a1, .int .i64 a2, .int .i64 a3, .int .i64 a4, .slice p ops.length k, .string a6, .bool a7, .bool a8] :: opS (.slice p ops.length k) ops :: l) := fun h => ((Sep.f9 (Sep.f6 (Sep.f9 (Sep.f9 (h)))))).mkst (S := S)
  have H4 := Lib.hid (HT1 H3.out)
  clear H3 HT1 e0 e1 e2 e3 e4 e5 e6 e7 ez elt
  go_loopw [9, 27] (fun u i wr => ∃ (j : Nat) (T' : TreeV) (outs : List OutV) (chs : List ChV) (p' : Option Addr) (k' : Nat), j ≤ ops.length ∧ i = .int .i64 j ∧ accOK n T' outs chs j ∧ stOps a2 whn (ops.drop j) j T' outs chs = SO ∧ Sep R wr (stAt b S :: chS u chs :: outS (.slice p' outs.length k') outs :: cellsAt n8 #[.int .i64 0, .int .i64 0, .slice p' outs.length k', .int .i64 whn] :: treeAt tb' T' :: cellsAt nz #[.int .i64 0, .int .i64 0, .slice none 0 0, .int .i64 0] :: cellsAt nc #[.int .i64 a1, .int .i64 a2, .int .i64 a3, .int .i64 a4, .slice p ops.length k, .string a6, .bool a7, .bool a8] :: opS (.slice p ops.length k) ops :: l)) (fun _ i _ => ops.length - (intOf i).toNat)
  case atStart => exact ⟨0, S.tree, [], [], none, 0, Nat.zero_le _, rfl, ⟨HS.out.1.mono (by omega), rfl, Nat.zero_le _, by simp, by simp⟩, HSO.out.symm, H4.out⟩
  case round =>
    obtain ⟨j, T', outs, chs, p', k', hj, rfl, hacc, hso, H5⟩ := hrel
    have HAcc := Lib.hid hacc
    have HSo := Lib.hid hso
    have H6 := Lib.hid H5
    have hol : outs.length ≤ 4 := by have := hacc.2.1; omega
    have hcl : chs.length ≤ 4 := by have := hacc.2.2.1; omega
    clear hacc hso HSO
    by_cases hlt : j < ops.length
    · have hlti : (j : Int) < (ops.length : Int) := by omega
      obtain ⟨p1, c1, hv, hq⟩ := ((Sep.f7 (H5))).rowIn
      injection hv with hv1 hv2 hv3
      subst hv1 hv3
      rcases hq with hq | ⟨ob, off, rfl, hq⟩
      · subst hq; exact absurd hlt (by simp)
      have q := fun i u hu => row_elem (k := 6) (enc := opC) (fun _ => rfl) hq j hlt i u hu
      have q0 := q 0 _ rfl
      have q1 := q 1 _ rfl
      have q2 := q 2 _ rfl
      have q3 := q 3 _ rfl
      have q4 := q 4 _ rfl
      have q5 := q 5 _ rfl
      rw [Nat.add_zero] at q0
      obtain ⟨g1, g2⟩ := HCo.out ops[j] (List.getElem_mem hlt)
      have hdrop : ops.drop j = ops[j] :: ops.drop (j + 1) := List.drop_eq_getElem_cons hlt
      have hso := HSo.out
      rw [hdrop] at hso
      have HSo2 := Lib.hid hso
      have hstep := accOK_step HAcc.out (by omega) ops[j] a2 whn g1
      have HStep := Lib.hid hstep
      have HOne := Lib.hid (fun w l H => stOne_any R w l G tb' (n + j) T' HAcc.out.1 (by omega) ops[j] a2 whn ⟨by omega, by omega⟩ H)
      clear q hq hdrop hso hstep HSo
      obtain ⟨n0, n1, n2, n3, n4, n5, n6, n7, nfz, nlt⟩ := ((Sep.f6 (H5))).c8
      clear H5
      generalize ops[j] = o at *
      have hst : stOps a2 whn (o :: ops.drop (j + 1)) j T' outs chs = if (stOne T' o a2 whn).2.2.1 ≠ 0 then (some ((stOne T' o a2 whn).2.2.1, j), T', outs, chs) else stOps a2 whn (ops.drop (j + 1)) (j + 1) (stOne T' o a2 whn).2.2.2 (outs ++ [(stOne T' o a2 whn).1]) (if (stOne T' o a2 whn).2.1.what ≠ 0 then chs ++ [(stOne T' o a2 whn).2.1] else chs) := rfl
      have hst2 := HSo2.out
      rw [hst] at hst2
      have HSt := Lib.hid hst2
      clear hst hst2 HSo2
      generalize stOne T' o a2 whn = r at *
      obtain ⟨⟨r1, r2⟩, ⟨r3, r4⟩, re, rT⟩ := r
      obtain ⟨o1, o2, o3, o4, o5, o6⟩ := o
      simp only at q0 q1 q2 q3 q4 q5
      have HOne2 : Hid (∀ w l, Sep R w (treeAt tb' T' :: l) → Calls Tryz.prog 129 #[.pointer (some ⟨tb', 0, none⟩), .agg #[.int .i64 o1, .string o2, .string o3, .int .i64 o4, .bool o5, .bool o6], .int .i64 a2, .int .i64 whn] w fun e w' => e = .returned (.tuple #[.agg #[.string r1, .int .i64 r2], .agg #[.string r3, .int .i64 r4], .int .i64 re]) ∧ Sep R w' (treeAt tb' rT :: l)) := Lib.hid HOne.out
      clear HOne
      go_wp2_with fail
      refine Calls.mono (HOne2.out _ _ ((Sep.f5 ((H6.out.mkc #[.int .i64 o1, .string o2, .string o3, .int .i64 o4, .bool o5, .bool o6] 91))))) ?_
      rintro e w2 ⟨rfl, H7⟩
      by_cases hre : re = 0
      case neg =>
        have hreb : (re != 0) = true := by simpa using hre
        have hst := HSt.out
        rw [if_pos hre] at hst
        have hrs := HRs.out
        rw [← hst] at hrs
        have hrs : (⟨re, j, [], whn⟩, S) = rs := hrs
        have HRs2 := Lib.hid hrs
        obtain ⟨z0, z1, z2, z3, zfz, zlt⟩ := ((Sep.f6 (H7))).c4
        have H8 := Lib.hid H7
        clear hre hst hrs H7 HSt HRs q0 q1 q2 q3 q4 q5 n0 n1 n2 n3 n4 n5 n6 n7 nfz nlt
        go_wp2
        refine bodyPost_ret (v := .agg #[.int .i64 re, .int .i64 j, .slice none 0 0, .int .i64 whn]) (by simp [results, Tryz.results108, go_sem, z0, z1, z2, z3, zfz, zlt]) rfl ⟨.slice none 0 0, ?_⟩
        rw [← HRs2.out]
        refine ⟨rfl, ?_⟩
        have Y := ((((((Sep.f6 (H8.out))).st 0 (.int .i64 re)).st 1 (.int .i64 j)).st 2 (.slice none 0 0)).st 3 (.int .i64 whn))
        have Z := (Y.mkc #[.string r1, .int .i64 r2] 130).mkc #[.string r3, .int .i64 r4] 196
        exact ((Sep.f1 (Sep.f1 (((Sep.f8 (Sep.f8 (Sep.f8 (Sep.f8 (Sep.f8 (Sep.f9 (Sep.f9 (Sep.f9 (Sep.f9 (Z))))))))))).drop.drop.drop.drop.drop.drop.drop.drop.drop)))).nilRec (sz := 2) (enc := outC)
      · subst hre
        have hst := HSt.out
        rw [if_neg (by simp)] at hst
        have HSt2 := Lib.hid hst
        have X8 := (H7.mkc #[.string r1, .int .i64 r2] 130).mkc #[.string r3, .int .i64 r4] 196
        have H8 := X8.mkc #[.string r1, .int .i64 r2] 130
        simp only [World.size_alloc] at H8
        obtain ⟨m0, m1, m2, m3, mfz, mlt⟩ := ((Sep.f5 (H7))).c4
        have hb1 : outs.length + [(⟨r1, r2⟩ : OutV)].length ≤ maxLen := by simp [maxLen]; omega
        have hb2 : (outs.length + [(⟨r1, r2⟩ : OutV)].length) * 24 ≤ 140737488355328 := by simp; omega
        have H7h := Lib.hid H7
        clear hst H7 HSt q0 q1 q2 q3 q4 q5 n0 n1 n2 n3 n4 n5 n6 n7 nfz nlt X8
        go_wp2_with (at_builtin; refine Hid.out ?_)
        refine Lib.hid (wpList_append_rec (sz := 2) (enc := outC) (by decide) (fun _ => rfl) rfl _ _ 45 45 130 rfl Tryz.underlying45 Tryz.underlying45 (.inr ⟨_, rfl⟩) out_info rfl (news := [⟨r1, r2⟩]) rfl rfl (Orch.Src.cells _ 0 _ _ rfl (fun i v hi => H8.c (0 + i) (by simpa [outC] using hi)) (by simp [outC, Value.oneCell'])) ((Sep.f7 (H8))) hb1 hb2 ?_)
        intro v' w9 H9
        obtain ⟨p9, k9, rfl⟩ : ∃ p c, v' = .slice p (outs ++ [(⟨r1, r2⟩ : OutV)]).length c := H9.recSlice
        have hll : (outs ++ [(⟨r1, r2⟩ : OutV)]).length = outs.length + 1 := by simp
        obtain ⟨x0, x1, xfz, xlt⟩ := ((Sep.f2 (H9))).c2
        obtain ⟨y0, y1, y2, y3, yfz, ylt⟩ := ((Sep.f8 (H9))).c4
        have Y := ((Sep.f8 (H9))).st 2 (.slice p9 (outs ++ [(⟨r1, r2⟩ : OutV)]).length k9)
        have t0 : World.cell? _ _ = some (.string r3) := ((Sep.f3 (Y))).c 0 rfl
        have t1 : World.cell? _ _ = some (.int .i64 r4) := ((Sep.f3 (Y))).c 1 rfl
        have H10 := Lib.hid Y
        have HLL := Lib.hid hll
        rw [hll] at t0 t1 H10 ⊢
        have hacc2 := HStep.out
        have HAcc2 := Lib.hid hacc2
        clear hll H9 Y x0 x1 xfz xlt hb1 hb2 H8 m0 m1 m2 m3 mfz mlt hacc2 HStep
        obtain ⟨b0, b1, bfz, blt⟩ := ((Sep.f3 (H10.out))).c2
        by_cases hw : r4 = 0
        · have hwb : (r4 != 0) = false := by simp [hw]
          have hst := HSt2.out
          rw [if_neg (by simpa using hw)] at hst
          have HSt3 := Lib.hid hst
          have hac := HAcc2.out
          rw [if_neg (by simpa using hw)] at hac
          have HAcc3 := Lib.hid hac
          clear hst hac hw HSt2 HAcc2
          go_wp2_with fail
          go_roundw
          case rel =>
            refine ⟨j + 1, rT, outs ++ [⟨r1, r2⟩], chs, p9, k9, hlt, by go_num, HAcc3.out, HSt3.out, ?_⟩
            rw [HLL.out]
            have Z := ((Sep.f5 (Sep.f5 (Sep.f5 (Sep.f6 (H10.out)))))).drop.drop.drop.drop
            exact (Sep.f4 (Sep.f4 (Sep.f2 (Sep.f1 (Sep.f2 (Z))))))
          case measure => simp [intOf]; omega
        · have hwb : (r4 != 0) = true := by simpa using hw
          have hst := HSt2.out
          rw [if_pos (by simpa using hw)] at hst
          have HSt3 := Lib.hid hst
          have hac := HAcc2.out
          rw [if_pos (by simpa using hw)] at hac
          have HAcc3 := Lib.hid hac
          have H11 := H10.out.mkc #[.string r3, .int .i64 r4] 196
          simp only [World.size_setCell] at H11
          have hb1 : chs.length + [(⟨r3, r4⟩ : ChV)].length ≤ maxLen := by simp [maxLen]; omega
          have hb2 : (chs.length + [(⟨r3, r4⟩ : ChV)].length) * 24 ≤ 140737488355328 := by simp; omega
          clear hst hac hw HSt2 HAcc2
          go_wp2_with (at_builtin; refine Hid.out ?_)
          refine Lib.hid (wpList_append_rec (sz := 2) (enc := chC) (by decide) (fun _ => rfl) rfl _ _ 194 194 196 rfl Tryz.underlying194 Tryz.underlying194 (.inr ⟨_, rfl⟩) ch_info rfl (news := [⟨r3, r4⟩]) rfl rfl (Orch.Src.cells _ 0 _ _ rfl (fun i v hi => H11.c (0 + i) (by simpa [chC] using hi)) (by simp [chC, Value.oneCell'])) ((Sep.f9 (H11))) hb1 hb2 ?_)
          intro v'' w12 H12
          have Z := ((Sep.f5 (Sep.f7 (Sep.f7 (Sep.f7 (Sep.f8 (H12))))))).drop.drop.drop.drop.drop
          have H13 := Lib.hid ((Sep.f4 (Sep.f3 (Sep.f3 (Sep.f2 (Sep.f3 (Z)))))))
          clear H11 H12 Z H10 b0 b1 bfz blt y0 y1 y2 y3 yfz ylt t0 t1 hb1 hb2
          go_wp2_with fail
          go_roundw
          case rel =>
            refine ⟨j + 1, rT, outs ++ [⟨r1, r2⟩], chs ++ [⟨r3, r4⟩], p9, k9, hlt, by go_num, HAcc3.out, HSt3.out, ?_⟩
            rw [HLL.out]
            exact H13.out
          case measure => simp [intOf]; omega
    · obtain rfl : j = ops.length := by omega
      have hlti : ¬ (ops.length : Int) < (ops.length : Int) := by omega
      have hso := HSo.out
      rw [List.drop_length] at hso
      have hrs := HRs.out
      rw [← hso] at hrs
      have hrs : (⟨0, 0, outs, whn⟩, { S with tree := T', book := fireAll S.book chs whn }) = rs := hrs
      have HRs2 := Lib.hid hrs
      clear hso hrs HSo HRs
      obtain ⟨pc, kc, rfl⟩ := ((Sep.f1 (H5))).recSlice
      obtain ⟨tb, sb, bb, H7⟩ := H5.st_
      obtain ⟨c0, c1, c2, c3, fz, lt⟩ := H7.c4
      have Y := (H7.st 0 (.pointer (some ⟨tb', 0, none⟩)))
      have Z := ((Sep.f3 (Sep.f7 (Sep.f3 (Sep.f3 (Y)))))).mkst (S := { S with tree := T', book := fireAll S.book [] whn })
      have H8 := Lib.hid (((Sep.f1 (Z))).drop)
      have HG0 := HS.out.2.2.1
      have HGB := Lib.hid HG0
      clear H5 H6 H7 Y Z HG0
      go_wp2_with fail
      clear c0 c1 c2 c3 fz lt
      go_loopw [68] (fun i wr => ∃ (j : Nat), j ≤ chs.length ∧ i = .int .i64 j ∧ Sep R wr (stAt b { S with tree := T', book := fireAll S.book (chs.take j) whn } :: chS (.slice pc chs.length kc) chs :: outS (.slice p' outs.length k') outs :: cellsAt n8 #[.int .i64 0, .int .i64 0, .slice p' outs.length k', .int .i64 whn] :: cellsAt nz #[.int .i64 0, .int .i64 0, .slice none 0 0, .int .i64 0] :: cellsAt nc #[.int .i64 a1, .int .i64 a2, .int .i64 a3, .int .i64 a4, .slice p ops.length k, .string a6, .bool a7, .bool a8] :: opS (.slice p ops.length k) ops :: l)) (fun i _ => chs.length - (intOf i).toNat)
      case atStart => exact ⟨0, Nat.zero_le _, rfl, H8.out⟩
      case round =>
        obtain ⟨i, hi, rfl, H9⟩ := hrel
        have H10 := Lib.hid H9
        by_cases hil : i < chs.length
        · have hili : (i : Int) < (chs.length : Int) := by omega
          obtain ⟨p1, c1, hv, hq⟩ := ((Sep.f1 (H9))).rowIn
          injection hv with hv1 hv2 hv3
          subst hv1 hv3
          rcases hq with hq | ⟨ob, off, rfl, hq⟩
          · subst hq; exact absurd hil (by simp)
          have q := fun m u hu => row_elem (k := 2) (enc := chC) (fun _ => rfl) hq i hil m u hu
          have q0 := q 0 _ rfl
          have q1 := q 1 _ rfl
          rw [Nat.add_zero] at q0
          have hsz := HAcc.out.2.2.2.2 chs[i] (List.getElem_mem hil)
          have hfa : fireAll S.book (chs.take (i + 1)) whn = (fireAll S.book (chs.take i) whn).fire chs[i].path chs[i].what whn := by
            unfold fireAll
            rw [List.take_succ_eq_append_getElem hil, List.foldl_append]
            rfl
          have HFa := Lib.hid hfa
          have hgd := (fireAll_good whn (chs.take i) HGB.out)
          have htl : (chs.take i).length ≤ 4 := by rw [List.length_take]; omega
          have hgd := hgd.mono (by omega : n + 40 * (chs.take i).length ≤ n + 160)
          have HGd := Lib.hid hgd
          clear q hq hfa hgd htl
          generalize fireAll S.book (chs.take i) whn = BB at *
          generalize chs[i] = ch at *
          obtain ⟨ch1, ch2⟩ := ch
          simp only at q0 q1 hsz
          obtain ⟨tb2, sb2, bb2, H11⟩ := H9.st_
          have X := (H11.mkc #[.string ch1, .int .i64 ch2] 196).drew
          obtain ⟨d0, d1, d2, d3, dfz, dlt⟩ := ((Sep.f1 (X))).c4
          obtain ⟨t0, t1, tfz, tlt⟩ := X.c2
          have HFi := Lib.hid (bookFire_any R _ _ bb2 BB ch1 ch2 whn (by omega) (by have := HGd.out.1; omega) (good_fireK HGd.out (by omega)) ((Sep.f4 (X))))
          clear H9 H11 X
          go_wp2_with fail
          go_region_held3 (fun W => W.cell? ⟨b, 2, none⟩ = some (.pointer (some ⟨bb2, 0, none⟩)) ∧ W.cell? ⟨wr.heap.size, 0, none⟩ = some (.string ch1) ∧ W.cell? ⟨wr.heap.size, 1, none⟩ = some (.int .i64 ch2))
            (first
              | exact ⟨d2, t0, t1⟩
              | exact ⟨((Sep.f2 (H12))).c 2 rfl, ((Sep.f1 (H12))).c 0 rfl, ((Sep.f1 (H12))).c 1 rfl⟩)
            (first
              | (go_at_call 105; (with_reducible refine Calls.mono HFi.out ?_); rintro e w12 ⟨rfl, H12⟩))
          have Z := ((Sep.f4 (Sep.f4 (Sep.f4 (H12))))).mkst (S := { S with tree := T', book := BB.fire ch1 ch2 whn })
          have H13 := Lib.hid (((Sep.f1 (Z))).drop)
          clear H12 Z d0 d1 d2 d3 dfz dlt t0 t1 tfz tlt q0 q1
          go_wp2_with fail
          go_roundw
          case rel =>
            refine ⟨i + 1, hil, by go_num, ?_⟩
            rw [HFa.out]
            exact H13.out
          case measure => simp [intOf]; omega
        · obtain rfl : i = chs.length := by omega
          have hili : ¬ (chs.length : Int) < (chs.length : Int) := by omega
          have H11 := H10.out
          rw [List.take_length] at H11
          obtain ⟨z0, z1, z2, z3, zfz, zlt⟩ := ((Sep.f4 (H11))).c4
          obtain ⟨m0, m1, m2, m3, mfz, mlt⟩ := ((Sep.f3 (H11))).c4
          have H12 := Lib.hid H11
          clear H9 H10 H11
          go_wp2
          refine bodyPost_ret (v := .agg #[.int .i64 0, .int .i64 0, .slice p' outs.length k', .int .i64 whn]) (by simp [results, Tryz.results108, go_sem, z0, z1, z2, z3, zfz, zlt]) rfl ⟨.slice p' outs.length k', ?_⟩
          rw [← HRs2.out]
          refine ⟨rfl, ?_⟩
          have Y := ((((((Sep.f4 (H12.out))).st 0 (.int .i64 0)).st 1 (.int .i64 0)).st 2 (.slice p' outs.length k')).st 3 (.int .i64 whn))
          exact (Sep.f1 (((Sep.f3 (Sep.f4 (Sep.f5 (Sep.f5 (Y)))))).drop.drop.drop.drop))
end Go.Proofs.YtpeflgfldbjflaaGreatDoor
end
