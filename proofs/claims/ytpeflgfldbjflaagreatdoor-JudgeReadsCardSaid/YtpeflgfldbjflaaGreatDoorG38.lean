/- WHAT IS PROVED HERE: Package judge: hear's walk. -/
import Derived.Test.YtpeflgfldbjflaaGreatDoorG37
set_option linter.unusedVariables false
set_option linter.unusedSimpArgs false
set_option linter.unusedSectionVars false
set_option linter.unnecessarySimpa false
section
namespace Go.Proofs.YtpeflgfldbjflaaGreatDoor
open Go.RowKit Go.Orch Go.Shelf
set_option maxRecDepth 100000 in
set_option maxHeartbeats 4000000 in
theorem juHear_any (R w : World) (l : List HP) (b jb n N : Nat) (S : StV) (J : JuV) (hS : S.ok n) (hn : n ≤ 10000000) (hE : evsLe J.events N) (hN : N + 17 * n ≤ 1000000000) (H : Orch.Sep R w (stAt b S :: juAt jb J :: l)) :
    Calls Tryz.prog 26 #[.pointer (some ⟨jb, 0, none⟩), .pointer (some ⟨b, 0, none⟩)] w fun e w' => e = .returned (.tuple #[]) ∧ Orch.Sep R w' (stAt b S :: juAt jb { J with events := hear_ J.events S } :: l) := by
  have HS := Lib.hid (stSessions_any R w _ b n S hS H)
  unfold hear_
  obtain ⟨ids, hids⟩ : ∃ ids, ids = sortI (S.tab.map (·.1)) := ⟨_, rfl⟩
  rw [← hids] at HS ⊢
  have hlen : ids.length ≤ 16 := by rw [hids, len_sortI, List.length_map]; exact hS.2.1.1.1
  obtain ⟨EF, hEF⟩ : ∃ EF, EF = ids.foldl (fun E id => hearAll E id (S.book.eventsOf id)) J.events := ⟨_, rfl⟩
  rw [← hEF]
  have HEF := Lib.hid hEF
  have HE := Lib.hid hE
  clear H hEF hE hids
  go_enter Tryz.func26, Tryz.ntmps26
  go_wp2_with fail
  refine Calls.mono HS.out ?_
  rintro e w1 ⟨v, rfl, H2⟩
  obtain ⟨p, k, rfl⟩ := H2.listSlice
  have H3 := Lib.hid H2
  clear H2 HS
  go_wp2_with fail
  go_loopw [11] (fun i wr => ∃ (j : Nat) (E : EvM), j ≤ ids.length ∧ i = .int .i64 j ∧ (ids.drop j).foldl (fun E id => hearAll E id (S.book.eventsOf id)) E = EF ∧ evsLe E (N + j * n) ∧ Orch.Sep R wr (listS intV (.slice p ids.length k) ids :: stAt b S :: juAt jb { J with events := E } :: l)) (fun i _ => ids.length - (intOf i).toNat)
  case atStart => exact ⟨0, J.events, Nat.zero_le _, rfl, HEF.out.symm, by simpa using HE.out, H3.out⟩
  case round =>
    obtain ⟨j, E, hj, rfl, hf, hE, H4⟩ := hrel
    have HF := Lib.hid hf
    have HE2 := Lib.hid hE
    clear hf hE HE HEF
    by_cases hlt : j < ids.length
    · have hlti : (j : Int) < (ids.length : Int) := by omega
      obtain ⟨ob, off, rfl, hc⟩ := H4.listElem j hlt
      have hf := HF.out
      rw [List.drop_eq_getElem_cons hlt, List.foldl_cons] at hf
      have HF2 := Lib.hid hf
      clear hf HF
      generalize ids[j] = id at *
      have HEv := Lib.hid (stEvents_any R wr _ b n S hS (by omega) id ((Sep.f1 (H4))))
      have hes : (S.book.eventsOf id).length ≤ n := Nat.le_trans (List.length_filter_le _ _) hS.2.2.1.2.1
      have HS2 := Lib.hid hS
      clear H4 hS
      generalize S.book.eventsOf id = es at *
      go_wp2_with fail
      refine Calls.mono HEv.out ?_
      rintro e w2 ⟨v, rfl, H6⟩
      obtain ⟨pe, ke, rfl⟩ := H6.recSlice
      have H7 := Lib.hid H6
      clear H6 hc HEv
      go_wp2_with fail
      go_loopw [19] (fun i wr => ∃ (j2 : Nat) (E2 : EvM), j2 ≤ es.length ∧ i = .int .i64 j2 ∧ hearAll E2 id (es.drop j2) = hearAll E id es ∧ evsLe E2 (N + j * n + j2) ∧ Orch.Sep R wr (eventS (.slice pe es.length ke) es :: stAt b S :: listS intV (.slice (some ⟨ob, off, none⟩) ids.length k) ids :: juAt jb { J with events := E2 } :: l)) (fun i _ => es.length - (intOf i).toNat)
      case atStart => exact ⟨0, E, Nat.zero_le _, rfl, rfl, HE2.out, H7.out⟩
      case round =>
        obtain ⟨j2, E2, hj2, rfl, hf2, hE2, H8⟩ := hrel
        by_cases hlt2 : j2 < es.length
        · have hlti2 : (j2 : Int) < (es.length : Int) := by omega
          obtain ⟨eb0, pre, hpe, e0, e1, e2, e3, e4⟩ : ∃ (eb0 : Nat) (pre : Nat), pe = some ⟨eb0, pre, none⟩ ∧ wr.cell? ⟨eb0, pre + j2 * 5, none⟩ = some (.int .i64 es[j2].session) ∧ wr.cell? ⟨eb0, pre + j2 * 5 + 1, none⟩ = some (.int .i64 es[j2].no) ∧ wr.cell? ⟨eb0, pre + j2 * 5 + 2, none⟩ = some (.string es[j2].path) ∧ wr.cell? ⟨eb0, pre + j2 * 5 + 3, none⟩ = some (.int .i64 es[j2].what) ∧ wr.cell? ⟨eb0, pre + j2 * 5 + 4, none⟩ = some (.int .i64 es[j2].when) := by
            rcases H8.recOpen with ⟨_, h0, _⟩ | ⟨b', cap, pre, post, h0, h1, h2, h3, h4, H1⟩
            · rw [h0] at hlt2; exact absurd hlt2 (Nat.not_lt_zero _)
            · injection h0 with h0 _ _
              exact ⟨b', pre.length, h0, H1.elem (sz := 5) (fun _ => rfl) j2 hlt2 0 rfl, H1.elem (sz := 5) (fun _ => rfl) j2 hlt2 1 rfl, H1.elem (sz := 5) (fun _ => rfl) j2 hlt2 2 rfl, H1.elem (sz := 5) (fun _ => rfl) j2 hlt2 3 rfl, H1.elem (sz := 5) (fun _ => rfl) j2 hlt2 4 rfl⟩
          subst hpe
          rw [List.drop_eq_getElem_cons hlt2] at hf2
          have hf3 : hearAll (hearOne E2 id es[j2]) id (es.drop (j2 + 1)) = hearAll E id es := hf2
          have HF3 := Lib.hid hf3
          have HE3 := Lib.hid hE2
          have H9 := Lib.hid H8
          clear hf2 hf3 hE2 H8
          generalize es[j2] = x at *
          obtain ⟨tb, eb, sv, rv, ev, L, hrv, H10, hclose, hput⟩ := ((Sep.f3 (H9.out))).juRow id
          simp only at H10 hclose hput
          have hyl : ((aget E2 id).getD []).length ≤ 1000000000 := by
            have := HE3.out.get id
            have hm : j * n ≤ 16 * n := Nat.mul_le_mul_right n (by omega)
            omega
          have hone : hearOne E2 id x = if x ∈ (aget E2 id).getD [] then E2 else aput E2 id ((aget E2 id).getD [] ++ [x]) := rfl
          generalize (aget E2 id).getD [] = ys at *
          obtain ⟨pr, cr, rfl⟩ := ((Sep.f2 (H10))).recSlice
          have HCl := Lib.hid hclose
          have HPut := Lib.hid hput
          have HOne := Lib.hid hone
          have HH := Lib.hid H10
          obtain ⟨x1, x2, x3, x4, x5⟩ := x
          simp only at e0 e1 e2 e3 e4
          have HC := Lib.hid (fun w l H => contE_any R w l (.slice pr ys.length cr) ys ⟨x1, x2, x3, x4, x5⟩ hyl H)
          have hzE : ∀ w : World, (zeroValue 48).run Tryz.prog w = .ok (.slice none 0 0) w := fun w => by go_simp
          have hlk : ∀ (w : World) (l : List HP), Orch.Sep R w (mapAt intK eb (evM ev) :: l) → (Instr.lookup 71 (.map (some eb)) (intV id) false).run Tryz.prog w = .ok (.slice pr ys.length cr) w := fun w l H => by
            have := run_lookup (P := Tryz.prog) (t := 71) (kt := 3) (e := 48) intK_same Tryz.underlying71 Tryz.underlying3 H id (hzE w) false
            rw [hrv] at this
            exact this
          have HLk := Lib.hid hlk
          clear hclose hput hone H10 hrv hlk
          go_wp2_with fail
          obtain ⟨bm, hbm⟩ : ∃ bm, bm = decide ((⟨x1, x2, x3, x4, x5⟩ : EventV) ∈ ys) := ⟨_, rfl⟩
          have hC := HC.out
          rw [← hbm] at hC
          have HC2 := Lib.hid hC
          have HBm := Lib.hid hbm
          clear HC hC hbm
          have X : ∀ tid, Orch.Sep R (wr.alloc (.cells #[.int .i64 x1, .int .i64 x2, .string x3, .int .i64 x4, .int .i64 x5] tid)) (eventS (.slice pr ys.length cr) ys :: cellsAt wr.heap.size #[.int .i64 x1, .int .i64 x2, .string x3, .int .i64 x4, .int .i64 x5] :: cellsAt jb (juCells tb eb sv { texts := J.texts, states := J.states, events := E2, told := J.told, wrong := J.wrong }) :: mapAt intK eb (evM ev) :: L) := fun tid => (Sep.f3 (Sep.f2 (Sep.f2 (Sep.f2 (HH.out.mkc #[.int .i64 x1, .int .i64 x2, .string x3, .int .i64 x4, .int .i64 x5] tid)))))
          have X6 := (X 110).drew
          have hl6 := HLk.out _ _ ((Sep.f3 (X6)))
          obtain ⟨d0, d1, d2, d3, d4, dfz, dlt⟩ := ((Sep.f1 ((X 110)))).c5
          have g2 : World.cell? _ ⟨jb, 2, none⟩ = some (.map (some eb)) := ((Sep.f2 ((X 110)))).c 2 rfl
          go_region_held3 (fun W => W.cell? ⟨jb, 2, none⟩ = some (.map (some eb)) ∧ W.cell? ⟨wr.heap.size, 0, none⟩ = some (.int .i64 x1) ∧ W.cell? ⟨wr.heap.size, 1, none⟩ = some (.int .i64 x2) ∧ W.cell? ⟨wr.heap.size, 2, none⟩ = some (.string x3) ∧ W.cell? ⟨wr.heap.size, 3, none⟩ = some (.int .i64 x4) ∧ W.cell? ⟨wr.heap.size, 4, none⟩ = some (.int .i64 x5))
            (first
              | exact ⟨g2, d0, d1, d2, d3, d4⟩
              | exact ⟨((Sep.f2 (H12))).c 2 rfl, ((Sep.f1 (H12))).c 0 rfl, ((Sep.f1 (H12))).c 1 rfl, ((Sep.f1 (H12))).c 2 rfl, ((Sep.f1 (H12))).c 3 rfl, ((Sep.f1 (H12))).c 4 rfl⟩)
            (first
              | (go_at_call 53; refine Calls.mono (HC2.out _ _ X6) ?_; rintro e w3 ⟨rfl, H12⟩))
          have H13 := Lib.hid H12
          clear H12 X X6 hl6 d0 d1 d2 d3 d4 dfz dlt g2
          cases bm with
          | true =>
            go_wp2_with fail
            go_roundw
            case rel =>
              have hin := of_decide_eq_true HBm.out.symm
              have ho := HOne.out
              rw [if_pos hin] at ho
              have hf := HF3.out
              rw [ho] at hf
              exact ⟨j2 + 1, E2, hlt2, by go_num, hf, fun y hy => by have := HE3.out y hy; omega, (Sep.f3 (Sep.f3 (Sep.f3 ((HCl.out _ ((Sep.f2 (Sep.f2 (((Sep.f1 (H13.out))).drop)))))))))⟩
            case measure => simp [intOf]; omega
          | false =>
            have g2 : w3.cell? ⟨jb, 2, none⟩ = some (.map (some eb)) := ((Sep.f2 (H13.out))).c 2 rfl
            obtain ⟨d0, d1, d2, d3, d4, dfz, dlt⟩ := ((Sep.f1 (H13.out))).c5
            have X : ∀ tid, Orch.Sep R (w3.drew.alloc (.cells #[.int .i64 x1, .int .i64 x2, .string x3, .int .i64 x4, .int .i64 x5] tid)) (eventS (.slice pr ys.length cr) ys :: cellsAt w3.heap.size #[.int .i64 x1, .int .i64 x2, .string x3, .int .i64 x4, .int .i64 x5] :: cellsAt wr.heap.size #[.int .i64 x1, .int .i64 x2, .string x3, .int .i64 x4, .int .i64 x5] :: cellsAt jb (juCells tb eb sv { texts := J.texts, states := J.states, events := E2, told := J.told, wrong := J.wrong }) :: mapAt intK eb (evM ev) :: L) := fun tid => (Sep.f1 (H13.out.drew.mkc #[.int .i64 x1, .int .i64 x2, .string x3, .int .i64 x4, .int .i64 x5] tid))
            have hl7 := HLk.out _ _ ((Sep.f3 (H13.out.drew)))
            have hl8 : ∀ tid, (Instr.lookup 71 (.map (some eb)) (intV id) false).run Tryz.prog (w3.drew.alloc (.cells #[.int .i64 x1, .int .i64 x2, .string x3, .int .i64 x4, .int .i64 x5] tid)) = .ok (.slice pr ys.length cr) _ := fun tid => HLk.out _ _ ((Sep.f4 ((X tid))))
            have hl9 : ∀ tid, (Instr.lookup 71 (.map (some eb)) (intV id) false).run Tryz.prog ((w3.alloc (.cells #[.int .i64 x1, .int .i64 x2, .string x3, .int .i64 x4, .int .i64 x5] tid)).drew) = .ok (.slice pr ys.length cr) _ := hl8
            have hsrc : ∀ tid c, Orch.Src Tryz.prog (w3.drew.alloc (.cells #[.int .i64 x1, .int .i64 x2, .string x3, .int .i64 x4, .int .i64 x5] tid)) (.slice (some ⟨w3.heap.size, 0, none⟩) 1 c) 5 1 ([(⟨x1, x2, x3, x4, x5⟩ : EventV)].flatMap eventC) := fun tid c => Orch.Src.cells _ 0 c _ rfl (fun j v hj => ((Sep.f1 ((X tid)))).c (0 + j) (by simpa [eventC] using hj)) (by simp [eventC, Value.oneCell'])
            have hb1 : ys.length + [(⟨x1, x2, x3, x4, x5⟩ : EventV)].length ≤ maxLen := by simp [maxLen]; omega
            have hb2 : (ys.length + [(⟨x1, x2, x3, x4, x5⟩ : EventV)].length) * 48 ≤ 140737488355328 := by simp; omega
            have g2b : ∀ o, (w3.drew.alloc o).cell? ⟨jb, 2, none⟩ = some (.map (some eb)) := fun o => Lib.cell?_alloc_some (W := w3.drew) o g2
            have d0b : ∀ o, (w3.drew.alloc o).cell? ⟨wr.heap.size, 0, none⟩ = some (.int .i64 x1) := fun o => Lib.cell?_alloc_some (W := w3.drew) o d0
            have d1b : ∀ o, (w3.drew.alloc o).cell? ⟨wr.heap.size, 1, none⟩ = some (.int .i64 x2) := fun o => Lib.cell?_alloc_some (W := w3.drew) o d1
            have d2b : ∀ o, (w3.drew.alloc o).cell? ⟨wr.heap.size, 2, none⟩ = some (.string x3) := fun o => Lib.cell?_alloc_some (W := w3.drew) o d2
            have d3b : ∀ o, (w3.drew.alloc o).cell? ⟨wr.heap.size, 3, none⟩ = some (.int .i64 x4) := fun o => Lib.cell?_alloc_some (W := w3.drew) o d3
            have d4b : ∀ o, (w3.drew.alloc o).cell? ⟨wr.heap.size, 4, none⟩ = some (.int .i64 x5) := fun o => Lib.cell?_alloc_some (W := w3.drew) o d4
            go_wp2_with fail
            go_region_held3 (fun W => W.cell? ⟨jb, 2, none⟩ = some (.map (some eb)) ∧ W.cell? ⟨wr.heap.size, 0, none⟩ = some (.int .i64 x1) ∧ W.cell? ⟨wr.heap.size, 1, none⟩ = some (.int .i64 x2) ∧ W.cell? ⟨wr.heap.size, 2, none⟩ = some (.string x3) ∧ W.cell? ⟨wr.heap.size, 3, none⟩ = some (.int .i64 x4) ∧ W.cell? ⟨wr.heap.size, 4, none⟩ = some (.int .i64 x5))
              (first
                | exact ⟨g2, d0, d1, d2, d3, d4⟩
                | exact ⟨g2b _, d0b _, d1b _, d2b _, d3b _, d4b _⟩
                | exact ⟨((Sep.f4 (H15))).c 2 rfl, ((Sep.f3 (H15))).c 0 rfl, ((Sep.f3 (H15))).c 1 rfl, ((Sep.f3 (H15))).c 2 rfl, ((Sep.f3 (H15))).c 3 rfl, ((Sep.f3 (H15))).c 4 rfl⟩
                | exact ⟨((Sep.f3 (H14))).c 2 rfl, ((Sep.f2 (H14))).c 0 rfl, ((Sep.f2 (H14))).c 1 rfl, ((Sep.f2 (H14))).c 2 rfl, ((Sep.f2 (H14))).c 3 rfl, ((Sep.f2 (H14))).c 4 rfl⟩)
              (first
                | (refine step_append_rec (sz := 5) (enc := eventC) (by decide) (fun _ => rfl) rfl _ _ 48 48 110 rfl Tryz.underlying48 Tryz.underlying48 (.inr ⟨_, rfl⟩) event_info rfl (xs := ys) (news := [⟨x1, x2, x3, x4, x5⟩]) rfl rfl (hsrc _ _) (X _) hb1 hb2 ?_; intro p9 c9 w9 H14; obtain ⟨w10, hmu, H15⟩ := run_mapUpdate (P := Tryz.prog) (t := 71) (kt := 3) (e := 48) intK_same Tryz.underlying71 Tryz.underlying3 ((Sep.f4 (H14))) id (.slice p9 (ys ++ [(⟨x1, x2, x3, x4, x5⟩ : EventV)]).length c9); have hmu2 : (Instr.mapUpdate 71 (.map (some eb)) (intV id) (.slice p9 (ys ++ [(⟨x1, x2, x3, x4, x5⟩ : EventV)]).length c9)).run Tryz.prog w9 = .ok () w10 := hmu; have hmu3 : (Instr.mapUpdate 71 (.map (some eb)) (intV id) (.slice p9 (ys.length + 1) c9)).run Tryz.prog w9 = .ok () w10 := by rw [show ys.length + 1 = (ys ++ [(⟨x1, x2, x3, x4, x5⟩ : EventV)]).length by simp]; exact hmu))
            all_goals
              have H16 := Lib.hid H15
              clear H14 H15 hmu hmu2 hmu3 X hl7 hl8 hl9 hsrc g2b d0b d1b d2b d3b d4b g2 d0 d1 d2 d3 d4 dfz dlt
              have hout : ¬ ((⟨x1, x2, x3, x4, x5⟩ : EventV) ∈ ys) := of_decide_eq_false HBm.out.symm
              have ho := HOne.out
              rw [if_neg hout] at ho
              have HHo := Lib.hid ho
              clear ho hout
              go_wp2_with fail
              go_roundw
              case rel =>
                have H17 := HPut.out _ _ _ ((Sep.f2 (Sep.f1 (Sep.f1 (((Sep.f3 (Sep.f3 (H16.out)))).drop.drop)))))
                rw [← HHo.out] at H17
                have hle := hearOne_le HE3.out id ⟨x1, x2, x3, x4, x5⟩
                first
                | exact ⟨j2 + 1, _, hlt2, by go_num, HF3.out, hle, (Sep.f3 (Sep.f3 (Sep.f3 (H17))))⟩
                | (repeat apply Exists.intro
                   refine ⟨⟨hlt2, by go_num, HF3.out, hle, (Sep.f3 (Sep.f3 (Sep.f3 (H17))))⟩, rfl⟩)
              case measure => simp [intOf]; omega
        · obtain rfl : j2 = es.length := by omega
          have hlti2 : ¬ (es.length : Int) < (es.length : Int) := by omega
          rw [List.drop_length] at hf2
          have hf3 : E2 = hearAll E id es := hf2
          subst hf3
          have HE3 := Lib.hid hE2
          have H9 := Lib.hid ((Sep.f1 (H8.drop)))
          clear hf2 hE2 H8
          go_wp2_with fail
          go_roundw
          case rel => exact ⟨j + 1, _, hlt, by go_num, HF2.out, fun x hx => by have := HE3.out x hx; rw [Nat.add_mul]; omega, H9.out⟩
          case measure => simp [intOf]; omega
    · obtain rfl : j = ids.length := by omega
      have hlti : ¬ (ids.length : Int) < (ids.length : Int) := by omega
      have hf := HF.out
      rw [List.drop_length] at hf
      have HF2 := Lib.hid hf
      have H5 := Lib.hid H4.drop
      clear hf H4
      go_wp2
      go_end0
      refine ⟨rfl, ?_⟩
      rw [← HF2.out]
      exact H5.out
end Go.Proofs.YtpeflgfldbjflaaGreatDoor
end
