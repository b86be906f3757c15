/- WHAT IS PROVED HERE: Package state: do; Package state: Kept. -/
import Derived.Test.YtpeflgfldbjflaaGreatDoorG31
import Derived.Test.YtpeflgfldbjflaaGreatDoorG28
set_option linter.unusedVariables false
set_option linter.unusedSimpArgs false
set_option linter.unusedSectionVars false
set_option linter.unnecessarySimpa false
section
namespace Go.Orch
open Go.RowKit Go.Proofs
def stDo (S : StV) (c : CmdV) (whn : Int) : ResV × StV :=
  if c.kind = 3 then stUpdate S c whn
  else if c.kind = 4 then (⟨(bookAdd S.book ⟨c.session, c.path, c.kids, c.once⟩).1, 0, [], whn⟩, { S with book := (bookAdd S.book ⟨c.session, c.path, c.kids, c.once⟩).2 })
  else (⟨0, 0, [], whn⟩, S)
theorem stOps_acc (session whn : Int) : ∀ (os : List OpV) (i : Nat) (T : TreeV) (outs : List OutV) (chs : List ChV) (n k : Nat), accOK n T outs chs k → n + k + os.length ≤ 100000000 → (∀ o ∈ os, o.path.size ≤ 100) →
    ∀ T' outs' chs', stOps session whn os i T outs chs = (none, T', outs', chs') → accOK n T' outs' chs' (k + os.length)
  | [], i, T, outs, chs, n, k, h, _, _, T', outs', chs', e => by
    simp only [stOps, Prod.mk.injEq, true_and] at e
    obtain ⟨rfl, rfl, rfl⟩ := e
    exact h
  | o :: os, i, T, outs, chs, n, k, h, hn, hp, T', outs', chs', e => by
    simp only [List.length_cons] at hn
    have hs := accOK_step h (by omega) o session whn (hp o (by simp))
    have e2 : (if (stOne T o session whn).2.2.1 ≠ 0 then (some ((stOne T o session whn).2.2.1, i), T, outs, chs) else stOps session whn os (i + 1) (stOne T o session whn).2.2.2 (outs ++ [(stOne T o session whn).1]) (if (stOne T o session whn).2.1.what ≠ 0 then chs ++ [(stOne T o session whn).2.1] else chs)) = (none, T', outs', chs') := e
    split at e2
    · simp at e2
    · have := stOps_acc session whn os (i + 1) _ _ _ n (k + 1) hs (by omega) (fun x hx => hp x (by simp [hx])) T' outs' chs' e2
      rw [List.length_cons, show k + (os.length + 1) = k + 1 + os.length by omega]
      exact this
theorem update_ok {S : StV} {n : Nat} (h : S.ok n) (hn : n ≤ 90000000) (c : CmdV) (whn : Int) (hl : c.ops.length ≤ 4) (hc : ∀ o ∈ c.ops, o.path.size ≤ 100 ∧ o.data.size ≤ 100) :
    (stUpdate S c whn).2.ok (n + 200) ∧ (stUpdate S c whn).1.outs.length ≤ 4 ∧ ∀ o ∈ (stUpdate S c whn).1.outs, o.path.size ≤ 200 := by
  unfold stUpdate
  have h0 : accOK n S.tree [] [] 0 := ⟨h.1, rfl, Nat.zero_le _, by simp, by simp⟩
  have hac := stOps_acc c.session whn c.ops 0 S.tree [] [] n 0 h0 (by omega) (fun o ho => (hc o ho).1)
  generalize stOps c.session whn c.ops 0 S.tree [] [] = q at *
  obtain ⟨q1, T', outs, chs⟩ := q
  cases q1 with
  | some e => exact ⟨h.mono (by omega), Nat.zero_le _, by intro o ho; simp [stUpd] at ho⟩
  | none =>
    obtain ⟨g1, g2, g3, g4, g5⟩ := hac T' outs chs rfl
    refine ⟨⟨g1.mono (by omega), h.2.1, ?_, h.2.2.2.1, by have := h.2.2.2.2; simp only [stUpd]; omega⟩, by simp only [stUpd]; omega, g4⟩
    have := fireAll_good whn chs h.2.2.1
    exact this.mono (by omega)
theorem do_ok {S : StV} {n : Nat} (h : S.ok n) (hn : n ≤ 90000000) (c : CmdV) (whn : Int) (hl : c.ops.length ≤ 4) (hc : ∀ o ∈ c.ops, o.path.size ≤ 100 ∧ o.data.size ≤ 100) :
    (stDo S c whn).2.ok (n + 200) ∧ (stDo S c whn).1.outs.length ≤ 4 ∧ ∀ o ∈ (stDo S c whn).1.outs, o.path.size ≤ 200 := by
  unfold stDo
  split
  · exact update_ok h hn c whn hl hc
  split
  · exact ⟨⟨h.1.mono (by omega), h.2.1, (add_good h.2.2.1 _).mono (by omega), h.2.2.2.1, by have := h.2.2.2.2; simp only; omega⟩, Nat.zero_le _, by intro o ho; simp at ho⟩
  · exact ⟨h.mono (by omega), Nat.zero_le _, by intro o ho; simp at ho⟩
end Go.Orch
namespace Go.Proofs.YtpeflgfldbjflaaGreatDoor
open Go.RowKit Go.Orch Go.Shelf
set_option maxRecDepth 100000 in
set_option maxHeartbeats 4000000 in
theorem stDo_any (R w : World) (l : List HP) (G : GoodR R) (b n : Nat) (S : StV) (hS : S.ok n) (hn : n ≤ 90000000) (c : CmdV) (v : Value) (whn : Int) (hl : c.ops.length ≤ 4) (hc : ∀ o ∈ c.ops, o.path.size ≤ 100 ∧ o.data.size ≤ 100) (hp : c.path.size ≤ 1000) (H : Sep R w (stAt b S :: opS v c.ops :: l)) :
    Calls Tryz.prog 79 #[.pointer (some ⟨b, 0, none⟩), .agg (cmdC c v).toArray, .int .i64 whn] w fun e w' => ∃ v', e = .returned (.agg (resC (stDo S c whn).1 v').toArray) ∧ Sep R w' (outS v' (stDo S c whn).1.outs :: stAt b (stDo S c whn).2 :: opS v c.ops :: l) := by
  obtain ⟨p, k, rfl⟩ := ((Sep.f1 (H))).recSlice
  have HUp := Lib.hid (fun w l H => stUpdate_any R w l G b n S hS hn c (.slice p c.ops.length k) whn hl hc H)
  unfold stDo
  obtain ⟨a1, a2, a3, a4, ops, a6, a7, a8⟩ := c
  generalize stUpdate S ⟨a1, a2, a3, a4, ops, a6, a7, a8⟩ whn = u at *
  obtain ⟨⟨u1, u2, u3, u4⟩, uS⟩ := u
  simp only at hl hc hp H HUp ⊢
  have HUp2 : Hid (∀ w l, Sep R w (stAt b S :: opS (.slice p ops.length k) ops :: l) → Calls Tryz.prog 108 #[.pointer (some ⟨b, 0, none⟩), .agg #[.int .i64 a1, .int .i64 a2, .int .i64 a3, .int .i64 a4, .slice p ops.length k, .string a6, .bool a7, .bool a8], .int .i64 whn] w fun e w' => ∃ v', e = .returned (.agg #[.int .i64 u1, .int .i64 u2, v', .int .i64 u4]) ∧ Sep R w' (outS v' u3 :: stAt b uS :: opS (.slice p ops.length k) ops :: l)) := Lib.hid HUp.out
  clear HUp hc
  show Calls Tryz.prog 79 #[.pointer (some ⟨b, 0, none⟩), .agg #[.int .i64 a1, .int .i64 a2, .int .i64 a3, .int .i64 a4, .slice p ops.length k, .string a6, .bool a7, .bool a8], .int .i64 whn] w _
  have X := (H.mkc #[.int .i64 a1, .int .i64 a2, .int .i64 a3, .int .i64 a4, .slice p ops.length k, .string a6, .bool a7, .bool a8] 57).mkc #[.int .i64 0, .int .i64 0, .slice none 0 0, .int .i64 0] 47
  simp only [World.size_alloc] at X
  have HX := Lib.hid X
  have HH := Lib.hid H
  clear X H
  by_cases h1 : a1 = 3
  · subst h1
    simp only [if_true]
    have HU := Lib.hid (HUp2.out _ _ ((Sep.f3 (Sep.f3 (HX.out)))))
    go_enter Tryz.func79, Tryz.ntmps79
    go_wp2_with fail
    refine Calls.mono HU.out ?_
    rintro e w1 ⟨v', rfl, H1⟩
    obtain ⟨p', k', rfl⟩ := H1.recSlice
    obtain ⟨z0, z1, z2, z3, zfz, zlt⟩ := ((Sep.f3 (H1))).c4
    have H2 := Lib.hid H1
    clear H1 HU HX
    go_wp2
    refine bodyPost_ret (v := .agg #[.int .i64 u1, .int .i64 u2, .slice p' u3.length k', .int .i64 u4]) (by simp [results, Tryz.results79, go_sem, z0, z1, z2, z3, zfz, zlt]) rfl ⟨_, rfl, ?_⟩
    have Y := ((((((Sep.f3 (H2.out))).st 0 (.int .i64 u1)).st 1 (.int .i64 u2)).st 2 (.slice p' u3.length k')).st 3 (.int .i64 u4))
    exact ((Sep.f3 ((Y.drop)))).drop
  simp only [if_neg h1]
  have hb1 : (a1 == 3) = false := by simpa using h1
  by_cases h2 : a1 = 4
  · subst h2
    simp only [if_true]
    obtain ⟨tb, sb, bb, H1⟩ := ((Sep.f2 (HX.out.drew))).st_
    have HA := Lib.hid (bookAdd_any R _ _ G bb S.book ⟨a2, a6, a7, a8⟩ (by simp only; omega) (by have := hS.2.2.1.1; omega) ((Sep.f3 (H1))))
    generalize bookAdd S.book ⟨a2, a6, a7, a8⟩ = q at *
    obtain ⟨q1, q2⟩ := q
    simp only at HA ⊢
    obtain ⟨c0, c1, c2, c3, fz, lt⟩ := H1.c4
    obtain ⟨e0, e1, e2, e3, e4, e5, e6, e7, ez, elt⟩ := ((Sep.f5 (H1))).c8
    have HA2 : Hid (Calls Tryz.prog 109 #[.pointer (some ⟨bb, 0, none⟩), .agg #[.int .i64 a2, .string a6, .bool a7, .bool a8]] _ _) := Lib.hid HA.out
    clear HA H1 HX
    go_enter Tryz.func79, Tryz.ntmps79
    go_wp2_with fail
    go_region_held3 (fun W => W.cell? ⟨b, 2, none⟩ = some (.pointer (some ⟨bb, 0, none⟩)) ∧ W.cell? ⟨w.heap.size, 1, none⟩ = some (.int .i64 a2) ∧ W.cell? ⟨w.heap.size, 5, none⟩ = some (.string a6) ∧ W.cell? ⟨w.heap.size, 6, none⟩ = some (.bool a7) ∧ W.cell? ⟨w.heap.size, 7, none⟩ = some (.bool a8))
      (first
        | (with_reducible exact ⟨c2, e1, e5, e6, e7⟩)
        | (with_reducible exact ⟨f2, g1, g5, g6, g7⟩)
        | (with_reducible exact ⟨y2, y1, y5, y6, y7⟩))
      (first
        | (go_at_call 109; (with_reducible refine Calls.mono HA2.out ?_); rintro e w2 ⟨rfl, H2⟩; obtain ⟨z0, z1, z2, z3, zfz, zlt⟩ := ((Sep.f4 (H2))).c4; obtain ⟨f0, f1, f2, f3, ffz, flt⟩ := ((Sep.f1 (H2))).c4; obtain ⟨g0, g1, g2, g3, g4, g5, g6, g7, gz, glt⟩ := ((Sep.f5 (H2))).c8; have Y := (((((Sep.f4 (H2))).st 0 (.int .i64 q1)).st 1 (.int .i64 0)).st 2 (.slice none 0 0)).st 3 (.int .i64 whn); have y2 : World.cell? _ ⟨b, 2, none⟩ = some (.pointer (some ⟨bb, 0, none⟩)) := ((Sep.f2 (Y))).c 2 rfl; obtain ⟨y0, y1, _, _, _, y5, y6, y7, _, _⟩ := ((Sep.f5 (Y))).c8))
    all_goals
      have Z := ((Sep.f3 (Sep.f3 (Sep.f3 ((Y.drop)))))).mkst (S := { S with book := q2 })
      have H3 := Lib.hid (((Sep.f1 (Z))).drop)
      clear H2 Y Z y2 y0 y1 y5 y6 y7 f0 f1 f2 f3 ffz flt g0 g1 g2 g3 g4 g5 g6 g7 gz glt
      go_wp2
      refine bodyPost_ret (v := .agg #[.int .i64 q1, .int .i64 0, .slice none 0 0, .int .i64 whn]) (by simp [results, Tryz.results79, go_sem, z0, z1, z2, z3, zfz, zlt]) rfl ⟨.slice none 0 0, rfl, ?_⟩
      exact H3.out.nilRec (sz := 2) (enc := outC)
  simp only [if_neg h2]
  have hb2 : (a1 == 4) = false := by simpa using h2
  clear h1 h2 HX
  go_enter Tryz.func79, Tryz.ntmps79
  go_wp2
  refine bodyPost_ret (v := .agg #[.int .i64 0, .int .i64 0, .slice none 0 0, .int .i64 whn]) (by simp [results, Tryz.results79, go_sem]) rfl ⟨.slice none 0 0, rfl, ?_⟩
  exact ((HH.out.mkc _ _).mkc _ _).drop.drop.nilRec (sz := 2) (enc := outC)
end Go.Proofs.YtpeflgfldbjflaaGreatDoor
end
section
namespace Go.Proofs.YtpeflgfldbjflaaGreatDoor
open Go.RowKit Go.Orch Go.Shelf
set_option maxRecDepth 100000 in
set_option maxHeartbeats 2000000 in
theorem stKept_any (R w : World) (l : List HP) (b n : Nat) (S : StV) (hS : S.ok n) (session req : Int) (H : Sep R w (stAt b S :: l)) :
    Calls Tryz.prog 15 #[.pointer (some ⟨b, 0, none⟩), .int .i64 session, .int .i64 req] w fun e w' => ∃ v, e = .returned (.tuple #[.agg (resC (stKept S session req).1 v).toArray, .bool (stKept S session req).2.1, .int .i64 (stKept S session req).2.2]) ∧ Sep R w' (outS v (stKept S session req).1.outs :: stAt b S :: l) := by
  unfold stKept
  have hsz := seen_size hS.2.1 session req
  obtain ⟨tb, sb, bb, H1⟩ := H.st_
  have H2 := Lib.hid H1
  have HSn := Lib.hid (fun w l H => sessSeen_any R w l sb S.tab session req H)
  clear H H1
  generalize S.tab.seen session req = q at *
  obtain ⟨q1, q2, q3⟩ := q
  simp only at hsz ⊢
  have X := H2.out.mkc #[.int .i64 0, .int .i64 0, .slice none 0 0, .int .i64 0] 47
  obtain ⟨c0, c1, c2, c3, fz, lt⟩ := H2.out.c4
  have HC := Lib.hid (HSn.out _ _ ((Sep.f3 (X))))
  clear X
  by_cases h1 : q3 = 0
  case neg =>
    rw [if_pos h1]
    have hb : (q3 != 0) = true := by simpa using h1
    clear h1
    go_enter Tryz.func15, Tryz.ntmps15
    go_wp2_with fail
    refine Calls.mono HC.out ?_
    rintro e w1 ⟨rfl, H3⟩
    obtain ⟨z0, z1, z2, z3, zfz, zlt⟩ := ((Sep.f1 (H3))).c4
    have H4 := Lib.hid H3
    clear H3
    go_wp2
    refine bodyPost_ret (v := .tuple #[.agg #[.int .i64 0, .int .i64 0, .slice none 0 0, .int .i64 0], .bool false, .int .i64 q3]) (by simp [results, Tryz.results15, go_sem, z0, z1, z2, z3, zfz, zlt]) rfl ⟨.slice none 0 0, rfl, ?_⟩
    have Y := (((((Sep.f1 (H4.out))).st 0 (.int .i64 0)).st 1 (.int .i64 0)).st 2 (.slice none 0 0)).st 3 (.int .i64 0)
    exact (((Sep.f2 (Sep.f2 ((Y.drop))))).mkst (S := S)).nilRec (sz := 2) (enc := outC)
  rw [if_neg (by simpa using h1)]
  subst h1
  cases q2 with
  | false =>
    rw [if_pos rfl]
    go_enter Tryz.func15, Tryz.ntmps15
    go_wp2_with fail
    refine Calls.mono HC.out ?_
    rintro e w1 ⟨rfl, H3⟩
    obtain ⟨z0, z1, z2, z3, zfz, zlt⟩ := ((Sep.f1 (H3))).c4
    have H4 := Lib.hid H3
    clear H3
    go_wp2
    refine bodyPost_ret (v := .tuple #[.agg #[.int .i64 0, .int .i64 0, .slice none 0 0, .int .i64 0], .bool false, .int .i64 0]) (by simp [results, Tryz.results15, go_sem, z0, z1, z2, z3, zfz, zlt]) rfl ⟨.slice none 0 0, rfl, ?_⟩
    have Y := (((((Sep.f1 (H4.out))).st 0 (.int .i64 0)).st 1 (.int .i64 0)).st 2 (.slice none 0 0)).st 3 (.int .i64 0)
    exact (((Sep.f2 (Sep.f2 ((Y.drop))))).mkst (S := S)).nilRec (sz := 2) (enc := outC)
  | true =>
    rw [if_neg (by simp)]
    have HAn := Lib.hid (fun w l H => opAnswer_any R w l q1 (by unfold maxLen; omega) H)
    generalize answerOf q1 = r at *
    obtain ⟨⟨r1, r2, r3, r4⟩, re⟩ := r
    simp only at HAn ⊢
    go_enter Tryz.func15, Tryz.ntmps15
    go_wp2_with fail
    refine Calls.mono HC.out ?_
    rintro e w1 ⟨rfl, H3⟩
    have H4 := Lib.hid H3
    clear H3
    go_wp2_with fail
    refine Calls.mono (HAn.out _ _ H4.out) ?_
    rintro e w2 ⟨v, rfl, H5⟩
    obtain ⟨p, k, rfl⟩ := H5.recSlice
    obtain ⟨z0, z1, z2, z3, zfz, zlt⟩ := ((Sep.f2 (H5))).c4
    have H6 := Lib.hid H5
    clear H5
    simp only [resC, List.toArray] 
    go_wp2
    refine bodyPost_ret (v := .tuple #[.agg #[.int .i64 r1, .int .i64 r2, .slice p r3.length k, .int .i64 r4], .bool true, .int .i64 0]) (by simp [results, Tryz.results15, go_sem, z0, z1, z2, z3, zfz, zlt]) rfl ⟨.slice p r3.length k, rfl, ?_⟩
    have Y := (((((Sep.f2 (H6.out))).st 0 (.int .i64 r1)).st 1 (.int .i64 r2)).st 2 (.slice p r3.length k)).st 3 (.int .i64 r4)
    have Z := Y.mkc #[.int .i64 r1, .int .i64 r2, .slice p r3.length k, .int .i64 r4] 47
    exact (Sep.f1 (((Sep.f4 (Sep.f4 (Sep.f2 (Sep.f4 ((Z.drop.drop))))))).mkst (S := S)))
end Go.Proofs.YtpeflgfldbjflaaGreatDoor
end
