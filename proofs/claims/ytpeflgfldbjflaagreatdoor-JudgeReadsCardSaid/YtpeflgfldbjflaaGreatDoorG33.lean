/- WHAT IS PROVED HERE: Package state: command. -/
import Derived.Test.YtpeflgfldbjflaaGreatDoorG32
set_option linter.unusedVariables false
set_option linter.unusedSimpArgs false
set_option linter.unusedSectionVars false
set_option linter.unnecessarySimpa false
section
namespace Go.Orch
open Go.RowKit Go.Proofs
def stCommand (S : StV) (c : CmdV) (whn : Int) : ResV × StV :=
  if c.kind = 0 then (⟨0, 0, [], whn⟩, S)
  else if c.kind = 1 then (⟨(S.tab.open_ c.session).1, 0, [], whn⟩, { S with tab := (S.tab.open_ c.session).2 })
  else if (S.tab.seen c.session c.req).2.2 ≠ 0 then (⟨(S.tab.seen c.session c.req).2.2, 0, [], whn⟩, S)
  else if (S.tab.seen c.session c.req).2.1 = true then ((answerOf (S.tab.seen c.session c.req).1).1, S)
  else if c.kind = 2 then (⟨0, 0, [], whn⟩, stEnd { S with book := S.book.noted c.session c.noted } c.session whn)
  else ((stDo { S with book := S.book.noted c.session c.noted } c whn).1,
    { (stDo { S with book := S.book.noted c.session c.noted } c whn).2 with tab := ((stDo { S with book := S.book.noted c.session c.noted } c whn).2.tab.keep c.session c.req (stDo { S with book := S.book.noted c.session c.noted } c whn).1.bytes).2 })
theorem res_bytes_size (r : ResV) (h1 : r.outs.length ≤ 4) (h2 : ∀ o ∈ r.outs, o.path.size ≤ 200) : r.bytes.size ≤ 100000 := by
  have h3 := outsB_len r.outs (fun o ho => by have := h2 o ho; omega)
  have e : r.bytes.size = r.lay.length := by unfold ResV.bytes bytesOfB; simp [ByteArray.size]
  rw [e]
  unfold ResV.lay
  simp only [List.length_append, numB_len, List.length_cons, List.length_nil]
  omega
theorem noted_ok {S : StV} {n : Nat} (h : S.ok n) (session no : Int) : StV.ok { S with book := S.book.noted session no } n := ⟨h.1, h.2.1, noted_good h.2.2.1 _ _, h.2.2.2⟩
theorem command_ok {S : StV} {n : Nat} (h : S.ok n) (hn : n ≤ 90000000) (c : CmdV) (whn : Int) (hl : c.ops.length ≤ 4) (hc : ∀ o ∈ c.ops, o.path.size ≤ 100 ∧ o.data.size ≤ 100) : (stCommand S c whn).2.ok (n + 2400) := by
  unfold stCommand
  split
  · exact h.mono (by omega)
  split
  · exact ⟨h.1.mono (by omega), tab_open_good h.2.1 _, h.2.2.1.mono (by omega), h.2.2.2.1, by have := h.2.2.2.2; simp only; omega⟩
  split
  · exact h.mono (by omega)
  split
  · exact h.mono (by omega)
  split
  · exact end_ok (noted_ok h _ _) _ _
  · have hd := (do_ok (noted_ok h c.session c.noted) hn c whn hl hc).1
    exact ⟨hd.1.mono (by omega), tab_keep_good hd.2.1 _ _ _, hd.2.2.1.mono (by omega), hd.2.2.2.1, by have := hd.2.2.2.2; simp only; omega⟩
end Go.Orch
namespace Go.Proofs.YtpeflgfldbjflaaGreatDoor
open Go.RowKit Go.Orch Go.Shelf
set_option maxRecDepth 100000 in
set_option maxHeartbeats 4000000 in
theorem stCommand_any (R w : World) (l : List HP) (G : GoodR R) (b n : Nat) (S : StV) (hS : S.ok n) (hn : n ≤ 80000000) (c : CmdV) (v : Value) (whn : Int) (hl : c.ops.length ≤ 4) (hc : ∀ o ∈ c.ops, o.path.size ≤ 100 ∧ o.data.size ≤ 100) (hp : c.path.size ≤ 1000) (H : Sep R w (stAt b S :: opS v c.ops :: l)) :
    Calls Tryz.prog 49 #[.pointer (some ⟨b, 0, none⟩), .agg (cmdC c v).toArray, .int .i64 whn] w fun e w' => ∃ v', e = .returned (.agg (resC (stCommand S c whn).1 v').toArray) ∧ Sep R w' (outS v' (stCommand S c whn).1.outs :: stAt b (stCommand S c whn).2 :: opS v c.ops :: l) := by
  obtain ⟨p, k, rfl⟩ := ((Sep.f1 (H))).recSlice
  have hdo := do_ok (noted_ok hS c.session c.noted) (by omega) c whn hl hc
  have HDo := Lib.hid (fun w l H => stDo_any R w l G b n _ (noted_ok hS c.session c.noted) (by omega) c (.slice p c.ops.length k) whn hl hc hp H)
  have HEn := Lib.hid (fun w l H => stEnd_any R w l G b n _ (noted_ok hS c.session c.noted) (by omega) c.session whn H)
  have hsz := seen_size hS.2.1 c.session c.req
  unfold stCommand
  obtain ⟨a1, a2, a3, a4, ops, a6, a7, a8⟩ := c
  generalize stEnd { S with book := S.book.noted a2 a4 } a2 whn = eS at *
  generalize stDo { S with book := S.book.noted a2 a4 } ⟨a1, a2, a3, a4, ops, a6, a7, a8⟩ whn = u at *
  obtain ⟨⟨u1, u2, u3, u4⟩, uS⟩ := u
  simp only at hl hc hp H HDo HEn hdo hsz ⊢
  have HDo2 : Hid (∀ w l, Sep R w (stAt b { S with book := S.book.noted a2 a4 } :: opS (.slice p ops.length k) ops :: l) → Calls Tryz.prog 79 #[.pointer (some ⟨b, 0, none⟩), .agg #[.int .i64 a1, .int .i64 a2, .int .i64 a3, .int .i64 a4, .slice p ops.length k, .string a6, .bool a7, .bool a8], .int .i64 whn] w fun e w' => ∃ v', e = .returned (.agg #[.int .i64 u1, .int .i64 u2, v', .int .i64 u4]) ∧ Sep R w' (outS v' u3 :: stAt b uS :: opS (.slice p ops.length k) ops :: l)) := Lib.hid HDo.out
  clear HDo hc
  obtain ⟨ans, hans⟩ : ∃ ans, ans = ResV.bytes ⟨u1, u2, u3, u4⟩ := ⟨_, rfl⟩
  rw [← hans]
  have HAns := Lib.hid hans
  clear hans
  show Calls Tryz.prog 49 #[.pointer (some ⟨b, 0, none⟩), .agg #[.int .i64 a1, .int .i64 a2, .int .i64 a3, .int .i64 a4, .slice p ops.length k, .string a6, .bool a7, .bool a8], .int .i64 whn] w _
  have X := (H.mkc #[.int .i64 a1, .int .i64 a2, .int .i64 a3, .int .i64 a4, .slice p ops.length k, .string a6, .bool a7, .bool a8] 57).mkc #[.int .i64 0, .int .i64 0, .slice none 0 0, .int .i64 0] 47
  simp only [World.size_alloc] at X
  have HX := Lib.hid X
  have HH := Lib.hid H
  clear X H
  by_cases h1 : a1 = 0
  · subst h1
    simp only [if_true]
    clear HX
    go_enter Tryz.func49, Tryz.ntmps49
    go_wp2
    refine bodyPost_ret (v := .agg #[.int .i64 0, .int .i64 0, .slice none 0 0, .int .i64 whn]) (by simp [results, Tryz.results49, go_sem]) rfl ⟨.slice none 0 0, rfl, ?_⟩
    exact ((HH.out.mkc _ _).mkc _ _).drop.drop.nilRec (sz := 2) (enc := outC)
  simp only [if_neg h1]
  have hb1 : (a1 == 0) = false := by simpa using h1
  obtain ⟨tb, sb, bb, H1⟩ := ((Sep.f2 (HX.out.drew))).st_
  have H1h := Lib.hid H1
  obtain ⟨c0, c1, c2, c3, fz, lt⟩ := H1.c4
  obtain ⟨e0, e1, e2, e3, e4, e5, e6, e7, ez, elt⟩ := ((Sep.f5 (H1))).c8
  by_cases h2 : a1 = 1
  · subst h2
    simp only [if_true]
    have HO := Lib.hid (sessOpen_any R _ _ sb S.tab a2 ((Sep.f2 (H1))))
    generalize S.tab.open_ a2 = q at *
    obtain ⟨q1, q2⟩ := q
    simp only at HO ⊢
    clear H1 HX
    go_enter Tryz.func49, Tryz.ntmps49
    go_wp2_with fail
    go_region_held3 (fun W => W.cell? ⟨b, 1, none⟩ = some (.pointer (some ⟨sb, 0, none⟩)) ∧ W.cell? ⟨w.heap.size, 1, none⟩ = some (.int .i64 a2))
      (first
        | (with_reducible exact ⟨c1, e1⟩)
        | (with_reducible exact ⟨f1, g1⟩)
        | (with_reducible exact ⟨y1, y2⟩))
      (first
        | (go_at_call 76; (with_reducible refine Calls.mono HO.out ?_); rintro e w2 ⟨rfl, H2⟩; obtain ⟨z0, z1, z2, z3, zfz, zlt⟩ := ((Sep.f4 (H2))).c4; obtain ⟨f0, f1, f2, f3, ffz, flt⟩ := ((Sep.f1 (H2))).c4; obtain ⟨g0, g1, g2, g3, g4, g5, g6, g7, gz, glt⟩ := ((Sep.f5 (H2))).c8; have Y := (((((Sep.f4 (H2))).st 0 (.int .i64 q1)).st 1 (.int .i64 0)).st 2 (.slice none 0 0)).st 3 (.int .i64 whn); have y1 : World.cell? _ ⟨b, 1, none⟩ = some (.pointer (some ⟨sb, 0, none⟩)) := ((Sep.f2 (Y))).c 1 rfl; have y2 : World.cell? _ ⟨w.heap.size, 1, none⟩ = some (.int .i64 a2) := ((Sep.f5 (Y))).c 1 rfl))
    all_goals
      have Z := ((Sep.f3 (Sep.f3 (Sep.f1 (Sep.f3 ((Y.drop))))))).mkst (S := { S with tab := q2 })
      have H3 := Lib.hid (((Sep.f1 (Z))).drop)
      clear H2 Y Z y1 y2 f0 f1 f2 f3 ffz flt g0 g1 g2 g3 g4 g5 g6 g7 gz glt
      go_wp2
      refine bodyPost_ret (v := .agg #[.int .i64 q1, .int .i64 0, .slice none 0 0, .int .i64 whn]) (by simp [results, Tryz.results49, go_sem, z0, z1, z2, z3, zfz, zlt]) rfl ⟨.slice none 0 0, rfl, ?_⟩
      exact H3.out.nilRec (sz := 2) (enc := outC)
  simp only [if_neg h2]
  have hb2 : (a1 == 1) = false := by simpa using h2
  have HS := Lib.hid (sessSeen_any R _ _ sb S.tab a2 a3 ((Sep.f2 (H1))))
  have HGB := Lib.hid hS.2.2.1
  generalize S.tab.seen a2 a3 = q at *
  obtain ⟨q1, q2, q3⟩ := q
  simp only at HS hsz ⊢
  clear H1 HX
  by_cases h3 : q3 = 0
  case neg =>
    rw [if_pos h3]
    have hb3 : (q3 != 0) = true := by simpa using h3
    clear h3
    go_enter Tryz.func49, Tryz.ntmps49
    go_wp2_with fail
    go_region_held3 (fun W => W.cell? ⟨b, 1, none⟩ = some (.pointer (some ⟨sb, 0, none⟩)) ∧ W.cell? ⟨w.heap.size, 1, none⟩ = some (.int .i64 a2) ∧ W.cell? ⟨w.heap.size, 2, none⟩ = some (.int .i64 a3))
      (first
        | (with_reducible exact ⟨c1, e1, e2⟩)
        | (with_reducible exact ⟨f1, g1, g2⟩))
      (first
        | (go_at_call 37; (with_reducible refine Calls.mono HS.out ?_); rintro e w2 ⟨rfl, H2⟩; obtain ⟨z0, z1, z2, z3, zfz, zlt⟩ := ((Sep.f4 (H2))).c4; obtain ⟨f0, f1, f2, f3, ffz, flt⟩ := ((Sep.f1 (H2))).c4; obtain ⟨g0, g1, g2, g3, g4, g5, g6, g7, gz, glt⟩ := ((Sep.f5 (H2))).c8))
    have H3 := Lib.hid H2
    clear H2 f0 f1 f2 f3 ffz flt g0 g1 g2 g3 g4 g5 g6 g7 gz glt
    go_wp2
    refine bodyPost_ret (v := .agg #[.int .i64 q3, .int .i64 0, .slice none 0 0, .int .i64 whn]) (by simp [results, Tryz.results49, go_sem, z0, z1, z2, z3, zfz, zlt]) rfl ⟨.slice none 0 0, rfl, ?_⟩
    have Y := (((((Sep.f4 (H3.out))).st 0 (.int .i64 q3)).st 1 (.int .i64 0)).st 2 (.slice none 0 0)).st 3 (.int .i64 whn)
    have Z := ((Sep.f3 (Sep.f3 (Sep.f1 (Sep.f3 ((Y.drop))))))).mkst (S := S)
    exact (((Sep.f1 (Z))).drop).nilRec (sz := 2) (enc := outC)
  rw [if_neg (by simpa using h3)]
  subst h3
  cases q2 with
  | true =>
    rw [if_pos rfl]
    have HAn := Lib.hid (fun w l H => opAnswer_any R w l q1 (by unfold maxLen; omega) H)
    generalize answerOf q1 = r at *
    obtain ⟨⟨r1, r2, r3, r4⟩, re⟩ := r
    simp only at HAn ⊢
    go_enter Tryz.func49, Tryz.ntmps49
    go_wp2_with fail
    go_region_held3 (fun W => W.cell? ⟨b, 1, none⟩ = some (.pointer (some ⟨sb, 0, none⟩)) ∧ W.cell? ⟨w.heap.size, 1, none⟩ = some (.int .i64 a2) ∧ W.cell? ⟨w.heap.size, 2, none⟩ = some (.int .i64 a3))
      (first
        | (with_reducible exact ⟨c1, e1, e2⟩)
        | (with_reducible exact ⟨f1, g1, g2⟩))
      (first
        | (go_at_call 37; (with_reducible refine Calls.mono HS.out ?_); rintro e w2 ⟨rfl, H2⟩; obtain ⟨z0, z1, z2, z3, zfz, zlt⟩ := ((Sep.f4 (H2))).c4; obtain ⟨f0, f1, f2, f3, ffz, flt⟩ := ((Sep.f1 (H2))).c4; obtain ⟨g0, g1, g2, g3, g4, g5, g6, g7, gz, glt⟩ := ((Sep.f5 (H2))).c8))
    have H3 := Lib.hid H2
    clear H2 f0 f1 f2 f3 ffz flt g0 g1 g2 g3 g4 g5 g6 g7 gz glt z0 z1 z2 z3 zfz zlt
    go_wp2_with fail
    refine Calls.mono (HAn.out _ _ H3.out) ?_
    rintro e w3 ⟨v', rfl, H4⟩
    obtain ⟨p', k', rfl⟩ := H4.recSlice
    obtain ⟨z0, z1, z2, z3, zfz, zlt⟩ := ((Sep.f5 (H4))).c4
    have H5 := Lib.hid H4
    clear H4
    simp only [resC]
    go_wp2
    refine bodyPost_ret (v := .agg #[.int .i64 r1, .int .i64 r2, .slice p' r3.length k', .int .i64 r4]) (by simp [results, Tryz.results49, go_sem, z0, z1, z2, z3, zfz, zlt]) rfl ⟨.slice p' r3.length k', rfl, ?_⟩
    have Y := ((((((Sep.f5 (H5.out))).st 0 (.int .i64 r1)).st 1 (.int .i64 r2)).st 2 (.slice p' r3.length k')).st 3 (.int .i64 r4)).mkc #[.int .i64 r1, .int .i64 r2, .slice p' r3.length k', .int .i64 r4] 47
    have Z := ((Sep.f4 (Sep.f4 (Sep.f2 (Sep.f4 ((Y.drop.drop))))))).mkst (S := S)
    exact (Sep.f1 (((Sep.f2 (Z))).drop))
  | false =>
    rw [if_neg (by simp)]
    by_cases h4 : a1 = 2
    · subst h4
      simp only [if_true]
      go_enter Tryz.func49, Tryz.ntmps49
      go_wp2_with fail
      go_region_held3 (fun W => W.cell? ⟨b, 1, none⟩ = some (.pointer (some ⟨sb, 0, none⟩)) ∧ W.cell? ⟨w.heap.size, 1, none⟩ = some (.int .i64 a2) ∧ W.cell? ⟨w.heap.size, 2, none⟩ = some (.int .i64 a3))
        (first
          | (with_reducible exact ⟨c1, e1, e2⟩)
          | (with_reducible exact ⟨f1, g1, g2⟩))
        (first
          | (go_at_call 37; (with_reducible refine Calls.mono HS.out ?_); rintro e w2 ⟨rfl, H2⟩; obtain ⟨z0, z1, z2, z3, zfz, zlt⟩ := ((Sep.f4 (H2))).c4; obtain ⟨f0, f1, f2, f3, ffz, flt⟩ := ((Sep.f1 (H2))).c4; obtain ⟨g0, g1, g2, g3, g4, g5, g6, g7, gz, glt⟩ := ((Sep.f5 (H2))).c8))
      have H3 := Lib.hid ((Sep.f3 (H2.drew)))
      have HN := Lib.hid (bookNoted_any R _ _ bb S.book a2 a4 (by have := HGB.out.2.1; omega) ((Sep.f3 (H2.drew))))
      clear H2 z0 z1 z2 z3 zfz zlt
      go_wp2_with fail
      go_region_held3 (fun W => W.cell? ⟨b, 2, none⟩ = some (.pointer (some ⟨bb, 0, none⟩)) ∧ W.cell? ⟨w.heap.size, 1, none⟩ = some (.int .i64 a2) ∧ W.cell? ⟨w.heap.size, 3, none⟩ = some (.int .i64 a4))
        (first
          | exact ⟨f2, g1, g3⟩
          | (with_reducible exact ⟨i2, j1, j3⟩))
        (first
          | (go_at_call 77; refine Calls.mono HN.out ?_; rintro e w4 ⟨rfl, H4⟩; obtain ⟨i0, i1, i2, i3, ifz, ilt⟩ := ((Sep.f2 (H4))).c4; obtain ⟨j0, j1, j2, j3, j4, j5, j6, j7, jz, jlt⟩ := ((Sep.f5 (H4))).c8))
      have Z := ((Sep.f3 (Sep.f3 (Sep.f1 (H4))))).mkst (S := { S with book := S.book.noted a2 a4 })
      have H5 := Lib.hid Z
      have HE := Lib.hid (HEn.out _ _ Z)
      clear H4 Z f0 f1 f2 f3 ffz flt g0 g1 g3 g4 g5 g6 g7 gz glt
      go_wp2_with fail
      refine Calls.mono HE.out ?_
      rintro e w5 ⟨rfl, H6⟩
      obtain ⟨z0, z1, z2, z3, zfz, zlt⟩ := ((Sep.f1 (H6))).c4
      have H7 := Lib.hid H6
      clear H6
      go_wp2
      refine bodyPost_ret (v := .agg #[.int .i64 0, .int .i64 0, .slice none 0 0, .int .i64 whn]) (by simp [results, Tryz.results49, go_sem, z0, z1, z2, z3, zfz, zlt]) rfl ⟨.slice none 0 0, rfl, ?_⟩
      have Y := (((((Sep.f1 (H7.out))).st 0 (.int .i64 0)).st 1 (.int .i64 0)).st 2 (.slice none 0 0)).st 3 (.int .i64 whn)
      exact (((Sep.f1 ((Y.drop)))).drop).nilRec (sz := 2) (enc := outC)
    · simp only [if_neg h4]
      have hb4 : (a1 == 2) = false := by simpa using h4
      go_enter Tryz.func49, Tryz.ntmps49
      go_wp2_with fail
      go_region_held3 (fun W => W.cell? ⟨b, 1, none⟩ = some (.pointer (some ⟨sb, 0, none⟩)) ∧ W.cell? ⟨w.heap.size, 1, none⟩ = some (.int .i64 a2) ∧ W.cell? ⟨w.heap.size, 2, none⟩ = some (.int .i64 a3))
        (first
          | (with_reducible exact ⟨c1, e1, e2⟩)
          | (with_reducible exact ⟨f1, g1, g2⟩))
        (first
          | (go_at_call 37; (with_reducible refine Calls.mono HS.out ?_); rintro e w2 ⟨rfl, H2⟩; obtain ⟨z0, z1, z2, z3, zfz, zlt⟩ := ((Sep.f4 (H2))).c4; obtain ⟨f0, f1, f2, f3, ffz, flt⟩ := ((Sep.f1 (H2))).c4; obtain ⟨g0, g1, g2, g3, g4, g5, g6, g7, gz, glt⟩ := ((Sep.f5 (H2))).c8))
      have H3 := Lib.hid ((Sep.f3 (H2.drew)))
      have HN := Lib.hid (bookNoted_any R _ _ bb S.book a2 a4 (by have := HGB.out.2.1; omega) ((Sep.f3 (H2.drew))))
      clear H2 z0 z1 z2 z3 zfz zlt
      go_wp2_with fail
      go_region_held3 (fun W => W.cell? ⟨b, 2, none⟩ = some (.pointer (some ⟨bb, 0, none⟩)) ∧ W.cell? ⟨w.heap.size, 1, none⟩ = some (.int .i64 a2) ∧ W.cell? ⟨w.heap.size, 3, none⟩ = some (.int .i64 a4))
        (first
          | exact ⟨f2, g1, g3⟩
          | (with_reducible exact ⟨i2, j1, j3⟩))
        (first
          | (go_at_call 77; refine Calls.mono HN.out ?_; rintro e w4 ⟨rfl, H4⟩; obtain ⟨i0, i1, i2, i3, ifz, ilt⟩ := ((Sep.f2 (H4))).c4; obtain ⟨j0, j1, j2, j3, j4, j5, j6, j7, jz, jlt⟩ := ((Sep.f5 (H4))).c8))
      have Z := ((Sep.f3 (Sep.f3 (Sep.f1 (H4))))).mkst (S := { S with book := S.book.noted a2 a4 })
      have HD := Lib.hid (HDo2.out _ _ ((Sep.f1 (Sep.f3 (Z)))))
      clear H4 Z f0 f1 f2 f3 ffz flt g0 g1 g2 g3 g4 g5 g6 g7 gz glt i0 i1 i2 i3 ifz ilt
      go_wp2_with fail
      refine Calls.mono HD.out ?_
      rintro e w5 ⟨v', rfl, H6⟩
      obtain ⟨p', k', rfl⟩ := H6.recSlice
      have H7 := (H6.mkc #[.int .i64 u1, .int .i64 u2, .slice p' u3.length k', .int .i64 u4] 47).drew
      obtain ⟨tb2, sb2, bb2, H8⟩ := ((Sep.f2 (H7))).st_
      have HB := Lib.hid (resBytes_any ⟨u1, u2, u3, u4⟩ (.slice p' u3.length k') _ (by have := hdo.2.1; simp only; omega) (fun o ho => by have := hdo.2.2 o ho; omega) ((Sep.f5 (H8))).rowIn)
      have hbs := res_bytes_size ⟨u1, u2, u3, u4⟩ hdo.2.1 hdo.2.2
      have hB := HB.out
      rw [← HAns.out] at hB hbs
      have HB2 : Hid (Calls Tryz.prog 81 #[.agg #[.int .i64 u1, .int .i64 u2, .slice p' u3.length k', .int .i64 u4]] _ _) := Lib.hid hB
      clear HB hB
      obtain ⟨k0, k1, k2, k3, kfz, klt⟩ := H8.c4
      obtain ⟨r0, r1, r2, r3, rfz, rlt⟩ := ((Sep.f4 (H8))).c4
      obtain ⟨x0, x1, x2, x3, x4, x5, x6, x7, xz, xlt⟩ := ((Sep.f8 (H8))).c8
      have H9 := Lib.hid H8
      clear H6 H7 H8 j0 j1 j2 j3 j4 j5 j6 j7 jz jlt
      go_wp2_with fail
      go_region_held3 (fun W => W.cell? ⟨b, 1, none⟩ = some (.pointer (some ⟨sb2, 0, none⟩)) ∧ W.cell? ⟨w.heap.size, 1, none⟩ = some (.int .i64 a2) ∧ W.cell? ⟨w.heap.size, 2, none⟩ = some (.int .i64 a3) ∧ W.cell? ⟨w5.heap.size, 0, none⟩ = some (.int .i64 u1) ∧ W.cell? ⟨w5.heap.size, 1, none⟩ = some (.int .i64 u2) ∧ W.cell? ⟨w5.heap.size, 2, none⟩ = some (.slice p' u3.length k') ∧ W.cell? ⟨w5.heap.size, 3, none⟩ = some (.int .i64 u4))
        (first
          | exact ⟨k1, x1, x2, r0, r1, r2, r3⟩
          | (with_reducible exact ⟨s1, s2, s3, s4, s5, s6, s7⟩)
          | (with_reducible exact ⟨t1, t2, t3, t4, t5, t6, t7⟩))
        (first
          | (go_at_call 81; refine Calls.mono HB2.out ?_; rintro e w6 ⟨rfl, hb⟩; have H10 := H9.out.kept hb; obtain ⟨_, s1, _, _, _, _⟩ := H10.c4; obtain ⟨s4, s5, s6, s7, _, _⟩ := ((Sep.f4 (H10))).c4; obtain ⟨_, s2, s3, _, _, _, _, _, _, _⟩ := ((Sep.f8 (H10))).c8)
          | (go_at_call 80; refine Calls.mono (sessKeep_any R _ _ sb2 uS.tab a2 a3 ans ((Sep.f2 (H10))) (by unfold maxLen; omega)) ?_; rintro e w7 ⟨rfl, H11⟩; obtain ⟨_, t1, _, _, _, _⟩ := ((Sep.f1 (H11))).c4; obtain ⟨t4, t5, t6, t7, _, _⟩ := ((Sep.f4 (H11))).c4; obtain ⟨_, t2, t3, _, _, _, _, _, _, _⟩ := ((Sep.f8 (H11))).c8))
      all_goals
        obtain ⟨z0, z1, z2, z3, zfz, zlt⟩ := ((Sep.f7 (H11))).c4
        have H12 := Lib.hid H11
        clear H10 H11 hb s1 s2 s3 s4 s5 s6 s7 k0 k1 k2 k3 kfz klt r0 r1 r2 r3 rfz rlt x0 x1 x2 x3 x4 x5 x6 x7 xz xlt
        go_wp2
        refine bodyPost_ret (v := .agg #[.int .i64 u1, .int .i64 u2, .slice p' u3.length k', .int .i64 u4]) (by simp [results, Tryz.results49, go_sem, z0, z1, z2, z3, zfz, zlt]) rfl ⟨.slice p' u3.length k', rfl, ?_⟩
        have Y := (((((Sep.f7 (H12.out))).st 0 (.int .i64 u1)).st 1 (.int .i64 u2)).st 2 (.slice p' u3.length k')).st 3 (.int .i64 u4)
        have Z := ((Sep.f3 (Sep.f3 (Sep.f1 (Sep.f3 ((Y.drop))))))).mkst (S := { uS with tab := (uS.tab.keep a2 a3 ans).2 })
        exact (Sep.f1 (((Sep.f2 (Sep.f4 (Z)))).drop.drop))
end Go.Proofs.YtpeflgfldbjflaaGreatDoor
end
