/- WHAT IS PROVED HERE: Package state: one; Package state: one. -/
import Derived.Test.YtpeflgfldbjflaaGreatDoorG28
set_option linter.unusedVariables false
set_option linter.unusedSimpArgs false
set_option linter.unusedSectionVars false
set_option linter.unnecessarySimpa false
section
namespace Go.Proofs.YtpeflgfldbjflaaGreatDoor
open Go.RowKit Go.Orch Go.Shelf
set_option maxRecDepth 100000 in
set_option maxHeartbeats 1000000 in
theorem stOne2_any (R w : World) (l : List HP) (G : GoodR R) (tb n : Nat) (T : TreeV) (hT : T.good n) (o1 : Int) (o2 o3 : ByteArray) (o4 : Int) (o5 o6 : Bool) (session whn : Int) (g1 : o2.size ≤ 1000) (g2 : o3.size ≤ 1000) (ho : o1 = 2) (H : Sep R w (treeAt tb T :: l)) :
    Calls Tryz.prog 129 #[.pointer (some ⟨tb, 0, none⟩), .agg #[.int .i64 o1, .string o2, .string o3, .int .i64 o4, .bool o5, .bool o6], .int .i64 session, .int .i64 whn] w fun e w' => e = .returned (.tuple #[.agg #[.string o2, .int .i64 (tset T o2 o3 o4 whn).1], .agg #[.string o2, .int .i64 3], .int .i64 (tset T o2 o3 o4 whn).2.1]) ∧ Sep R w' (treeAt tb (tset T o2 o3 o4 whn).2.2 :: l) := by
  subst ho
  have X := ((H.mkc #[.int .i64 2, .string o2, .string o3, .int .i64 o4, .bool o5, .bool o6] 91).mkc #[.string ⟨#[]⟩, .int .i64 0] 130).mkc #[.string ⟨#[]⟩, .int .i64 0] 196
  simp only [World.size_alloc] at X
  have HX := Lib.hid ((Sep.f3 (X)))
  clear X H
  have HC2 := Lib.hid (fun w l H => tset_any R w l G tb T o2 o3 o4 whn (by omega) (by omega) H)
  generalize tset T o2 o3 o4 whn = q at *
  obtain ⟨q1, q2, q3⟩ := q
  go_enter Tryz.func129, Tryz.ntmps129
  go_wp2_with fail
  refine Calls.mono (HC2.out _ _ HX.out) ?_
  rintro e w2 ⟨rfl, H2⟩
  obtain ⟨a0, a1, afz, alt⟩ := ((Sep.f1 (H2))).c2
  obtain ⟨b0, b1, bfz, blt⟩ := ((Sep.f2 (H2))).c2
  have h1 : World.cell? _ ⟨w.heap.size, 1, none⟩ = some (.string o2) := ((Sep.f3 ((H2.drew)))).c 1 rfl
  have Y := (((Sep.f2 (H2))).st 0 (.string o2)).st 1 (.int .i64 q1)
  have y1 : World.cell? _ ⟨w.heap.size, 1, none⟩ = some (.string o2) := ((Sep.f3 ((Y.drew)))).c 1 rfl
  have Z := (((Sep.f2 (Y))).st 0 (.string o2)).st 1 (.int .i64 3)
  have z1 : World.cell? _ ⟨w.heap.size, 1, none⟩ = some (.string o2) := ((Sep.f3 ((Z.drew)))).c 1 rfl
  have U := (((Sep.f1 (H2))).st 0 (.string o2)).st 1 (.int .i64 3)
  have u1 : World.cell? _ ⟨w.heap.size, 1, none⟩ = some (.string o2) := ((Sep.f3 ((U.drew)))).c 1 rfl
  have V := (((Sep.f2 (U))).st 0 (.string o2)).st 1 (.int .i64 q1)
  have v1 : World.cell? _ ⟨w.heap.size, 1, none⟩ = some (.string o2) := ((Sep.f3 ((V.drew)))).c 1 rfl
  have HZ := Lib.hid ((Sep.f2 (Sep.f2 (Sep.f3 ((Z.drew)))))).drop.drop.drop
  have HV := Lib.hid ((Sep.f2 (Sep.f2 (Sep.f3 ((V.drew)))))).drop.drop.drop
  have CF := Lib.hid (And.intro h1 (And.intro y1 (And.intro z1 (And.intro u1 v1))))
  obtain ⟨k0, k1, k2, k3, k4, k5, kfz, klt⟩ := ((Sep.f3 (H2))).c6
  clear Y Z U V y1 z1 u1 v1 h1 H2
  go_wp2_with fail
  go_region_held3 (fun W => W.cell? ⟨w.heap.size, 1, none⟩ = some (.string o2))
    (first
      | (with_reducible exact CF.out.1)
      | (with_reducible exact CF.out.2.1)
      | (with_reducible exact CF.out.2.2.1)
      | (with_reducible exact CF.out.2.2.2.1)
      | (with_reducible exact CF.out.2.2.2.2))
    (fail)
  all_goals
    go_wp2
    refine bodyPost_ret (v := .tuple #[.agg #[.string o2, .int .i64 q1], .agg #[.string o2, .int .i64 3], .int .i64 q2]) (by simp [results, Tryz.results129, go_sem, a0, a1, afz, alt, b0, b1, bfz, blt]) rfl ⟨rfl, ?_⟩
    first
      | with_reducible exact HZ.out
      | with_reducible exact HV.out
end Go.Proofs.YtpeflgfldbjflaaGreatDoor
end
section
namespace Go.Proofs.YtpeflgfldbjflaaGreatDoor
open Go.RowKit Go.Orch Go.Shelf
set_option maxRecDepth 100000 in
set_option maxHeartbeats 1000000 in
theorem stOne3_any (R w : World) (l : List HP) (G : GoodR R) (tb n : Nat) (T : TreeV) (hT : T.good n) (o1 : Int) (o2 o3 : ByteArray) (o4 : Int) (o5 o6 : Bool) (session whn : Int) (g1 : o2.size ≤ 1000) (g2 : o3.size ≤ 1000) (ho : o1 = 3) (H : Sep R w (treeAt tb T :: l)) :
    Calls Tryz.prog 129 #[.pointer (some ⟨tb, 0, none⟩), .agg #[.int .i64 o1, .string o2, .string o3, .int .i64 o4, .bool o5, .bool o6], .int .i64 session, .int .i64 whn] w fun e w' => e = .returned (.tuple #[.agg #[.string o2, .int .i64 0], .agg #[.string o2, .int .i64 2], .int .i64 (tdelete T o2 o4).1]) ∧ Sep R w' (treeAt tb (tdelete T o2 o4).2 :: l) := by
  subst ho
  have X := ((H.mkc #[.int .i64 3, .string o2, .string o3, .int .i64 o4, .bool o5, .bool o6] 91).mkc #[.string ⟨#[]⟩, .int .i64 0] 130).mkc #[.string ⟨#[]⟩, .int .i64 0] 196
  simp only [World.size_alloc] at X
  have HH := Lib.hid H
  clear X H
  have HC2 := Lib.hid (fun w l H => tdelete_any R w l G tb T hT.wf.1 o2 o4 (by omega) H)
  generalize tdelete T o2 o4 = q at *
  obtain ⟨q1, q3⟩ := q
  have Q00 := (Sep.f3 ((((HH.out.mkc #[.int .i64 3, .string o2, .string o3, .int .i64 o4, .bool o5, .bool o6] 91).mkc #[.string ⟨#[]⟩, .int .i64 0] 130).mkc #[.string ⟨#[]⟩, .int .i64 0] 196).drew))
  simp only [World.size_alloc] at Q00
  have q001 : World.cell? _ ⟨w.heap.size, 1, none⟩ = some (.string o2) := ((Sep.f3 (Q00))).c 1 rfl
  have q003 : World.cell? _ ⟨w.heap.size, 3, none⟩ = some (.int .i64 o4) := ((Sep.f3 (Q00))).c 3 rfl
  have HC00 := Lib.hid (HC2.out _ _ Q00)
  have Q10 := (Sep.f3 ((((HH.out.mkc #[.int .i64 3, .string o2, .string o3, .int .i64 o4, .bool o5, .bool o6] 91).mkc #[.string o2, .int .i64 0] 130).mkc #[.string ⟨#[]⟩, .int .i64 0] 196).drew))
  simp only [World.size_alloc] at Q10
  have q101 : World.cell? _ ⟨w.heap.size, 1, none⟩ = some (.string o2) := ((Sep.f3 (Q10))).c 1 rfl
  have q103 : World.cell? _ ⟨w.heap.size, 3, none⟩ = some (.int .i64 o4) := ((Sep.f3 (Q10))).c 3 rfl
  have HC10 := Lib.hid (HC2.out _ _ Q10)
  have Q01 := (Sep.f3 ((((HH.out.mkc #[.int .i64 3, .string o2, .string o3, .int .i64 o4, .bool o5, .bool o6] 91).mkc #[.string ⟨#[]⟩, .int .i64 0] 130).mkc #[.string o2, .int .i64 2] 196).drew))
  simp only [World.size_alloc] at Q01
  have q011 : World.cell? _ ⟨w.heap.size, 1, none⟩ = some (.string o2) := ((Sep.f3 (Q01))).c 1 rfl
  have q013 : World.cell? _ ⟨w.heap.size, 3, none⟩ = some (.int .i64 o4) := ((Sep.f3 (Q01))).c 3 rfl
  have HC01 := Lib.hid (HC2.out _ _ Q01)
  have Q11 := (Sep.f3 ((((HH.out.mkc #[.int .i64 3, .string o2, .string o3, .int .i64 o4, .bool o5, .bool o6] 91).mkc #[.string o2, .int .i64 0] 130).mkc #[.string o2, .int .i64 2] 196).drew))
  simp only [World.size_alloc] at Q11
  have q111 : World.cell? _ ⟨w.heap.size, 1, none⟩ = some (.string o2) := ((Sep.f3 (Q11))).c 1 rfl
  have q113 : World.cell? _ ⟨w.heap.size, 3, none⟩ = some (.int .i64 o4) := ((Sep.f3 (Q11))).c 3 rfl
  have HC11 := Lib.hid (HC2.out _ _ Q11)
  go_enter Tryz.func129, Tryz.ntmps129
  go_wp2_with fail
  go_region_held3 (fun W => W.cell? ⟨w.heap.size, 1, none⟩ = some (.string o2) ∧ W.cell? ⟨w.heap.size, 3, none⟩ = some (.int .i64 o4))
    (first
      | (with_reducible exact ⟨q001, q003⟩)
      | (with_reducible exact ⟨q101, q103⟩)
      | (with_reducible exact ⟨q011, q013⟩)
      | (with_reducible exact ⟨q111, q113⟩)
      | (with_reducible exact ⟨k1, k3⟩)
      | (with_reducible exact ⟨y1, y3⟩)
      | (with_reducible exact ⟨z1, z3⟩)
      | (with_reducible exact ⟨u1, u3⟩)
      | (with_reducible exact ⟨v1, v3⟩))
    (first
      | (go_at_call 104; (with_reducible refine Calls.mono HC00.out ?_); rintro e w2 ⟨rfl, H2⟩; obtain ⟨a0, a1, afz, alt⟩ := ((Sep.f1 (H2))).c2; obtain ⟨b0, b1, bfz, blt⟩ := ((Sep.f2 (H2))).c2; obtain ⟨k0, k1, k2, k3, k4, k5, kfz, klt⟩ := ((Sep.f3 (H2))).c6; have Y := (((Sep.f2 (H2))).st 0 (.string o2)).st 1 (.int .i64 0); have y1 : World.cell? _ ⟨w.heap.size, 1, none⟩ = some (.string o2) := ((Sep.f3 (Y))).c 1 rfl; have y3 : World.cell? _ ⟨w.heap.size, 3, none⟩ = some (.int .i64 o4) := ((Sep.f3 (Y))).c 3 rfl; have Z := (((Sep.f2 (Y))).st 0 (.string o2)).st 1 (.int .i64 2); have z1 : World.cell? _ ⟨w.heap.size, 1, none⟩ = some (.string o2) := ((Sep.f3 (Z))).c 1 rfl; have z3 : World.cell? _ ⟨w.heap.size, 3, none⟩ = some (.int .i64 o4) := ((Sep.f3 (Z))).c 3 rfl; have U := (((Sep.f1 (H2))).st 0 (.string o2)).st 1 (.int .i64 2); have u1 : World.cell? _ ⟨w.heap.size, 1, none⟩ = some (.string o2) := ((Sep.f3 (U))).c 1 rfl; have u3 : World.cell? _ ⟨w.heap.size, 3, none⟩ = some (.int .i64 o4) := ((Sep.f3 (U))).c 3 rfl; have V := (((Sep.f2 (U))).st 0 (.string o2)).st 1 (.int .i64 0); have v1 : World.cell? _ ⟨w.heap.size, 1, none⟩ = some (.string o2) := ((Sep.f3 (V))).c 1 rfl; have v3 : World.cell? _ ⟨w.heap.size, 3, none⟩ = some (.int .i64 o4) := ((Sep.f3 (V))).c 3 rfl)
      | (go_at_call 104; (with_reducible refine Calls.mono HC10.out ?_); rintro e w2 ⟨rfl, H2⟩; obtain ⟨a0, a1, afz, alt⟩ := ((Sep.f1 (H2))).c2; obtain ⟨b0, b1, bfz, blt⟩ := ((Sep.f2 (H2))).c2; obtain ⟨k0, k1, k2, k3, k4, k5, kfz, klt⟩ := ((Sep.f3 (H2))).c6; have Y := (((Sep.f2 (H2))).st 0 (.string o2)).st 1 (.int .i64 0); have y1 : World.cell? _ ⟨w.heap.size, 1, none⟩ = some (.string o2) := ((Sep.f3 (Y))).c 1 rfl; have y3 : World.cell? _ ⟨w.heap.size, 3, none⟩ = some (.int .i64 o4) := ((Sep.f3 (Y))).c 3 rfl; have Z := (((Sep.f2 (Y))).st 0 (.string o2)).st 1 (.int .i64 2); have z1 : World.cell? _ ⟨w.heap.size, 1, none⟩ = some (.string o2) := ((Sep.f3 (Z))).c 1 rfl; have z3 : World.cell? _ ⟨w.heap.size, 3, none⟩ = some (.int .i64 o4) := ((Sep.f3 (Z))).c 3 rfl; have U := (((Sep.f1 (H2))).st 0 (.string o2)).st 1 (.int .i64 2); have u1 : World.cell? _ ⟨w.heap.size, 1, none⟩ = some (.string o2) := ((Sep.f3 (U))).c 1 rfl; have u3 : World.cell? _ ⟨w.heap.size, 3, none⟩ = some (.int .i64 o4) := ((Sep.f3 (U))).c 3 rfl; have V := (((Sep.f2 (U))).st 0 (.string o2)).st 1 (.int .i64 0); have v1 : World.cell? _ ⟨w.heap.size, 1, none⟩ = some (.string o2) := ((Sep.f3 (V))).c 1 rfl; have v3 : World.cell? _ ⟨w.heap.size, 3, none⟩ = some (.int .i64 o4) := ((Sep.f3 (V))).c 3 rfl)
      | (go_at_call 104; (with_reducible refine Calls.mono HC01.out ?_); rintro e w2 ⟨rfl, H2⟩; obtain ⟨a0, a1, afz, alt⟩ := ((Sep.f1 (H2))).c2; obtain ⟨b0, b1, bfz, blt⟩ := ((Sep.f2 (H2))).c2; obtain ⟨k0, k1, k2, k3, k4, k5, kfz, klt⟩ := ((Sep.f3 (H2))).c6; have Y := (((Sep.f2 (H2))).st 0 (.string o2)).st 1 (.int .i64 0); have y1 : World.cell? _ ⟨w.heap.size, 1, none⟩ = some (.string o2) := ((Sep.f3 (Y))).c 1 rfl; have y3 : World.cell? _ ⟨w.heap.size, 3, none⟩ = some (.int .i64 o4) := ((Sep.f3 (Y))).c 3 rfl; have Z := (((Sep.f2 (Y))).st 0 (.string o2)).st 1 (.int .i64 2); have z1 : World.cell? _ ⟨w.heap.size, 1, none⟩ = some (.string o2) := ((Sep.f3 (Z))).c 1 rfl; have z3 : World.cell? _ ⟨w.heap.size, 3, none⟩ = some (.int .i64 o4) := ((Sep.f3 (Z))).c 3 rfl; have U := (((Sep.f1 (H2))).st 0 (.string o2)).st 1 (.int .i64 2); have u1 : World.cell? _ ⟨w.heap.size, 1, none⟩ = some (.string o2) := ((Sep.f3 (U))).c 1 rfl; have u3 : World.cell? _ ⟨w.heap.size, 3, none⟩ = some (.int .i64 o4) := ((Sep.f3 (U))).c 3 rfl; have V := (((Sep.f2 (U))).st 0 (.string o2)).st 1 (.int .i64 0); have v1 : World.cell? _ ⟨w.heap.size, 1, none⟩ = some (.string o2) := ((Sep.f3 (V))).c 1 rfl; have v3 : World.cell? _ ⟨w.heap.size, 3, none⟩ = some (.int .i64 o4) := ((Sep.f3 (V))).c 3 rfl)
      | (go_at_call 104; (with_reducible refine Calls.mono HC11.out ?_); rintro e w2 ⟨rfl, H2⟩; obtain ⟨a0, a1, afz, alt⟩ := ((Sep.f1 (H2))).c2; obtain ⟨b0, b1, bfz, blt⟩ := ((Sep.f2 (H2))).c2; obtain ⟨k0, k1, k2, k3, k4, k5, kfz, klt⟩ := ((Sep.f3 (H2))).c6; have Y := (((Sep.f2 (H2))).st 0 (.string o2)).st 1 (.int .i64 0); have y1 : World.cell? _ ⟨w.heap.size, 1, none⟩ = some (.string o2) := ((Sep.f3 (Y))).c 1 rfl; have y3 : World.cell? _ ⟨w.heap.size, 3, none⟩ = some (.int .i64 o4) := ((Sep.f3 (Y))).c 3 rfl; have Z := (((Sep.f2 (Y))).st 0 (.string o2)).st 1 (.int .i64 2); have z1 : World.cell? _ ⟨w.heap.size, 1, none⟩ = some (.string o2) := ((Sep.f3 (Z))).c 1 rfl; have z3 : World.cell? _ ⟨w.heap.size, 3, none⟩ = some (.int .i64 o4) := ((Sep.f3 (Z))).c 3 rfl; have U := (((Sep.f1 (H2))).st 0 (.string o2)).st 1 (.int .i64 2); have u1 : World.cell? _ ⟨w.heap.size, 1, none⟩ = some (.string o2) := ((Sep.f3 (U))).c 1 rfl; have u3 : World.cell? _ ⟨w.heap.size, 3, none⟩ = some (.int .i64 o4) := ((Sep.f3 (U))).c 3 rfl; have V := (((Sep.f2 (U))).st 0 (.string o2)).st 1 (.int .i64 0); have v1 : World.cell? _ ⟨w.heap.size, 1, none⟩ = some (.string o2) := ((Sep.f3 (V))).c 1 rfl; have v3 : World.cell? _ ⟨w.heap.size, 3, none⟩ = some (.int .i64 o4) := ((Sep.f3 (V))).c 3 rfl))
  all_goals
    have HZ := Lib.hid ((Sep.f2 (Sep.f2 (Sep.f3 (Z))))).drop.drop.drop
    have HV := Lib.hid ((Sep.f2 (Sep.f2 (Sep.f3 (V))))).drop.drop.drop
    have HY := Lib.hid ((Sep.f2 (Sep.f3 (Sep.f3 (Y))))).drop.drop.drop
    have HU := Lib.hid ((Sep.f2 (Sep.f3 (Sep.f3 (U))))).drop.drop.drop
    have HO := Lib.hid ((Sep.f3 (Sep.f3 (Sep.f3 (H2))))).drop.drop.drop
    clear H2 Y Z U V y1 y3 z1 z3 u1 u3 v1 v3 Q00 q001 q003 Q10 q101 q103 Q01 q011 q013 Q11 q111 q113
    go_wp2
    refine bodyPost_ret (v := .tuple #[.agg #[.string o2, .int .i64 0], .agg #[.string o2, .int .i64 2], .int .i64 q1]) (by simp [results, Tryz.results129, go_sem, a0, a1, afz, alt, b0, b1, bfz, blt]) rfl ⟨rfl, ?_⟩
    first
      | with_reducible exact HZ.out
      | with_reducible exact HV.out
      | with_reducible exact HY.out
      | with_reducible exact HU.out
      | with_reducible exact HO.out
end Go.Proofs.YtpeflgfldbjflaaGreatDoor
end
