/- WHAT IS PROVED HERE: Package state: one; Package state: one; Package state: update. -/
import Derived.Test.YtpeflgfldbjflaaGreatDoorG28
import Derived.Test.YtpeflgfldbjflaaGreatDoorG29
set_option linter.unusedVariables false
set_option linter.unusedSimpArgs false
set_option linter.unusedSectionVars false
set_option linter.unnecessarySimpa false
section
namespace Go.Proofs.YtpeflgfldbjflaaGreatDoor
open Go.RowKit Go.Orch Go.Shelf
set_option maxRecDepth 100000 in
set_option maxHeartbeats 1000000 in
theorem stOne4_any (R w : World) (l : List HP) (G : GoodR R) (tb n : Nat) (T : TreeV) (hT : T.good n) (o1 : Int) (o2 o3 : ByteArray) (o4 : Int) (o5 o6 : Bool) (session whn : Int) (g1 : o2.size ≤ 1000) (g2 : o3.size ≤ 1000) (ho : o1 = 4) (H : Sep R w (treeAt tb T :: l)) :
    Calls Tryz.prog 129 #[.pointer (some ⟨tb, 0, none⟩), .agg #[.int .i64 o1, .string o2, .string o3, .int .i64 o4, .bool o5, .bool o6], .int .i64 session, .int .i64 whn] w fun e w' => e = .returned (.tuple #[.agg #[.string o2, .int .i64 0], .agg #[.string ⟨#[]⟩, .int .i64 0], .int .i64 (tat T o2 o4).2]) ∧ Sep R w' (treeAt tb T :: l) := by
  subst ho
  have X := ((H.mkc #[.int .i64 4, .string o2, .string o3, .int .i64 o4, .bool o5, .bool o6] 91).mkc #[.string ⟨#[]⟩, .int .i64 0] 130).mkc #[.string ⟨#[]⟩, .int .i64 0] 196
  simp only [World.size_alloc] at X
  have HH := Lib.hid H
  clear X H
  have HC2 := Lib.hid (fun w l H => tcheck_any R w l G tb T o2 o4 (by omega) H)
  generalize tat T o2 o4 = q at *
  obtain ⟨q0, q1⟩ := q
  have Q00 := (Sep.f3 ((((HH.out.mkc #[.int .i64 4, .string o2, .string o3, .int .i64 o4, .bool o5, .bool o6] 91).mkc #[.string ⟨#[]⟩, .int .i64 0] 130).mkc #[.string ⟨#[]⟩, .int .i64 0] 196).drew))
  simp only [World.size_alloc] at Q00
  have q001 : World.cell? _ ⟨w.heap.size, 1, none⟩ = some (.string o2) := ((Sep.f3 (Q00))).c 1 rfl
  have q003 : World.cell? _ ⟨w.heap.size, 3, none⟩ = some (.int .i64 o4) := ((Sep.f3 (Q00))).c 3 rfl
  have HC00 := Lib.hid (HC2.out _ _ Q00)
  have Q10 := (Sep.f3 ((((HH.out.mkc #[.int .i64 4, .string o2, .string o3, .int .i64 o4, .bool o5, .bool o6] 91).mkc #[.string o2, .int .i64 0] 130).mkc #[.string ⟨#[]⟩, .int .i64 0] 196).drew))
  simp only [World.size_alloc] at Q10
  have q101 : World.cell? _ ⟨w.heap.size, 1, none⟩ = some (.string o2) := ((Sep.f3 (Q10))).c 1 rfl
  have q103 : World.cell? _ ⟨w.heap.size, 3, none⟩ = some (.int .i64 o4) := ((Sep.f3 (Q10))).c 3 rfl
  have HC10 := Lib.hid (HC2.out _ _ Q10)
  go_enter Tryz.func129, Tryz.ntmps129
  go_wp2_with fail
  go_region_held3 (fun W => W.cell? ⟨w.heap.size, 1, none⟩ = some (.string o2) ∧ W.cell? ⟨w.heap.size, 3, none⟩ = some (.int .i64 o4))
    (first
      | (with_reducible exact ⟨q001, q003⟩)
      | (with_reducible exact ⟨q101, q103⟩)
      | (with_reducible exact ⟨k1, k3⟩)
      | (with_reducible exact ⟨y1, y3⟩)
      | (with_reducible exact ⟨z1, z3⟩)
      | (with_reducible exact ⟨u1, u3⟩)
      | (with_reducible exact ⟨v1, v3⟩))
    (first
      | (go_at_call 146; (with_reducible refine Calls.mono HC00.out ?_); rintro e w2 ⟨rfl, H2⟩; obtain ⟨a0, a1, afz, alt⟩ := ((Sep.f1 (H2))).c2; obtain ⟨b0, b1, bfz, blt⟩ := ((Sep.f2 (H2))).c2; obtain ⟨k0, k1, k2, k3, k4, k5, kfz, klt⟩ := ((Sep.f3 (H2))).c6; have Y := (((Sep.f2 (H2))).st 0 (.string o2)).st 1 (.int .i64 0); have y1 : World.cell? _ ⟨w.heap.size, 1, none⟩ = some (.string o2) := ((Sep.f3 (Y))).c 1 rfl; have y3 : World.cell? _ ⟨w.heap.size, 3, none⟩ = some (.int .i64 o4) := ((Sep.f3 (Y))).c 3 rfl; have Z := (((Sep.f2 (Y))).st 0 (.string ⟨#[]⟩)).st 1 (.int .i64 0); have z1 : World.cell? _ ⟨w.heap.size, 1, none⟩ = some (.string o2) := ((Sep.f3 (Z))).c 1 rfl; have z3 : World.cell? _ ⟨w.heap.size, 3, none⟩ = some (.int .i64 o4) := ((Sep.f3 (Z))).c 3 rfl; have U := (((Sep.f1 (H2))).st 0 (.string ⟨#[]⟩)).st 1 (.int .i64 0); have u1 : World.cell? _ ⟨w.heap.size, 1, none⟩ = some (.string o2) := ((Sep.f3 (U))).c 1 rfl; have u3 : World.cell? _ ⟨w.heap.size, 3, none⟩ = some (.int .i64 o4) := ((Sep.f3 (U))).c 3 rfl; have V := (((Sep.f2 (U))).st 0 (.string o2)).st 1 (.int .i64 0); have v1 : World.cell? _ ⟨w.heap.size, 1, none⟩ = some (.string o2) := ((Sep.f3 (V))).c 1 rfl; have v3 : World.cell? _ ⟨w.heap.size, 3, none⟩ = some (.int .i64 o4) := ((Sep.f3 (V))).c 3 rfl)
      | (go_at_call 146; (with_reducible refine Calls.mono HC10.out ?_); rintro e w2 ⟨rfl, H2⟩; obtain ⟨a0, a1, afz, alt⟩ := ((Sep.f1 (H2))).c2; obtain ⟨b0, b1, bfz, blt⟩ := ((Sep.f2 (H2))).c2; obtain ⟨k0, k1, k2, k3, k4, k5, kfz, klt⟩ := ((Sep.f3 (H2))).c6; have Y := (((Sep.f2 (H2))).st 0 (.string o2)).st 1 (.int .i64 0); have y1 : World.cell? _ ⟨w.heap.size, 1, none⟩ = some (.string o2) := ((Sep.f3 (Y))).c 1 rfl; have y3 : World.cell? _ ⟨w.heap.size, 3, none⟩ = some (.int .i64 o4) := ((Sep.f3 (Y))).c 3 rfl; have Z := (((Sep.f2 (Y))).st 0 (.string ⟨#[]⟩)).st 1 (.int .i64 0); have z1 : World.cell? _ ⟨w.heap.size, 1, none⟩ = some (.string o2) := ((Sep.f3 (Z))).c 1 rfl; have z3 : World.cell? _ ⟨w.heap.size, 3, none⟩ = some (.int .i64 o4) := ((Sep.f3 (Z))).c 3 rfl; have U := (((Sep.f1 (H2))).st 0 (.string ⟨#[]⟩)).st 1 (.int .i64 0); have u1 : World.cell? _ ⟨w.heap.size, 1, none⟩ = some (.string o2) := ((Sep.f3 (U))).c 1 rfl; have u3 : World.cell? _ ⟨w.heap.size, 3, none⟩ = some (.int .i64 o4) := ((Sep.f3 (U))).c 3 rfl; have V := (((Sep.f2 (U))).st 0 (.string o2)).st 1 (.int .i64 0); have v1 : World.cell? _ ⟨w.heap.size, 1, none⟩ = some (.string o2) := ((Sep.f3 (V))).c 1 rfl; have v3 : World.cell? _ ⟨w.heap.size, 3, none⟩ = some (.int .i64 o4) := ((Sep.f3 (V))).c 3 rfl))
  all_goals
    have HZ := Lib.hid ((Sep.f2 (Sep.f2 (Sep.f3 (Z))))).drop.drop.drop
    have HV := Lib.hid ((Sep.f2 (Sep.f2 (Sep.f3 (V))))).drop.drop.drop
    have HY := Lib.hid ((Sep.f2 (Sep.f3 (Sep.f3 (Y))))).drop.drop.drop
    have HU := Lib.hid ((Sep.f2 (Sep.f3 (Sep.f3 (U))))).drop.drop.drop
    have HO := Lib.hid ((Sep.f3 (Sep.f3 (Sep.f3 (H2))))).drop.drop.drop
    clear H2 Y Z U V y1 y3 z1 z3 u1 u3 v1 v3 Q00 q001 q003 Q10 q101 q103
    go_wp2
    refine bodyPost_ret (v := .tuple #[.agg #[.string o2, .int .i64 0], .agg #[.string ⟨#[]⟩, .int .i64 0], .int .i64 q1]) (by simp [results, Tryz.results129, go_sem, a0, a1, afz, alt, b0, b1, bfz, blt]) rfl ⟨rfl, ?_⟩
    first
      | with_reducible exact HZ.out
      | with_reducible exact HV.out
      | with_reducible exact HY.out
      | with_reducible exact HU.out
      | with_reducible exact HO.out
end Go.Proofs.YtpeflgfldbjflaaGreatDoor
end
section
namespace Go.Proofs.YtpeflgfldbjflaaGreatDoor
open Go.RowKit Go.Orch Go.Shelf
set_option maxRecDepth 100000 in
set_option maxHeartbeats 4000000 in
theorem stOne_any (R w : World) (l : List HP) (G : GoodR R) (tb n : Nat) (T : TreeV) (hT : T.good n) (hn : n ≤ 100000000) (o : OpV) (session whn : Int) (ho : o.path.size ≤ 1000 ∧ o.data.size ≤ 1000) (H : Sep R w (treeAt tb T :: l)) :
    Calls Tryz.prog 129 #[.pointer (some ⟨tb, 0, none⟩), .agg (opC o).toArray, .int .i64 session, .int .i64 whn] w fun e w' => e = .returned (.tuple #[.agg (outC (stOne T o session whn).1).toArray, .agg (chC (stOne T o session whn).2.1).toArray, .int .i64 (stOne T o session whn).2.2.1]) ∧ Sep R w' (treeAt tb (stOne T o session whn).2.2.2 :: l) := by
  obtain ⟨o1, o2, o3, o4, o5, o6⟩ := o
  unfold stOne
  simp only at ho ⊢
  show Calls Tryz.prog 129 #[.pointer (some ⟨tb, 0, none⟩), .agg #[.int .i64 o1, .string o2, .string o3, .int .i64 o4, .bool o5, .bool o6], .int .i64 session, .int .i64 whn] w _
  have X := ((H.mkc #[.int .i64 o1, .string o2, .string o3, .int .i64 o4, .bool o5, .bool o6] 91).mkc #[.string ⟨#[]⟩, .int .i64 0] 130).mkc #[.string ⟨#[]⟩, .int .i64 0] 196
  simp only [World.size_alloc] at X
  have HX := Lib.hid ((Sep.f3 (X)))
  have HH := Lib.hid H
  clear X H
  obtain ⟨g1, g2⟩ := ho
  by_cases h1 : o1 = 1
  · subst h1
    simp only [if_true]
    have HC := Lib.hid (fun ow w l H => tcreate_any R w l G tb T o2 o3 ow whn o5 (by omega) (by omega) (fun x hx => by have := (hT.2.1 x hx).2.2; omega) H)
    cases o6 with
    | true =>
      simp only [if_true]
      have HC2 := Lib.hid (HC.out session)
      generalize tcreate T o2 o3 session whn o5 = q at *
      obtain ⟨q1, q2, q3⟩ := q
      go_enter Tryz.func129, Tryz.ntmps129
      go_wp2_with fail
      refine Calls.mono (HC2.out _ _ HX.out) ?_
      rintro e w2 ⟨rfl, H2⟩
      obtain ⟨a0, a1, afz, alt⟩ := ((Sep.f1 (H2))).c2
      obtain ⟨b0, b1, bfz, blt⟩ := ((Sep.f2 (H2))).c2
      obtain ⟨c0, c1, c2, c3, c4, c5, cfz, clt⟩ := ((Sep.f3 (H2))).c6
      have H3 := Lib.hid H2
      clear H2 HX
      go_wp2
      refine bodyPost_ret (v := .tuple #[.agg #[.string q1, .int .i64 0], .agg #[.string q1, .int .i64 1], .int .i64 q2]) (by simp [results, Tryz.results129, go_sem, a0, a1, afz, alt, b0, b1, bfz, blt]) rfl ⟨rfl, ?_⟩
      exact (((((Sep.f2 (H3.out))).st 0 _).st 1 _ |> fun Y => (((Sep.f2 (Y))).st 0 _).st 1 _) |> fun Y => ((Sep.f2 (Sep.f2 (Sep.f3 (Y))))).drop.drop.drop)
    | false =>
      simp only [Bool.false_eq_true, if_false]
      have HC2 := Lib.hid (HC.out 0)
      generalize tcreate T o2 o3 0 whn o5 = q at *
      obtain ⟨q1, q2, q3⟩ := q
      go_enter Tryz.func129, Tryz.ntmps129
      go_wp2_with fail
      refine Calls.mono (HC2.out _ _ HX.out) ?_
      rintro e w2 ⟨rfl, H2⟩
      obtain ⟨a0, a1, afz, alt⟩ := ((Sep.f1 (H2))).c2
      obtain ⟨b0, b1, bfz, blt⟩ := ((Sep.f2 (H2))).c2
      obtain ⟨c0, c1, c2, c3, c4, c5, cfz, clt⟩ := ((Sep.f3 (H2))).c6
      have H3 := Lib.hid H2
      clear H2 HX
      go_wp2
      refine bodyPost_ret (v := .tuple #[.agg #[.string q1, .int .i64 0], .agg #[.string q1, .int .i64 1], .int .i64 q2]) (by simp [results, Tryz.results129, go_sem, a0, a1, afz, alt, b0, b1, bfz, blt]) rfl ⟨rfl, ?_⟩
      exact (((((Sep.f2 (H3.out))).st 0 _).st 1 _ |> fun Y => (((Sep.f2 (Y))).st 0 _).st 1 _) |> fun Y => ((Sep.f2 (Sep.f2 (Sep.f3 (Y))))).drop.drop.drop)
  rw [if_neg h1]
  by_cases h2 : o1 = 2
  · rw [if_pos h2]
    exact stOne2_any R w l G tb n T hT o1 o2 o3 o4 o5 o6 session whn g1 g2 h2 HH.out
  rw [if_neg h2]
  by_cases h3 : o1 = 3
  · rw [if_pos h3]
    exact stOne3_any R w l G tb n T hT o1 o2 o3 o4 o5 o6 session whn g1 g2 h3 HH.out
  rw [if_neg h3]
  by_cases h4 : o1 = 4
  · rw [if_pos h4]
    exact stOne4_any R w l G tb n T hT o1 o2 o3 o4 o5 o6 session whn g1 g2 h4 HH.out
  rw [if_neg h4]
  have hb1 : (o1 == 1) = false := by simpa using h1
  have hb2 : (o1 == 2) = false := by simpa using h2
  have hb3 : (o1 == 3) = false := by simpa using h3
  have hb4 : (o1 == 4) = false := by simpa using h4
  clear h1 h2 h3 h4 HX
  go_enter Tryz.func129, Tryz.ntmps129
  go_wp2
  refine bodyPost_ret (v := .tuple #[.agg #[.string ⟨#[]⟩, .int .i64 0], .agg #[.string ⟨#[]⟩, .int .i64 0], .int .i64 1]) (by simp [results, Tryz.results129, go_sem]) rfl ⟨rfl, ?_⟩
  exact (((HH.out.mkc _ _).mkc _ _).mkc _ _).drop.drop.drop
end Go.Proofs.YtpeflgfldbjflaaGreatDoor
end
section
namespace Go.Orch
open Go.RowKit Go.Proofs
theorem stOne_good {T : TreeV} {n : Nat} (h : T.good n) (hn : n ≤ 100000000) (o : OpV) (session whn : Int) : (stOne T o session whn).2.2.2.good (n + 1) := by
  unfold stOne
  split
  · exact tcreate_good h hn _ _ _ _ _
  split
  · exact (tset_good h _ _ _ _).mono (by omega)
  split
  · exact (tdelete_good h _ _).mono (by omega)
  split
  · exact h.mono (by omega)
  · exact h.mono (by omega)
theorem fireAll_good (whn : Int) : ∀ (chs : List ChV) {B : BookV} {n : Nat}, B.good n → (fireAll B chs whn).good (n + 40 * chs.length)
  | [], _, _, h => h
  | x :: chs, B, n, h => by
    have := fireAll_good whn chs (fire_good h x.path x.what whn)
    rw [List.length_cons, show n + 40 * (chs.length + 1) = n + 40 + 40 * chs.length by omega]
    exact this
theorem one_path {T : TreeV} (o : OpV) (session whn : Int) (ho : o.path.size ≤ 100) : (stOne T o session whn).1.path.size ≤ 200 ∧ (stOne T o session whn).2.1.path.size ≤ 200 := by
  have hc : ∀ ow, (tcreate T o.path o.data ow whn o.serial).1.size ≤ 200 := by
    intro ow
    unfold tcreate
    split
    · exact Nat.zero_le _
    split
    · exact Nat.zero_le _
    split
    · exact Nat.zero_le _
    split
    · exact Nat.zero_le _
    · split
      · exact Nat.zero_le _
      · rename_i ab _ _
        have key : ∀ s : ByteArray, (o.serial = true ∨ s.size ≤ 100) → (tcreate2 T (Go.Proofs.YtpeflgfldbjflaaGreatDoor.pathUp o.path).1 s o.data ow whn o.serial ab).1.size ≤ 200 := by
          intro s hs
          unfold tcreate2
          split
          · exact Nat.zero_le _
          split
          · exact Nat.zero_le _
          split
          · exact Nat.zero_le _
          · rename_i h1 h2 h3
            show s.size ≤ 200
            rcases hs with hs | hs
            · by_cases e : pathCheck s = 0
              · have := check_size e; omega
              · exact absurd ⟨hs, e⟩ h1
            · omega
        refine key _ ?_
        cases hs : o.serial with
        | true => exact .inl rfl
        | false => exact .inr (by simpa using ho)
  unfold stOne
  split
  · exact ⟨hc _, hc _⟩
  split
  · exact ⟨by simp only; omega, by simp only; omega⟩
  split
  · exact ⟨by simp only; omega, by simp only; omega⟩
  split
  · exact ⟨by simp only; omega, Nat.zero_le _⟩
  · exact ⟨Nat.zero_le _, Nat.zero_le _⟩
def accOK (n : Nat) (T : TreeV) (outs : List OutV) (chs : List ChV) (k : Nat) : Prop :=
  T.good (n + k) ∧ outs.length = k ∧ chs.length ≤ k ∧ (∀ o ∈ outs, o.path.size ≤ 200) ∧ (∀ x ∈ chs, x.path.size ≤ 200)
theorem accOK_step {n k : Nat} {T : TreeV} {outs : List OutV} {chs : List ChV} (h : accOK n T outs chs k) (hn : n + k ≤ 100000000) (o : OpV) (session whn : Int) (ho : o.path.size ≤ 100) :
    accOK n (stOne T o session whn).2.2.2 (outs ++ [(stOne T o session whn).1]) (if (stOne T o session whn).2.1.what ≠ 0 then chs ++ [(stOne T o session whn).2.1] else chs) (k + 1) := by
  obtain ⟨h1, h2, h3, h4, h5⟩ := h
  have hp := one_path (T := T) o session whn ho
  refine ⟨stOne_good h1 hn o session whn, by simp [h2], ?_, ?_, ?_⟩
  · split
    · simp; omega
    · omega
  · intro x hx
    rcases List.mem_append.1 hx with hx | hx
    · exact h4 x hx
    · simp only [List.mem_singleton] at hx
      subst hx
      exact hp.1
  · intro x hx
    split at hx
    · rcases List.mem_append.1 hx with hx | hx
      · exact h5 x hx
      · simp only [List.mem_singleton] at hx
        subst hx
        exact hp.2
    · exact h5 x hx
end Go.Orch
end
