/- WHAT IS PROVED HERE: Package judge: Read; Package judge: comparing nodes. -/
import Derived.Test.YtpeflgfldbjflaaGreatDoorG39
set_option linter.unusedVariables false
set_option linter.unusedSimpArgs false
set_option linter.unusedSectionVars false
set_option linter.unnecessarySimpa false
section
namespace Go.Orch
open Go.RowKit
def repC (e : Int) (r : ResV) (rv : Value) (n : NodeV) (kv ev : Value) (at_ lead : Int) : List Value :=
  [.int .i64 e, .int .i64 r.e, .int .i64 r.at_, rv, .int .i64 r.when, .string n.data, .int .i64 n.version, .int .i64 n.below, .int .i64 n.owner, .int .i64 n.made, .int .i64 n.set, .int .i64 n.serial, kv, ev, .int .i64 at_, .int .i64 lead]
deriving instance DecidableEq for NodeV
theorem StV.ok.tree {S : StV} {n : Nat} (h : S.ok n) : S.tree.ok := ⟨by have := h.1.1; omega, fun x hx => by have := (h.1.2.1 x hx).1; omega⟩
end Go.Orch
namespace Go.Proofs.YtpeflgfldbjflaaGreatDoor
open Go.RowKit Go.Orch Go.Shelf
abbrev opFa : Op := Op.fieldAddr 50 (Operand.tmp 6) 5
abbrev opMv : Op := Op.move (Operand.tmp 0)
abbrev opLd : Op := Op.load 3 (Operand.tmp 24)
abbrev opGt : Op := Op.binOp BinOp.gtr 3 (Operand.tmp 25) (Operand.tmp 27) 3
theorem eqStr_any (R w : World) (l : List HP) (v v' : Value) (xs ys : List ByteArray) (hx : xs.length ≤ 9000000000000000000) (hy : ys.length ≤ 9000000000000000000) (H : Orch.Sep R w (strS v xs :: strS v' ys :: l)) :
    Calls Tryz.prog 30 #[v, v'] w fun e w' => e = .returned (.bool (decide (xs = ys))) ∧ Orch.Sep R w' (strS v xs :: strS v' ys :: l) := by
  obtain ⟨p, c, rfl⟩ := H.listSlice
  obtain ⟨p', c', rfl⟩ := ((Sep.f1 (H))).listSlice
  by_cases hl : xs.length = ys.length
  case neg =>
    refine Calls.mono (Tryz.slices_Equal_string_lens p p' xs.length c ys.length c' w hl) ?_
    rintro e w' ⟨rfl, rfl⟩
    have : ¬ xs = ys := fun h => hl (by rw [h])
    exact ⟨by rw [decide_eq_false this], H⟩
  cases xs with
  | nil =>
    refine Calls.mono (Tryz.slices_Equal_string_empty p p' c ys.length c' w (by omega)) ?_
    rintro e w' ⟨rfl, rfl⟩
    have : ys = [] := List.eq_nil_of_length_eq_zero (by simpa using hl.symm)
    subst this
    exact ⟨rfl, H⟩
  | cons x xs =>
    obtain ⟨b, o, rfl, _⟩ := H.listElem 0 (by simp)
    obtain ⟨b', o', rfl, _⟩ := ((Sep.f1 (H))).listElem 0 (by rw [← hl]; simp)
    refine Calls.mono (Tryz.slices_Equal_string b o (x :: xs).length c b' o' ys.length c' (x :: xs) ys w (Nat.le_refl _) (Nat.le_refl _) (by omega) (by omega) (fun j hj => ?_) (fun j hj => ?_)) ?_
    · rw [H.listCell j hj, List.getD_eq_getElem?_getD, List.getElem?_eq_getElem hj]; rfl
    · rw [((Sep.f1 (H))).listCell j hj, List.getD_eq_getElem?_getD, List.getElem?_eq_getElem hj]; rfl
    · rintro e w' ⟨rfl, q, rfl⟩
      rw [List.take_length, List.take_length]
      exact ⟨rfl, H.drewN q⟩
theorem juRead_unavail (R w : World) (l : List HP) (jb : Nat) (s : ByteArray) (r : ResV) (rv : Value) (n : NodeV) (kv ev : Value) (at_ lead least : Int) (H : Orch.Sep R w l) :
    Calls Tryz.prog 12 #[.pointer (some ⟨jb, 0, none⟩), .string s, .agg (repC 21 r rv n kv ev at_ lead).toArray, .int .i64 least] w fun e w' => e = .returned (.bool true) ∧ Orch.Sep R w' l := by
  obtain ⟨r1, r2, r3, r4⟩ := r
  obtain ⟨n1, n2, n3, n4, n5, n6, n7⟩ := n
  have H1 := Lib.hid (H.mkc (repC 21 ⟨r1, r2, r3, r4⟩ rv ⟨n1, n2, n3, n4, n5, n6, n7⟩ kv ev at_ lead).toArray 50)
  simp only [repC] at *
  clear H
  go_enter Tryz.func12, Tryz.ntmps12
  go_wp2
  go_ret
  exact ⟨rfl, H1.out.drop⟩
set_option maxRecDepth 100000 in
set_option maxHeartbeats 4000000 in
theorem juRead_old (R w : World) (l : List HP) (jb : Nat) (J : JuV) (s : ByteArray) (e0 : Int) (he : e0 ≠ 21) (r : ResV) (rv : Value) (n : NodeV) (kv ev : Value) (at_ lead least : Int) (ha : at_ < least) (H : Orch.Sep R w (juAt jb J :: l)) :
    Calls Tryz.prog 12 #[.pointer (some ⟨jb, 0, none⟩), .string s, .agg (repC e0 r rv n kv ev at_ lead).toArray, .int .i64 least] w fun e w' => e = .returned (.bool false) ∧ Orch.Sep R w' (juAt jb (bad_ J true) :: l) := by
  obtain ⟨r1, r2, r3, r4⟩ := r
  obtain ⟨n1, n2, n3, n4, n5, n6, n7⟩ := n
  have H1 := Lib.hid (H.mkc (repC e0 ⟨r1, r2, r3, r4⟩ rv ⟨n1, n2, n3, n4, n5, n6, n7⟩ kv ev at_ lead).toArray 50)
  simp only [repC] at *
  have hb : (e0 == 21) = false := by simpa using he
  have k14 : World.cell? _ ⟨w.heap.size, 14, none⟩ = some (.int .i64 at_) := H1.out.c 14 rfl
  have HB := Lib.hid (juBad_any R _ _ jb J true ((Sep.f1 (H1.out.drew))))
  clear H he
  generalize hnb : w.heap.size = nb at *
  go_enter Tryz.func12, Tryz.ntmps12
  go_wp2_with fail
  rw [show Op.fieldAddr 50 (Operand.tmp 6) 5 = opFa from rfl]
  rw [show Op.move (Operand.tmp 0) = opMv from rfl]
  rw [show Op.load 3 (Operand.tmp 24) = opLd from rfl]
  rw [show Op.binOp BinOp.gtr 3 (Operand.tmp 25) (Operand.tmp 27) 3 = opGt from rfl]
  first
  | go_region_held3 (fun W => W.cell? ⟨nb, 14, none⟩ = some (.int .i64 at_))
      (first
        | exact k14
        | exact ((Sep.f1 (H2))).c 14 rfl)
      (first
        | (go_at_call 25; refine Calls.mono HB.out ?_; rintro e w1 ⟨rfl, H2⟩))
  | fail
  all_goals
    obtain ⟨tb, eb, sv, bs, es, q1, q2, H3⟩ := H2.ju
    have c4 : World.cell? _ ⟨jb, 4, none⟩ = some (.int .i64 6) := H3.c 4 rfl
    have H4 := Lib.hid ((Sep.f1 (H2))).drop
    clear H2 H3 HB k14 q1 q2
    go_wp2
    go_ret
    exact ⟨rfl, H4.out⟩
end Go.Proofs.YtpeflgfldbjflaaGreatDoor
end
section
namespace Go.Proofs.YtpeflgfldbjflaaGreatDoor
open Go.RowKit Go.Orch Go.Shelf
theorem neqNode (x y : NodeV) (w : World) : (binOp .neq 33 (nodeV x) (nodeV y)).run Tryz.prog w = .ok (.bool (!decide (x = y))) w := by
  have u2 := Tryz.underlying9
  have u3 := Tryz.underlying3
  have hS : Tryz.prog.underlying 33 = some (.struct (Tryz.prog.fieldsOf 33)) := by kernel_rfl
  have hp : Tryz.prog.stoodInHeld 33 = false := by kernel_rfl
  obtain ⟨a1, a2, a3, a4, a5, a6, a7⟩ := x
  obtain ⟨b1, b2, b3, b4, b5, b6, b7⟩ := y
  simp only [nodeV]
  rw [run_neq_struct, show (10000 : Nat) = 9999 + 1 from rfl, run_equalIn_agg w 9999 33 _ _ hS hp]
  simp only [Program.fieldsOf, Tryz.underlying33]
  have e2 := tl_beq1 a1 b1
  go_simp
  by_cases h1 : a1 = b1
  case neg => simp [h1]
  by_cases h2 : a2 = b2
  case neg => simp [h1, h2]
  by_cases h3 : a3 = b3
  case neg => simp [h1, h2, h3]
  by_cases h4 : a4 = b4
  case neg => simp [h1, h2, h3, h4]
  by_cases h5 : a5 = b5
  case neg => simp [h1, h2, h3, h4, h5]
  by_cases h6 : a6 = b6
  case neg => simp [h1, h2, h3, h4, h5, h6]
  by_cases h7 : a7 = b7
  case neg => simp [h1, h2, h3, h4, h5, h6, h7]
  simp [h1, h2, h3, h4, h5, h6, h7]
theorem tkids_len {T : TreeV} {n : Nat} (h : T.good n) (s : ByteArray) : (tkids T s).1.length ≤ 60 := by
  unfold tkids
  split
  · simp only
    rw [len_sortB]
    exact Nat.le_trans (List.length_filterMap_le _ _) h.1
  · exact Nat.zero_le _
def readBad (S : StV) (s : ByteArray) (nd : NodeV) (e0 : Int) (ks : List ByteArray) : Bool := !decide ((tget S.tree s).1 = nd) || (!decide ((tget S.tree s).2 = e0) || !decide ((tkids S.tree s).1 = ks))
end Go.Proofs.YtpeflgfldbjflaaGreatDoor
namespace Go.Orch
open Go.RowKit
theorem Sep.juSt3 {R w : World} {l : List HP} {b : Nat} {J : JuV} (k : Nat) (hk : k < J.states.length) (H : Orch.Sep R w (juAt b J :: l)) : ∃ (tb eb : Nat) (sv : Value) (bs : List Nat) (hb : k < bs.length) (X : HP), bs.length = J.states.length ∧
    Orch.Sep R w (cellsAt b (juCells tb eb sv J) :: mapAt intK tb (textM J.texts) :: listS ptrV sv bs :: stAt bs[k] J.states[k] :: X :: l) ∧
    (∀ w' l', Orch.Sep R w' (cellsAt b (juCells tb eb sv J) :: mapAt intK tb (textM J.texts) :: listS ptrV sv bs :: stAt bs[k] J.states[k] :: X :: l') → Orch.Sep R w' (juAt b J :: l')) ∧
    (∀ w' l' d u, Orch.Sep R w' (cellsAt b (juCells tb eb sv { J with told := d, wrong := u }) :: mapAt intK tb (textM J.texts) :: listS ptrV sv bs :: stAt bs[k] J.states[k] :: X :: l') → Orch.Sep R w' (juAt b { J with told := d, wrong := u } :: l')) := by
  obtain ⟨tb, eb, sv, bs, es, h1, h2, H1⟩ := H.ju
  have hb : k < bs.length := by omega
  have p : ∀ (A B C D E : HP) (X Y M : List HP) (P : (List.zipWith stAt bs J.states ++ M).Perm (E :: Y)), (A :: B :: C :: D :: (X ++ (List.zipWith stAt bs J.states ++ M))).Perm (A :: B :: C :: E :: (D :: (X ++ Y))) := fun A B C D E X Y M P => by
    refine List.Perm.cons A (List.Perm.cons B (List.Perm.cons C ?_))
    refine List.Perm.trans (List.Perm.cons D ((List.Perm.append_left X P).trans List.perm_middle)) (List.Perm.swap E D _)
  have P := fun M => st_perm bs J.states M k hb hk
  have q : ∀ (A B C E : HP) (M : List HP), (A :: B :: C :: E :: (mapAt intK eb (evM es) :: (evRows es ++ ((List.zipWith stAt bs J.states).eraseIdx k ++ M)))).Perm ((mapAt intK eb (evM es) :: (evRows es ++ (List.zipWith stAt bs J.states).eraseIdx k)) ++ (A :: B :: C :: E :: M)) := fun A B C E M => by
    have := hp_perm4 (mapAt intK eb (evM es) :: (evRows es ++ (List.zipWith stAt bs J.states).eraseIdx k)) M A B C E
    simpa [List.append_assoc] using this
  have open_ : ∀ (w' : World) (M : List HP) (A B C : HP), Orch.Sep R w' (A :: B :: C :: mapAt intK eb (evM es) :: (evRows es ++ (List.zipWith stAt bs J.states ++ M))) → Orch.Sep R w' (A :: B :: C :: stAt bs[k] J.states[k] :: sepl (mapAt intK eb (evM es) :: (evRows es ++ (List.zipWith stAt bs J.states).eraseIdx k)) :: M) := fun w' M A B C H' => by
    have H2 := Sep.join (Sep.perm (Sep.perm H' (p _ _ _ _ _ _ _ _ (P M))) (q _ _ _ _ _))
    exact (Sep.f4 (Sep.f4 (Sep.f4 (Sep.f4 (H2)))))
  have close_ : ∀ (w' : World) (M : List HP) (A B C : HP), Orch.Sep R w' (A :: B :: C :: stAt bs[k] J.states[k] :: sepl (mapAt intK eb (evM es) :: (evRows es ++ (List.zipWith stAt bs J.states).eraseIdx k)) :: M) → Orch.Sep R w' (A :: B :: C :: mapAt intK eb (evM es) :: (evRows es ++ (List.zipWith stAt bs J.states ++ M))) := fun w' M A B C H' => by
    have H2 := Sep.apart ((Sep.f4 (H')))
    exact Sep.perm (Sep.perm H2 (q _ _ _ _ _).symm) (p _ _ _ _ _ _ _ _ (P M)).symm
  exact ⟨tb, eb, sv, bs, hb, _, h2, open_ _ _ _ _ _ H1, fun w' l' H' => Sep.mkju h1 h2 (close_ _ _ _ _ _ H'), fun w' l' d u H' => Sep.mkju (J := { J with told := d, wrong := u }) h1 h2 (close_ _ _ _ _ _ H')⟩
end Go.Orch
end
