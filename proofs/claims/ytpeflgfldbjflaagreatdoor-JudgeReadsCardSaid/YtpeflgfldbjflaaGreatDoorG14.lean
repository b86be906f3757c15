/- WHAT IS PROVED HERE: Package tree: New, Get, at, Check; Package tree: New, Check, Set. -/
import Derived.Test.YtpeflgfldbjflaaGreatDoorG04
import Derived.Test.YtpeflgfldbjflaaGreatDoorG13
import Derived.StillTailTactics
set_option linter.unusedVariables false
set_option linter.unusedSimpArgs false
set_option linter.unusedSectionVars false
set_option linter.unnecessarySimpa false
section
namespace Go.Orch
open Go.RowKit
structure NodeV where
  data : ByteArray
  version : Int
  below : Int
  owner : Int
  made : Int
  set : Int
  serial : Int
def nodeV (n : NodeV) : Value := .agg #[.string n.data, .int .i64 n.version, .int .i64 n.below, .int .i64 n.owner, .int .i64 n.made, .int .i64 n.set, .int .i64 n.serial]
def nodeZ : NodeV := ⟨⟨#[]⟩, 0, 0, 0, 0, 0, 0⟩
abbrev TreeV := List (ByteArray × NodeV)
def treeM (T : TreeV) : List (ByteArray × Value) := T.map fun x => (x.1, nodeV x.2)
def treeAt (b : Nat) (T : TreeV) : HP := fun h => ∃ mb, sepl [cellsAt b #[.map (some mb)], mapAt strK mb (treeM T)] h
theorem Sep.tree {R w : World} {l : List HP} {b : Nat} {T : TreeV} (H : Sep R w (treeAt b T :: l)) : ∃ mb, Sep R w (cellsAt b #[.map (some mb)] :: mapAt strK mb (treeM T) :: l) := by
  obtain ⟨mb, H⟩ := H.ex
  exact ⟨mb, H.apart⟩
theorem Sep.mktree {R w : World} {l : List HP} {b mb : Nat} {T : TreeV} (H : Sep R w (cellsAt b #[.map (some mb)] :: mapAt strK mb (treeM T) :: l)) : Sep R w (treeAt b T :: l) :=
  Sep.mkex mb (Sep.join (l' := [cellsAt b #[.map (some mb)], mapAt strK mb (treeM T)]) H)
theorem treeM_get (T : TreeV) (s : ByteArray) : aget (treeM T) s = (aget T s).map nodeV := aget_map nodeV s T
def tget (T : TreeV) (s : ByteArray) : NodeV × Int :=
  if pathCheck s = 0 then (match aget T s with | some n => (n, 0) | none => (nodeZ, 11)) else (nodeZ, pathCheck s)
def tat (T : TreeV) (s : ByteArray) (version : Int) : NodeV × Int :=
  if (tget T s).2 = 0 ∧ 0 ≤ version ∧ (tget T s).1.version ≠ version then (nodeZ, 14) else tget T s
end Go.Orch
namespace Go.Proofs.YtpeflgfldbjflaaGreatDoor
open Go.RowKit Go.Orch
theorem node_zero (w : World) : (zeroValue 33).run Tryz.prog w = .ok (nodeV nodeZ) w := by kernel_rfl
set_option maxRecDepth 100000 in
set_option maxHeartbeats 1000000 in
theorem tget_any (R w : World) (l : List HP) (G : GoodR R) (b : Nat) (T : TreeV) (s : ByteArray) (hs : s.size ≤ 9000000000000000000) (H : Sep R w (treeAt b T :: l)) :
    Calls Tryz.prog 10 #[.pointer (some ⟨b, 0, none⟩), .string s] w fun e w' => e = .returned (.tuple #[nodeV (tget T s).1, .int .i64 (tget T s).2]) ∧ Sep R w' (treeAt b T :: l) := by
  unfold tget
  have H1 := Lib.hid H
  clear H
  by_cases hp : pathCheck s = 0
  case neg =>
    rw [if_neg hp]
    have hb1 : (pathCheck s == 0) = false := by simpa using hp
    have hb2 : (pathCheck s != 0) = true := by simpa using hp
    have HP := Lib.hid (fun w l H => check_any R w l G s hs H)
    generalize pathCheck s = pc at *
    clear hp
    go_enter Tryz.func10, Tryz.ntmps10
    go_wp2_with fail
    refine (HP.out _ _ (H1.out.mkc _ _)).mono ?_
    rintro e w1 ⟨rfl, H2⟩
    generalize w.heap.size = nb at *
    obtain ⟨c0, c1, c2, c3, c4, c5, c6, fz, lt⟩ := H2.c7
    have H3 := Lib.hid H2
    clear H2
    go_wp2
    refine bodyPost_ret (v := .tuple #[nodeV nodeZ, .int .i64 pc]) (by simp [results, Tryz.results10, go_sem, nodeV, nodeZ, c0, c1, c2, c3, c4, c5, c6, fz, lt]) rfl ⟨rfl, ?_⟩
    exact ((((((((H3.out.st 0 _).st 1 _).st 2 _).st 3 _).st 4 _).st 5 _).st 6 _).drop)
  rw [if_pos hp]
  have hb1 : ((0 : Int) == 0) = true := rfl
  have HP := Lib.hid (fun w l H => check_any R w l G s hs H)
  rw [hp] at HP
  clear hp
  have hr := treeM_get T s
  cases hg : aget T s with
  | none =>
    rw [hg] at hr
    have HR := Lib.hid hr
    clear hr hg
    go_enter Tryz.func10, Tryz.ntmps10
    go_wp2_with fail
    refine (HP.out _ _ (H1.out.mkc _ _)).mono ?_
    rintro e w1 ⟨rfl, H2⟩
    generalize w.heap.size = nb at *
    obtain ⟨c0, c1, c2, c3, c4, c5, c6, fz, lt⟩ := H2.c7
    obtain ⟨mb, H4⟩ := H2.swap.tree
    obtain ⟨d0, fd, ltb⟩ := H4.c1
    have H3 := Lib.hid H2
    have H5 := Lib.hid H4.swap
    clear H2 H4
    go_wp2_with (at_lookup; refine Hid.out ?_)
    refine Lib.hid (wpList_lookup strK_same rfl _ _ 79 9 33 true rfl Tryz.underlying79 Tryz.underlying9 node_zero H5.out rfl rfl none HR.out ?_)
    unfold nodeV nodeZ
    go_wp2
    refine bodyPost_ret (v := .tuple #[nodeV nodeZ, .int .i64 11]) (by simp [results, Tryz.results10, go_sem, nodeV, nodeZ, c0, c1, c2, c3, c4, c5, c6, fz, lt]) rfl ⟨rfl, ?_⟩
    exact (((((((((H3.out.st 0 _).st 1 _).st 2 _).st 3 _).st 4 _).st 5 _).st 6 _).drop).mkc _ _).drop
  | some n =>
    rw [hg] at hr
    have HR := Lib.hid hr
    clear hr hg
    go_enter Tryz.func10, Tryz.ntmps10
    go_wp2_with fail
    refine (HP.out _ _ (H1.out.mkc _ _)).mono ?_
    rintro e w1 ⟨rfl, H2⟩
    generalize w.heap.size = nb at *
    obtain ⟨c0, c1, c2, c3, c4, c5, c6, fz, lt⟩ := H2.c7
    obtain ⟨mb, H4⟩ := H2.swap.tree
    obtain ⟨d0, fd, ltb⟩ := H4.c1
    have H3 := Lib.hid H2
    have H5 := Lib.hid H4.swap
    clear H2 H4
    go_wp2_with (at_lookup; refine Hid.out ?_)
    refine Lib.hid (wpList_lookup strK_same rfl _ _ 79 9 33 true rfl Tryz.underlying79 Tryz.underlying9 node_zero H5.out rfl rfl (some (nodeV n)) HR.out ?_)
    unfold nodeV nodeZ
    go_wp2
    refine bodyPost_ret (v := .tuple #[nodeV n, .int .i64 0]) (by simp [results, Tryz.results10, go_sem, nodeV, c0, c1, c2, c3, c4, c5, c6, fz, lt]) rfl ⟨rfl, ?_⟩
    exact (((((((((H3.out.st 0 _).st 1 _).st 2 _).st 3 _).st 4 _).st 5 _).st 6 _).drop).mkc _ _).drop
theorem tat_walk (R w : World) (l : List HP) (G : GoodR R) (b : Nat) (T : TreeV) (s : ByteArray) (version : Int) (hs : s.size ≤ 9000000000000000000) (H : Sep R w (treeAt b T :: l)) :
    Calls Tryz.prog 123 #[.pointer (some ⟨b, 0, none⟩), .string s, .int .i64 version] w fun e w' => e = .returned (.tuple #[nodeV (tat T s version).1, .int .i64 (tat T s version).2]) ∧ Sep R w' (treeAt b T :: l) := by
  unfold tat
  have HP := Lib.hid (fun w l H => tget_any R w l G b T s hs H)
  have H1 := Lib.hid H
  clear H
  generalize tget T s = q at *
  obtain ⟨n, er⟩ := q
  simp only at HP ⊢
  by_cases h1 : er = 0
  case neg =>
    rw [if_neg (fun h => h1 h.1)]
    have hb : (er == 0) = false := by simpa using h1
    clear h1
    go_enter Tryz.func123, Tryz.ntmps123
    go_wp2_with fail
    refine (HP.out _ _ (H1.out.mkc _ _).swap).mono ?_
    rintro e w1 ⟨rfl, H2⟩
    generalize w.heap.size = nb at *
    obtain ⟨c0, c1, c2, c3, c4, c5, c6, fz, lt⟩ := H2.swap.c7
    have H3 := Lib.hid H2.swap
    clear H2
    unfold nodeV
    go_wp2
    refine bodyPost_ret (v := .tuple #[nodeV n, .int .i64 er]) (by simp [results, Tryz.results123, go_sem, nodeV, c0, c1, c2, c3, c4, c5, c6, fz, lt]) rfl ⟨rfl, ?_⟩
    exact (((((((((H3.out.st 0 _).st 1 _).st 2 _).st 3 _).st 4 _).st 5 _).st 6 _).drop).mkc _ _).drop
  subst h1
  by_cases h2 : 0 ≤ version
  case neg =>
    rw [if_neg (fun h => h2 h.2.1)]
    go_enter Tryz.func123, Tryz.ntmps123
    go_wp2_with fail
    refine (HP.out _ _ (H1.out.mkc _ _).swap).mono ?_
    rintro e w1 ⟨rfl, H2⟩
    generalize w.heap.size = nb at *
    obtain ⟨c0, c1, c2, c3, c4, c5, c6, fz, lt⟩ := H2.swap.c7
    have H3 := Lib.hid H2.swap
    clear H2
    unfold nodeV
    go_wp2
    refine bodyPost_ret (v := .tuple #[nodeV n, .int .i64 0]) (by simp [results, Tryz.results123, go_sem, nodeV, c0, c1, c2, c3, c4, c5, c6, fz, lt]) rfl ⟨rfl, ?_⟩
    exact (((((((((H3.out.st 0 _).st 1 _).st 2 _).st 3 _).st 4 _).st 5 _).st 6 _).drop).mkc _ _).drop
  by_cases h3 : n.version = version
  · rw [if_neg (fun h => h.2.2 h3)]
    have hb : (n.version != version) = false := by simp [h3]
    clear h3
    go_enter Tryz.func123, Tryz.ntmps123
    go_wp2_with fail
    refine (HP.out _ _ (H1.out.mkc _ _).swap).mono ?_
    rintro e w1 ⟨rfl, H2⟩
    generalize w.heap.size = nb at *
    obtain ⟨c0, c1, c2, c3, c4, c5, c6, fz, lt⟩ := H2.swap.c7
    have H3 := Lib.hid H2.swap
    clear H2
    unfold nodeV
    go_wp2
    refine bodyPost_ret (v := .tuple #[nodeV n, .int .i64 0]) (by simp [results, Tryz.results123, go_sem, nodeV, c0, c1, c2, c3, c4, c5, c6, fz, lt]) rfl ⟨rfl, ?_⟩
    exact (((((((((H3.out.st 0 _).st 1 _).st 2 _).st 3 _).st 4 _).st 5 _).st 6 _).drop).mkc _ _).drop
  · rw [if_pos ⟨rfl, h2, h3⟩]
    have hb : (n.version != version) = true := by simpa using h3
    clear h3
    go_enter Tryz.func123, Tryz.ntmps123
    go_wp2_with fail
    refine (HP.out _ _ (H1.out.mkc _ _).swap).mono ?_
    rintro e w1 ⟨rfl, H2⟩
    generalize w.heap.size = nb at *
    obtain ⟨c0, c1, c2, c3, c4, c5, c6, fz, lt⟩ := H2.swap.c7
    have H3 := Lib.hid H2.swap
    clear H2
    unfold nodeV
    go_wp2
    refine bodyPost_ret (v := .tuple #[nodeV nodeZ, .int .i64 14]) (by simp [results, Tryz.results123, go_sem, nodeV, nodeZ, c0, c1, c2, c3, c4, c5, c6, fz, lt]) rfl ⟨rfl, ?_⟩
    exact (((((((((H3.out.st 0 _).st 1 _).st 2 _).st 3 _).st 4 _).st 5 _).st 6 _).drop).mkc _ _).drop
end Go.Proofs.YtpeflgfldbjflaaGreatDoor
end
section
namespace Go.Orch
open Go.RowKit
theorem Sep.treePut {R w : World} {l : List HP} {b mb : Nat} {T : TreeV} {k : ByteArray} {n : NodeV} (H : Sep R w (mapAt strK mb (aput (treeM T) k (nodeV n)) :: cellsAt b #[.map (some mb)] :: l)) : Sep R w (treeAt b (aput T k n) :: l) := by
  unfold treeM at H
  rw [aput_map nodeV k n T] at H
  exact H.swap.mktree
def tset (T : TreeV) (s data : ByteArray) (version whn : Int) : Int × Int × TreeV :=
  if (tat T s version).2 ≠ 0 then (0, (tat T s version).2, T) else if 60 < data.size then (0, 3, T)
  else (wrap64 ((tat T s version).1.version + 1), 0, aput T s { (tat T s version).1 with data := data, version := wrap64 ((tat T s version).1.version + 1), set := whn })
end Go.Orch
namespace Go.Proofs.YtpeflgfldbjflaaGreatDoor
open Go.RowKit Go.Orch
theorem tcheck_any (R w : World) (l : List HP) (G : GoodR R) (b : Nat) (T : TreeV) (s : ByteArray) (version : Int) (hs : s.size ≤ 9000000000000000000) (H : Sep R w (treeAt b T :: l)) :
    Calls Tryz.prog 146 #[.pointer (some ⟨b, 0, none⟩), .string s, .int .i64 version] w fun e w' => e = .returned (.int .i64 (tat T s version).2) ∧ Sep R w' (treeAt b T :: l) := by
  have HP := Lib.hid (tat_walk R w l G b T s version hs H)
  clear H
  generalize tat T s version = q at *
  obtain ⟨n, er⟩ := q
  simp only at HP ⊢
  go_enter Tryz.func146, Tryz.ntmps146
  go_wp2_with fail
  refine HP.out.mono ?_
  rintro e w1 ⟨rfl, H2⟩
  have H3 := Lib.hid H2
  clear H2
  unfold nodeV
  go_wp2
  go_ret
  exact ⟨rfl, (H3.out.mkc _ _).drop⟩
set_option maxRecDepth 100000 in
set_option maxHeartbeats 1000000 in
theorem tset_any (R w : World) (l : List HP) (G : GoodR R) (b : Nat) (T : TreeV) (s data : ByteArray) (version whn : Int) (hs : s.size ≤ 9000000000000000000) (hd : data.size ≤ 9000000000000000000) (H : Sep R w (treeAt b T :: l)) :
    Calls Tryz.prog 145 #[.pointer (some ⟨b, 0, none⟩), .string s, .string data, .int .i64 version, .int .i64 whn] w fun e w' => e = .returned (.tuple #[.int .i64 (tset T s data version whn).1, .int .i64 (tset T s data version whn).2.1]) ∧ Sep R w' (treeAt b (tset T s data version whn).2.2 :: l) := by
  unfold tset
  have HP := Lib.hid (tat_walk R w l G b T s version hs H)
  clear H
  generalize tat T s version = q at *
  obtain ⟨n, er⟩ := q
  simp only at HP ⊢
  by_cases h1 : er = 0
  case neg =>
    rw [if_pos h1]
    have hb : (er != 0) = true := by simpa using h1
    clear h1
    go_enter Tryz.func145, Tryz.ntmps145
    go_wp2_with fail
    refine HP.out.mono ?_
    rintro e w1 ⟨rfl, H2⟩
    have H3 := Lib.hid H2
    clear H2
    unfold nodeV
    go_wp2
    go_ret2
    exact ⟨rfl, (H3.out.mkc _ _).drop⟩
  subst h1
  rw [if_neg (by simp)]
  by_cases h2 : 60 < data.size
  · rw [if_pos h2]
    go_enter Tryz.func145, Tryz.ntmps145
    go_wp2_with fail
    refine HP.out.mono ?_
    rintro e w1 ⟨rfl, H2⟩
    have H3 := Lib.hid H2
    clear H2
    unfold nodeV
    go_wp2
    go_ret2
    exact ⟨rfl, (H3.out.mkc _ _).drop⟩
  · rw [if_neg h2]
    go_enter Tryz.func145, Tryz.ntmps145
    go_wp2_with fail
    refine HP.out.mono ?_
    rintro e w1 ⟨rfl, H2⟩
    obtain ⟨mb, H4⟩ := H2.tree
    obtain ⟨d0, fd, ltb⟩ := H4.c1
    have H5 := Lib.hid H4.swap
    clear H2 H4
    unfold nodeV
    go_wp2
    refine wp_still_tail 6 (by kernel_rfl) (by kernel_rfl) ?_
    simp only [List.take_succ_cons, List.take_zero, List.drop_succ_cons, List.drop_zero]
    repeat still_step
    refine wpStill_nil ?_
    refine wpList_mapUpdate (v := nodeV { n with data := data, version := wrap64 (n.version + 1), set := whn }) strK_same rfl _ _ _ 79 9 33 rfl Tryz.underlying79 Tryz.underlying9 (H5.out.mkc _ _).drew.swap rfl rfl rfl ?_
    intro w2 H6
    obtain ⟨c0, c1, c2, c3, c4, c5, c6, fz, lt⟩ := H6.swap.c7
    have H7 := Lib.hid H6.swap.drop.treePut
    clear H6 c0 c2 c3 c4 c5 c6
    generalize w1.heap.size = nb at *
    go_wp2
    go_ret2
    exact ⟨rfl, H7.out⟩
set_option maxRecDepth 100000 in
theorem tnew_any (R w : World) (l : List HP) (H : Sep R w l) :
    Calls Tryz.prog 42 #[] w fun e w' => ∃ b, e = .returned (.pointer (some ⟨b, 0, none⟩)) ∧ Sep R w' (treeAt b [(slash, nodeZ)] :: l) := by
  have hmm := @run_makeMap Tryz.prog
  have H1 := (H.alloc (.map #[] 0)).mkmap (K := strK) (m := []) (es := #[]) rfl (by simp) (by simp)
  obtain ⟨w2, hins, H3⟩ := run_mapUpdate (P := Tryz.prog) (t := 79) strK_same Tryz.underlying79 Tryz.underlying9 H1 slash (nodeV nodeZ)
  have hi : (Instr.mapUpdate 79 (.map (some w.heap.size)) (.string ⟨#[47]⟩) (.agg #[.string ⟨#[]⟩, .int .i64 0, .int .i64 0, .int .i64 0, .int .i64 0, .int .i64 0, .int .i64 0])).run Tryz.prog (w.alloc (.map #[] 0)) = .ok () w2 := hins
  have H4 : Sep R w2 (mapAt strK w.heap.size (treeM [(slash, nodeZ)]) :: l) := H3
  have H5 := Lib.hid H4
  clear H H1 H3 H4 hins
  have post : ∀ e w', (e = Ending.returned (.pointer (some ⟨w2.heap.size, 0, none⟩)) ∧ w' = w2.alloc (.cells #[.map (some w.heap.size)] 81)) → ∃ b, e = Ending.returned (.pointer (some ⟨b, 0, none⟩)) ∧ Sep R w' (treeAt b [(slash, nodeZ)] :: l) := by
    rintro e w' ⟨rfl, rfl⟩
    exact ⟨_, rfl, (H5.out.mkc _ _).mktree⟩
  refine Calls.mono ?_ post
  clear post H5
  go_enter Tryz.func42, Tryz.ntmps42
  go_wp2
  go_ret
  exact ⟨rfl, rfl⟩
end Go.Proofs.YtpeflgfldbjflaaGreatDoor
end
