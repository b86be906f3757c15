/- WHAT IS PROVED HERE: Package tree: Owned; Package tree: Delete, Create. -/
import Derived.Test.YtpeflgfldbjflaaGreatDoorG15
import Derived.Test.YtpeflgfldbjflaaGreatDoorG06
import Derived.StillTailTactics
set_option linter.unusedVariables false
set_option linter.unusedSimpArgs false
set_option linter.unusedSectionVars false
set_option linter.unnecessarySimpa false
section
namespace Go.Orch
open Go.RowKit
def tkeys (T : TreeV) : List ByteArray := T.map (·.1)
def tOwner (T : TreeV) (s : ByteArray) : Int := ((aget T s).getD nodeZ).owner
def ownB (T : TreeV) (owner : Int) (s : ByteArray) : Bool := decide (tOwner T s = owner ∧ owner ≠ 0)
def towned (T : TreeV) (owner : Int) : List ByteArray := (sortB (tkeys T)).filter (ownB T owner)
theorem Sep.listElem {R w : World} {l : List HP} {p : Option Addr} {n c : Nat} {α : Type} {enc : α → Value} {xs : List α} (H : Sep R w (listS enc (.slice p n c) xs :: l)) (j : Nat) (hj : j < xs.length) :
    ∃ b off, p = some ⟨b, off, none⟩ ∧ w.cell? ⟨b, off + j, none⟩ = some (enc xs[j]) := by
  have H' : Sep R w (recS 1 (fun x => [enc x]) (.slice p n c) xs :: l) := by
    unfold recS
    rw [show xs.flatMap (fun b => [enc b]) = xs.map enc by clear H hj; induction xs with
      | nil => rfl
      | cons x xs ih => rw [List.flatMap_cons, List.map_cons, ih]; rfl]
    exact H
  rcases H'.recOpen with ⟨_, rfl, _⟩ | ⟨b, cap, pre, post, hv, _, _, _, _, H1⟩
  · exact absurd hj (by simp)
  · injection hv with h1 h2 h3
    refine ⟨b, pre.length, h1, ?_⟩
    have := H1.elem (sz := 1) (fun _ => rfl) j hj 0 (v := enc xs[j]) rfl
    simpa using this
theorem Sep.listCell {R w : World} {l : List HP} {b off n c : Nat} {α : Type} {enc : α → Value} {xs : List α} (H : Sep R w (listS enc (.slice (some ⟨b, off, none⟩) n c) xs :: l)) (j : Nat) (hj : j < xs.length) :
    w.cell? ⟨b, off + j, none⟩ = some (enc xs[j]) := by
  obtain ⟨b', off', h, hc⟩ := H.listElem j hj
  injection h with h1
  injection h1 with h2 h3 h4
  subst h2 h3
  exact hc
end Go.Orch
namespace Go.Proofs.YtpeflgfldbjflaaGreatDoor
open Go.RowKit Go.Orch Go.Sort
set_option maxRecDepth 100000 in
set_option maxHeartbeats 2000000 in
theorem towned_any (R w : World) (l : List HP) (b : Nat) (T : TreeV) (hT : T.wf) (owner : Int) (H : Sep R w (treeAt b T :: l)) :
    Calls Tryz.prog 103 #[.pointer (some ⟨b, 0, none⟩), .int .i64 owner] w fun e w' => ∃ v, e = .returned v ∧ Sep R w' (strS v (towned T owner) :: treeAt b T :: l) := by
  have HP := Lib.hid (treePaths_any R w l b T hT H)
  have hlen : (sortB (tkeys T)).length ≤ 1000 := by rw [len_sortB]; have := hT.1.1; simp only [tkeys, List.length_map]; omega
  unfold towned
  obtain ⟨ks, hks⟩ : ∃ ks, ks = sortB (tkeys T) := ⟨_, rfl⟩
  have HP2 : Hid (Calls Tryz.prog 122 #[.pointer (some ⟨b, 0, none⟩)] w fun e w' => ∃ v, e = .returned v ∧ Sep R w' (strS v ks :: treeAt b T :: l)) := by rw [hks]; exact HP
  rw [← hks] at hlen ⊢
  clear H HP hks
  go_enter Tryz.func103, Tryz.ntmps103
  go_wp2_with fail
  refine Calls.mono HP2.out ?_
  rintro e w1 ⟨v, rfl, H1⟩
  obtain ⟨p, k, rfl⟩ := H1.listSlice
  have H2 := Lib.hid (H1.nilRow 1)
  clear H1 HP2
  go_wp2_with fail
  go_loopw [5, 11] (fun u i wr => ∃ j : Nat, j ≤ ks.length ∧ i = .int .i64 j ∧ Sep R wr (strS u ((ks.take j).filter (ownB T owner)) :: strS (.slice p ks.length k) ks :: treeAt b T :: l)) (fun _ i _ => ks.length - (intOf i).toNat)
  case atStart => exact ⟨0, Nat.zero_le _, rfl, H2.out⟩
  case round =>
    obtain ⟨j, hj, rfl, H3⟩ := hrel
    have H4 := Lib.hid H3
    by_cases hlt : j < ks.length
    · have hlti : (j : Int) < (ks.length : Int) := by omega
      obtain ⟨kb, off, rfl, hc⟩ := ((Sep.f1 (H3))).listElem j hlt
      have HT := Lib.hid (List.take_succ_eq_append_getElem hlt)
      obtain ⟨mb, H5⟩ := ((Sep.f2 (H3))).tree
      obtain ⟨d0, fd, ltb⟩ := H5.c1
      have hfl : ((ks.take j).filter (ownB T owner)).length ≤ 1000 := by
        have h1 := List.length_filter_le (ownB T owner) (ks.take j)
        rw [List.length_take] at h1
        omega
      have HFL := Lib.hid hfl
      generalize ks[j] = s at *
      have hlk := run_lookup (P := Tryz.prog) (t := 79) (kt := 9) (e := 33) strK_same Tryz.underlying79 Tryz.underlying9 ((Sep.f1 (H5))) s (node_zero wr) false
      have hgn : (aget (treeM T) s).getD (nodeV nodeZ) = nodeV ((aget T s).getD nodeZ) := by rw [treeM_get]; cases aget T s <;> rfl
      simp only [hgn, show ∀ x, strK.emb x = .string x from fun _ => rfl, Bool.false_eq_true, if_false] at hlk
      have hto : tOwner T s = ((aget T s).getD nodeZ).owner := rfl
      have HTo := Lib.hid hto
      obtain ⟨nd, hnd⟩ : ∃ nd, nd = (aget T s).getD nodeZ := ⟨_, rfl⟩
      rw [← hnd] at hlk HTo
      unfold nodeV at hlk
      have hfld : ∀ W, (Instr.field 33 (.agg #[.string nd.data, .int .i64 nd.version, .int .i64 nd.below, .int .i64 nd.owner, .int .i64 nd.made, .int .i64 nd.set, .int .i64 nd.serial]) 3).run Tryz.prog W = .ok (.int .i64 nd.owner) W := fun W => by kernel_rfl
      have H5b := Lib.hid H5
      clear H3 H5 hfl hgn hto hnd
      by_cases h1 : nd.owner = owner
      · by_cases h2 : owner = 0
        · have hb2 : (owner != 0) = false := by simp [h2]
          have hf : ((ks.take (j + 1)).filter (ownB T owner)) = (ks.take j).filter (ownB T owner) := by rw [HT.out, List.filter_append]; simp [ownB, h2]
          have HF := Lib.hid hf
          have hb1 : (nd.owner == owner) = true := by simpa using h1
          clear h1 h2 hf
          go_wp2_with fail
          go_roundw
          case rel => exact ⟨j + 1, hlt, by go_num, by rw [HF.out]; exact H4.out⟩
          case measure => simp [intOf]; omega
        · have hb2 : (owner != 0) = true := by simpa using h2
          have hf : ((ks.take (j + 1)).filter (ownB T owner)) = ((ks.take j).filter (ownB T owner)) ++ [s] := by rw [HT.out, List.filter_append]; simp [ownB, HTo.out, h1, h2]
          have HF := Lib.hid hf
          have hb1 : (nd.owner == owner) = true := by simpa using h1
          clear h1 h2 hf
          go_wp2_with (at_builtin; refine Hid.out ?_)
          refine Lib.hid (wpList_append_list (enc := Value.string) (news := [s]) rfl _ _ 25 25 9 rfl Tryz.underlying25 Tryz.underlying25 (.inr ⟨_, rfl⟩) str_info rfl rfl rfl (Src.one1 s rfl rfl (H4.out.mkc _ _)) ((Sep.f1 ((H4.out.mkc _ _)))) ?c1 ?c2 ?_)
          case c1 => have := HFL.out; unfold maxLen; simp; omega
          case c2 => have := HFL.out; simp; omega
          intro v' w5 H13
          have H14 := Lib.hid ((Sep.f1 (H13))).drop
          clear H13
          go_wp2_with fail
          go_roundw
          case rel => exact ⟨j + 1, hlt, by go_num, by rw [HF.out]; exact H14.out⟩
          case measure => simp [intOf]; omega
      · have hf : ((ks.take (j + 1)).filter (ownB T owner)) = (ks.take j).filter (ownB T owner) := by rw [HT.out, List.filter_append]; simp [ownB, HTo.out, h1]
        have HF := Lib.hid hf
        have hb1 : (nd.owner == owner) = false := by simpa using h1
        clear h1 hf
        go_wp2_with fail
        go_roundw
        case rel => exact ⟨j + 1, hlt, by go_num, by rw [HF.out]; exact H4.out⟩
        case measure => simp [intOf]; omega
    · obtain rfl : j = ks.length := by omega
      have hlti : ¬ (ks.length : Int) < (ks.length : Int) := by omega
      have H5 := H4.out
      rw [List.take_length] at H5
      have H6 := Lib.hid H5
      clear H3 H4 H5
      go_wp2
      go_ret
      refine ⟨u5, rfl, ?_⟩
      exact ((Sep.f1 (H6.out))).drop
end Go.Proofs.YtpeflgfldbjflaaGreatDoor
end
section
namespace Go.Orch
open Go.RowKit Go.Proofs
def tdelete (T : TreeV) (s : ByteArray) (version : Int) : Int × TreeV :=
  if (tat T s version).2 ≠ 0 then ((tat T s version).2, T)
  else if s.data.toList = [47] then (1, T)
  else if 0 < (tkids T s).1.length then (13, T)
  else (0, adel (aput T (Go.Proofs.YtpeflgfldbjflaaGreatDoor.pathUp s).1 { (aget T (Go.Proofs.YtpeflgfldbjflaaGreatDoor.pathUp s).1).getD nodeZ with below := wrap64 (((aget T (Go.Proofs.YtpeflgfldbjflaaGreatDoor.pathUp s).1).getD nodeZ).below + 1) }) s)
theorem Sep.treeDel {R w : World} {l : List HP} {b mb : Nat} {T : TreeV} {k : ByteArray} (H : Sep R w (mapAt strK mb (adel (treeM T) k) :: cellsAt b #[.map (some mb)] :: l)) : Sep R w (treeAt b (adel T k) :: l) := by
  unfold treeM at H
  rw [adel_map nodeV k T] at H
  exact H.swap.mktree
end Go.Orch
namespace Go.Proofs.YtpeflgfldbjflaaGreatDoor
open Go.RowKit Go.Orch Go.Sort
set_option maxRecDepth 100000 in
set_option maxHeartbeats 2000000 in
theorem tdelete_any (R w : World) (l : List HP) (G : GoodR R) (b : Nat) (T : TreeV) (hT : T.ok) (s : ByteArray) (version : Int) (hs : s.size ≤ 1000000000) (H : Sep R w (treeAt b T :: l)) :
    Calls Tryz.prog 104 #[.pointer (some ⟨b, 0, none⟩), .string s, .int .i64 version] w fun e w' => e = .returned (.int .i64 (tdelete T s version).1) ∧ Sep R w' (treeAt b (tdelete T s version).2 :: l) := by
  unfold tdelete
  have HP := Lib.hid (tat_walk R w l G b T s version (by omega) H)
  have HK := Lib.hid (fun w l H => tkids_any R w l G b T hT s (by omega) H)
  have HU := Lib.hid (fun w l H => up_any R w l s hs H)
  clear H
  generalize tat T s version = q at *
  obtain ⟨n, er⟩ := q
  simp only at HP ⊢
  generalize tkids T s = kq at *
  obtain ⟨ks, ke⟩ := kq
  simp only at HK ⊢
  generalize pathUp s = pu at *
  obtain ⟨up, last⟩ := pu
  simp only at HU ⊢
  by_cases h1 : er = 0
  case neg =>
    rw [if_pos h1]
    have hb : (er != 0) = true := by simpa using h1
    clear h1
    go_enter Tryz.func104, Tryz.ntmps104
    go_wp2_with fail
    refine HP.out.mono ?_
    rintro e w1 ⟨rfl, H2⟩
    have H3 := Lib.hid H2
    clear H2
    unfold nodeV
    go_wp2
    go_ret
    exact ⟨rfl, (H3.out.mkc _ _).drop⟩
  subst h1
  rw [if_neg (by simp)]
  by_cases h2 : s.data.toList = [47]
  · rw [if_pos h2]
    have hb : (s.toList == [47]) = true := by rw [ByteArray.toList_eq, h2]; rfl
    have hb' : s.toList = [47] := by rw [ByteArray.toList_eq, h2]
    clear h2
    go_enter Tryz.func104, Tryz.ntmps104
    go_wp2_with fail
    refine HP.out.mono ?_
    rintro e w1 ⟨rfl, H2⟩
    have H3 := Lib.hid H2
    clear H2
    unfold nodeV
    go_wp2
    go_ret
    exact ⟨rfl, (H3.out.mkc _ _).drop⟩
  rw [if_neg h2]
  have hb : (s.toList == [47]) = false := by rw [ByteArray.toList_eq]; simpa using h2
  have hb' : ¬ s.toList = [47] := by rw [ByteArray.toList_eq]; exact h2
  clear h2
  by_cases h3 : 0 < ks.length
  · rw [if_pos h3]
    have h3i : 0 < (ks.length : Int) := by omega
    go_enter Tryz.func104, Tryz.ntmps104
    go_wp2_with fail
    refine HP.out.mono ?_
    rintro e w1 ⟨rfl, H2⟩
    have H3 := Lib.hid H2
    clear H2
    unfold nodeV
    go_wp2_with fail
    refine Calls.mono (HK.out _ _ ((Sep.f1 ((H3.out.mkc _ _))))) ?_
    rintro e w2 ⟨v, rfl, H4⟩
    obtain ⟨p, k, rfl⟩ := H4.listSlice
    have H5 := Lib.hid H4
    clear H4
    go_wp2
    go_ret
    exact ⟨rfl, ((Sep.f1 (Sep.f2 (H5.out)))).drop.drop⟩
  · rw [if_neg h3]
    have h3i : ¬ 0 < (ks.length : Int) := by omega
    obtain ⟨nd, hnd⟩ : ∃ nd, nd = (aget T up).getD nodeZ := ⟨_, rfl⟩
    rw [← hnd]
    obtain ⟨T2, hT2⟩ : ∃ T2, T2 = adel (aput T up { nd with below := wrap64 (nd.below + 1) }) s := ⟨_, rfl⟩
    rw [← hT2]
    have HT2 := Lib.hid hT2
    have hgn : (aget (treeM T) up).getD (nodeV nodeZ) = nodeV nd := by rw [treeM_get, hnd]; cases aget T up <;> rfl
    have HGN := Lib.hid hgn
    clear hnd hgn hT2
    go_enter Tryz.func104, Tryz.ntmps104
    go_wp2_with fail
    refine HP.out.mono ?_
    rintro e w1 ⟨rfl, H2⟩
    have H3 := Lib.hid H2
    clear H2
    unfold nodeV
    go_wp2_with fail
    refine Calls.mono (HK.out _ _ ((Sep.f1 ((H3.out.mkc _ _))))) ?_
    rintro e w2 ⟨v, rfl, H4⟩
    obtain ⟨p, k, rfl⟩ := H4.listSlice
    have H5 := Lib.hid ((Sep.f1 (Sep.f2 (H4)))).drop.drop
    clear H4
    go_wp2_with fail
    refine Calls.mono (HU.out _ _ H5.out) ?_
    rintro e w3 ⟨rfl, H6⟩
    obtain ⟨mb, H7⟩ := H6.tree
    obtain ⟨d0, fd, ltb⟩ := H7.c1
    have hlk := run_lookup (P := Tryz.prog) (t := 79) (kt := 9) (e := 33) strK_same Tryz.underlying79 Tryz.underlying9 ((Sep.f1 (H7))) up (node_zero w3) false
    simp only [HGN.out, show ∀ x, strK.emb x = .string x from fun _ => rfl, Bool.false_eq_true, if_false] at hlk
    unfold nodeV at hlk
    clear H6
    have H8 := Lib.hid ((Sep.f1 (H7)))
    clear H7
    go_wp2
    refine wp_still_tail 6 (by kernel_rfl) (by kernel_rfl) ?_
    simp only [List.take_succ_cons, List.take_zero, List.drop_succ_cons, List.drop_zero]
    repeat still_step
    refine wpStill_nil ?_
    refine wpList_mapUpdate (v := nodeV { nd with below := wrap64 (nd.below + 1) }) strK_same rfl _ _ _ 79 9 33 rfl Tryz.underlying79 Tryz.underlying9 ((Sep.f1 ((H8.out.mkc _ _).drew))) rfl rfl rfl ?_
    intro w4 H9
    have H10 := ((Sep.f1 (H9))).drop.treePut
    clear H9
    obtain ⟨mb', H11⟩ := H10.tree
    obtain ⟨c0, cfz, clt⟩ := H11.c1
    obtain ⟨w5, hdel, H12⟩ := run_delete (P := Tryz.prog) (ty := 0) (t2 := 9) strK_same Tryz.underlying79 Tryz.underlying9 ((Sep.f1 (H11))) s
    simp only [show ∀ x, strK.emb x = .string x from fun _ => rfl] at hdel
    have H13 := H12.treeDel
    rw [← HT2.out] at H13
    have H14 := Lib.hid H13
    clear H10 H11 H12 H13 hlk d0 fd ltb
    go_wp2
    go_ret
    exact ⟨rfl, H14.out⟩
end Go.Proofs.YtpeflgfldbjflaaGreatDoor
end
