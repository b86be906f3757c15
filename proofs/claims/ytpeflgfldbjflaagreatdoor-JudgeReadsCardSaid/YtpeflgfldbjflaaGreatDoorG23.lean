/- WHAT IS PROVED HERE: Package tree: Create. -/
import Derived.Test.YtpeflgfldbjflaaGreatDoorG22
import Derived.Test.YtpeflgfldbjflaaGreatDoorG17
set_option linter.unusedVariables false
set_option linter.unusedSimpArgs false
set_option linter.unusedSectionVars false
set_option linter.unnecessarySimpa false
section
namespace Go.Orch
open Go.RowKit Go.Proofs
def tcreated (T : TreeV) (up s data : ByteArray) (owner whn : Int) (serial : Bool) (ab : NodeV) : TreeV :=
  aput (aput T up { ab with below := wrap64 (ab.below + 1), serial := if serial then wrap64 (ab.serial + 1) else ab.serial }) s ⟨data, 0, 0, owner, whn, whn, 0⟩
def tcreate2 (T : TreeV) (up s data : ByteArray) (owner whn : Int) (serial : Bool) (ab : NodeV) : ByteArray × Int × TreeV :=
  if serial = true ∧ pathCheck s ≠ 0 then (⟨#[]⟩, 10, T)
  else if (aget T s).isSome = true then (⟨#[]⟩, 12, T)
  else if 60 ≤ T.length then (⟨#[]⟩, 16, T)
  else (s, 0, tcreated T up s data owner whn serial ab)
def tcreate (T : TreeV) (s data : ByteArray) (owner whn : Int) (serial : Bool) : ByteArray × Int × TreeV :=
  if pathCheck s ≠ 0 then (⟨#[]⟩, pathCheck s, T)
  else if s.data.toList = [47] then (⟨#[]⟩, 12, T)
  else if 60 < data.size then (⟨#[]⟩, 3, T)
  else match aget T (Go.Proofs.YtpeflgfldbjflaaGreatDoor.pathUp s).1 with
  | none => (⟨#[]⟩, 11, T)
  | some ab => if ab.owner ≠ 0 then (⟨#[]⟩, 15, T) else tcreate2 T (Go.Proofs.YtpeflgfldbjflaaGreatDoor.pathUp s).1 (if serial then pathSerial s ab.serial else s) data owner whn serial ab
theorem pathSerial_size (s : ByteArray) (n : Int) (hn : n ≤ 9223372036854775807) : (pathSerial s n).size ≤ s.size + 31 := by
  unfold pathSerial
  have hlen := Lib.itoa_length_le (max n 0) (by omega) (by omega)
  have h2 : (Lib.repeatL [48] (10 - (Lib.itoa (max n 0)).length)).length ≤ 10 := by rw [Lib.repeatL_length]; simp
  simp only [ByteArray.size_append]
  have e1 : ∀ l : List UInt8, (⟨l.toArray⟩ : ByteArray).size = l.length := fun l => by simp [ByteArray.size]
  have e2 := e1 (Lib.repeatL [48] (10 - (Lib.itoa (max n 0)).length))
  have e3 := e1 (Lib.itoa (max n 0))
  omega
end Go.Orch
namespace Go.Proofs.YtpeflgfldbjflaaGreatDoor
open Go.RowKit Go.Orch Go.Sort
set_option maxRecDepth 100000 in
set_option maxHeartbeats 4000000 in
theorem tcreate_any (R w : World) (l : List HP) (G : GoodR R) (b : Nat) (T : TreeV) (s data : ByteArray) (owner whn : Int) (serial : Bool) (hs : s.size ≤ 1000000) (hd : data.size ≤ 1000000000) (hse : ∀ x ∈ T, x.2.serial ≤ 1000000000) (H : Sep R w (treeAt b T :: l)) :
    Calls Tryz.prog 144 #[.pointer (some ⟨b, 0, none⟩), .string s, .string data, .int .i64 owner, .int .i64 whn, .bool serial] w fun e w' => e = .returned (.tuple #[.string (tcreate T s data owner whn serial).1, .int .i64 (tcreate T s data owner whn serial).2.1]) ∧ Sep R w' (treeAt b (tcreate T s data owner whn serial).2.2 :: l) := by
  have H1 := Lib.hid H
  have HU := Lib.hid (fun w l H => up_any R w l s (by omega) H)
  have HP := Lib.hid (fun w l H => check_any R w l G s (by omega) H)
  have HG := Lib.hid G
  clear H G
  unfold tcreate
  generalize pathUp s = pu at *
  obtain ⟨up, last⟩ := pu
  simp only at HU ⊢
  by_cases h0 : pathCheck s = 0
  case neg =>
    rw [if_pos h0]
    generalize pathCheck s = pc at *
    have hb : (pc != 0) = true := by simpa using h0
    clear h0
    go_enter Tryz.func144, Tryz.ntmps144
    go_wp2_with fail
    refine Calls.mono (HP.out _ _ H1.out) ?_
    rintro e w1 ⟨rfl, H2⟩
    have H3 := Lib.hid H2
    clear H2
    go_wp2
    go_ret2
    exact ⟨rfl, H3.out⟩
  rw [if_neg (by simpa using h0)]
  rw [h0] at HP
  have H0 := Lib.hid h0
  have HLn : Hid ((treeM T).length = T.length) := Lib.hid (by simp [treeM])
  clear h0
  cases hg : aget T up with
  | none =>
    have HGN : Hid ((aget (treeM T) up).getD (nodeV nodeZ) = nodeV nodeZ) := Lib.hid (by rw [treeM_get, hg]; rfl)
    have HGS : Hid ((aget (treeM T) up).isSome = false) := Lib.hid (by rw [treeM_get, hg]; rfl)
    clear hg
    by_cases h2 : s.data.toList = [47]
    · rw [if_pos h2]
      have hb : (s.toList == [47]) = true := by rw [ByteArray.toList_eq, h2]; rfl
      have hb' : s.toList = [47] := by rw [ByteArray.toList_eq, h2]
      clear h2
      go_enter Tryz.func144, Tryz.ntmps144
      go_wp2_with fail
      refine Calls.mono (HP.out _ _ H1.out) ?_
      rintro e w1 ⟨rfl, H2⟩
      have H3 := Lib.hid H2
      clear H2
      go_wp2_with fail
      refine Calls.mono (HU.out _ _ H3.out) ?_
      rintro e w2 ⟨rfl, H4⟩
      obtain ⟨mb, H5⟩ := H4.tree
      obtain ⟨d0, fd, ltb⟩ := H5.c1
      have hlk := run_lookup (P := Tryz.prog) (t := 79) (kt := 9) (e := 33) strK_same Tryz.underlying79 Tryz.underlying9 ((Sep.f1 (H5))) up (node_zero w2) true
      simp only [HGN.out, HGS.out, show ∀ x, strK.emb x = .string x from fun _ => rfl, if_true] at hlk
      unfold nodeV at hlk
      have H6 := Lib.hid H5
      clear H4 H5
      go_wp2
      go_ret2
      exact ⟨rfl, (H6.out.mkc _ _).drop.mktree⟩
    rw [if_neg h2]
    have hb : (s.toList == [47]) = false := by rw [ByteArray.toList_eq]; simpa using h2
    have hb' : ¬ s.toList = [47] := by rw [ByteArray.toList_eq]; exact h2
    clear h2
    by_cases h3 : 60 < data.size
    · rw [if_pos h3]
      have h3i : 60 < (data.size : Int) := by omega
      go_enter Tryz.func144, Tryz.ntmps144
      go_wp2_with fail
      refine Calls.mono (HP.out _ _ H1.out) ?_
      rintro e w1 ⟨rfl, H2⟩
      have H3 := Lib.hid H2
      clear H2
      go_wp2_with fail
      refine Calls.mono (HU.out _ _ H3.out) ?_
      rintro e w2 ⟨rfl, H4⟩
      obtain ⟨mb, H5⟩ := H4.tree
      obtain ⟨d0, fd, ltb⟩ := H5.c1
      have hlk := run_lookup (P := Tryz.prog) (t := 79) (kt := 9) (e := 33) strK_same Tryz.underlying79 Tryz.underlying9 ((Sep.f1 (H5))) up (node_zero w2) true
      simp only [HGN.out, HGS.out, show ∀ x, strK.emb x = .string x from fun _ => rfl, if_true] at hlk
      unfold nodeV at hlk
      have H6 := Lib.hid H5
      clear H4 H5
      go_wp2
      go_ret2
      exact ⟨rfl, (H6.out.mkc _ _).drop.mktree⟩
    rw [if_neg h3]
    have h3i : ¬ 60 < (data.size : Int) := by omega
    go_enter Tryz.func144, Tryz.ntmps144
    go_wp2_with fail
    refine Calls.mono (HP.out _ _ H1.out) ?_
    rintro e w1 ⟨rfl, H2⟩
    have H3 := Lib.hid H2
    clear H2
    go_wp2_with fail
    refine Calls.mono (HU.out _ _ H3.out) ?_
    rintro e w2 ⟨rfl, H4⟩
    obtain ⟨mb, H5⟩ := H4.tree
    obtain ⟨d0, fd, ltb⟩ := H5.c1
    have hlk := run_lookup (P := Tryz.prog) (t := 79) (kt := 9) (e := 33) strK_same Tryz.underlying79 Tryz.underlying9 ((Sep.f1 (H5))) up (node_zero w2) true
    simp only [HGN.out, HGS.out, show ∀ x, strK.emb x = .string x from fun _ => rfl, if_true] at hlk
    unfold nodeV at hlk
    have H6 := Lib.hid H5
    clear H4 H5
    go_wp2
    go_ret2
    exact ⟨rfl, (H6.out.mkc _ _).drop.mktree⟩
  | some ab =>
    have HGN : Hid ((aget (treeM T) up).getD (nodeV nodeZ) = nodeV ab) := Lib.hid (by rw [treeM_get, hg]; rfl)
    have HGS : Hid ((aget (treeM T) up).isSome = true) := Lib.hid (by rw [treeM_get, hg]; rfl)
    have hsm := hse _ (aget_in hg)
    simp only at hsm
    clear hg
    by_cases h2 : s.data.toList = [47]
    · rw [if_pos h2]
      have hb : (s.toList == [47]) = true := by rw [ByteArray.toList_eq, h2]; rfl
      have hb' : s.toList = [47] := by rw [ByteArray.toList_eq, h2]
      clear h2
      go_enter Tryz.func144, Tryz.ntmps144
      go_wp2_with fail
      refine Calls.mono (HP.out _ _ H1.out) ?_
      rintro e w1 ⟨rfl, H2⟩
      have H3 := Lib.hid H2
      clear H2
      go_wp2_with fail
      refine Calls.mono (HU.out _ _ H3.out) ?_
      rintro e w2 ⟨rfl, H4⟩
      obtain ⟨mb, H5⟩ := H4.tree
      obtain ⟨d0, fd, ltb⟩ := H5.c1
      have hlk := run_lookup (P := Tryz.prog) (t := 79) (kt := 9) (e := 33) strK_same Tryz.underlying79 Tryz.underlying9 ((Sep.f1 (H5))) up (node_zero w2) true
      simp only [HGN.out, HGS.out, show ∀ x, strK.emb x = .string x from fun _ => rfl, if_true] at hlk
      unfold nodeV at hlk
      have H6 := Lib.hid H5
      clear H4 H5
      go_wp2
      go_ret2
      exact ⟨rfl, (H6.out.mkc _ _).drop.mktree⟩
    rw [if_neg h2]
    have hb : (s.toList == [47]) = false := by rw [ByteArray.toList_eq]; simpa using h2
    have hb' : ¬ s.toList = [47] := by rw [ByteArray.toList_eq]; exact h2
    clear h2
    by_cases h3 : 60 < data.size
    · rw [if_pos h3]
      have h3i : 60 < (data.size : Int) := by omega
      go_enter Tryz.func144, Tryz.ntmps144
      go_wp2_with fail
      refine Calls.mono (HP.out _ _ H1.out) ?_
      rintro e w1 ⟨rfl, H2⟩
      have H3 := Lib.hid H2
      clear H2
      go_wp2_with fail
      refine Calls.mono (HU.out _ _ H3.out) ?_
      rintro e w2 ⟨rfl, H4⟩
      obtain ⟨mb, H5⟩ := H4.tree
      obtain ⟨d0, fd, ltb⟩ := H5.c1
      have hlk := run_lookup (P := Tryz.prog) (t := 79) (kt := 9) (e := 33) strK_same Tryz.underlying79 Tryz.underlying9 ((Sep.f1 (H5))) up (node_zero w2) true
      simp only [HGN.out, HGS.out, show ∀ x, strK.emb x = .string x from fun _ => rfl, if_true] at hlk
      unfold nodeV at hlk
      have H6 := Lib.hid H5
      clear H4 H5
      go_wp2
      go_ret2
      exact ⟨rfl, (H6.out.mkc _ _).drop.mktree⟩
    rw [if_neg h3]
    have h3i : ¬ 60 < (data.size : Int) := by omega
    simp only
    by_cases h4 : ab.owner = 0
    case neg =>
      rw [if_pos h4]
      have hb4 : (ab.owner != 0) = true := by simpa using h4
      clear h4
      go_enter Tryz.func144, Tryz.ntmps144
      go_wp2_with fail
      refine Calls.mono (HP.out _ _ H1.out) ?_
      rintro e w1 ⟨rfl, H2⟩
      have H3 := Lib.hid H2
      clear H2
      go_wp2_with fail
      refine Calls.mono (HU.out _ _ H3.out) ?_
      rintro e w2 ⟨rfl, H4⟩
      obtain ⟨mb, H5⟩ := H4.tree
      obtain ⟨d0, fd, ltb⟩ := H5.c1
      have hlk := run_lookup (P := Tryz.prog) (t := 79) (kt := 9) (e := 33) strK_same Tryz.underlying79 Tryz.underlying9 ((Sep.f1 (H5))) up (node_zero w2) true
      simp only [HGN.out, HGS.out, show ∀ x, strK.emb x = .string x from fun _ => rfl, if_true] at hlk
      unfold nodeV at hlk
      have H6 := Lib.hid H5
      clear H4 H5
      go_wp2
      go_ret2
      exact ⟨rfl, (H6.out.mkc _ _).drop.mktree⟩
    rw [if_neg (by simpa using h4)]
    have hb4 : (ab.owner != 0) = false := by simp [h4]
    clear h4
    cases serial with
    | false =>
      rw [if_neg (by simp)]
      unfold tcreate2
      rw [if_neg (by simp)]
      cases hg2 : aget T s with
      | some nd =>
        have HGN2 : Hid ((aget (treeM T) s).getD (nodeV nodeZ) = nodeV nd) := Lib.hid (by rw [treeM_get, hg2]; rfl)
        have HGS2 : Hid ((aget (treeM T) s).isSome = true) := Lib.hid (by rw [treeM_get, hg2]; rfl)
        rw [if_pos (by rfl)]
        clear hg2
        go_enter Tryz.func144, Tryz.ntmps144
        go_wp2_with fail
        refine Calls.mono (HP.out _ _ H1.out) ?_
        rintro e w1 ⟨rfl, H2⟩
        have H3 := Lib.hid H2
        clear H2
        go_wp2_with fail
        refine Calls.mono (HU.out _ _ H3.out) ?_
        rintro e w2 ⟨rfl, H4⟩
        obtain ⟨mb, H5⟩ := H4.tree
        obtain ⟨d0, fd, ltb⟩ := H5.c1
        have hlk := run_lookup (P := Tryz.prog) (t := 79) (kt := 9) (e := 33) strK_same Tryz.underlying79 Tryz.underlying9 ((Sep.f1 (H5))) up (node_zero w2) true
        simp only [HGN.out, HGS.out, show ∀ x, strK.emb x = .string x from fun _ => rfl, if_true] at hlk
        unfold nodeV at hlk
        have H6 := Lib.hid H5
        clear H4 H5
        have hlk2 := run_lookup (P := Tryz.prog) (t := 79) (kt := 9) (e := 33) strK_same Tryz.underlying79 Tryz.underlying9 ((Sep.f2 ((H6.out.mkc #[.string ab.data, .int .i64 ab.version, .int .i64 ab.below, .int .i64 ab.owner, .int .i64 ab.made, .int .i64 ab.set, .int .i64 ab.serial] 33)))) s (node_zero _) true
        simp only [HGN2.out, HGS2.out, show ∀ x, strK.emb x = .string x from fun _ => rfl, if_true] at hlk2
        unfold nodeV at hlk2
        go_wp2
        go_ret2
        exact ⟨rfl, ((H6.out.mkc _ _).mkc _ _).drop.drop.mktree⟩
      | none =>
        have HGN2 : Hid ((aget (treeM T) s).getD (nodeV nodeZ) = nodeV nodeZ) := Lib.hid (by rw [treeM_get, hg2]; rfl)
        have HGS2 : Hid ((aget (treeM T) s).isSome = false) := Lib.hid (by rw [treeM_get, hg2]; rfl)
        rw [if_neg (by simp)]
        clear hg2
        by_cases h5 : 60 ≤ T.length
        · rw [if_pos h5]
          have h5i : 60 ≤ (T.length : Int) := by omega
          go_enter Tryz.func144, Tryz.ntmps144
          go_wp2_with fail
          refine Calls.mono (HP.out _ _ H1.out) ?_
          rintro e w1 ⟨rfl, H2⟩
          have H3 := Lib.hid H2
          clear H2
          go_wp2_with fail
          refine Calls.mono (HU.out _ _ H3.out) ?_
          rintro e w2 ⟨rfl, H4⟩
          obtain ⟨mb, H5⟩ := H4.tree
          obtain ⟨d0, fd, ltb⟩ := H5.c1
          have hlk := run_lookup (P := Tryz.prog) (t := 79) (kt := 9) (e := 33) strK_same Tryz.underlying79 Tryz.underlying9 ((Sep.f1 (H5))) up (node_zero w2) true
          simp only [HGN.out, HGS.out, show ∀ x, strK.emb x = .string x from fun _ => rfl, if_true] at hlk
          unfold nodeV at hlk
          have H6 := Lib.hid H5
          clear H4 H5
          have hlk2 := run_lookup (P := Tryz.prog) (t := 79) (kt := 9) (e := 33) strK_same Tryz.underlying79 Tryz.underlying9 ((Sep.f2 ((H6.out.mkc #[.string ab.data, .int .i64 ab.version, .int .i64 ab.below, .int .i64 ab.owner, .int .i64 ab.made, .int .i64 ab.set, .int .i64 ab.serial] 33)))) s (node_zero _) true
          simp only [HGN2.out, HGS2.out, show ∀ x, strK.emb x = .string x from fun _ => rfl, if_true] at hlk2
          unfold nodeV nodeZ at hlk2
          have H8 := (H6.out.mkc #[.string ab.data, .int .i64 ab.version, .int .i64 ab.below, .int .i64 ab.owner, .int .i64 ab.made, .int .i64 ab.set, .int .i64 ab.serial] 33).mkc #[.string ⟨#[]⟩, .int .i64 0, .int .i64 0, .int .i64 0, .int .i64 0, .int .i64 0, .int .i64 0] 33
          simp only [World.size_alloc] at H8
          have hlen := fun ty => run_lenMap (P := Tryz.prog) (ty := ty) Tryz.underlying79 ((Sep.f3 (H8)))
          simp only [HLn.out] at hlen
          have H9 := Lib.hid H8
          clear H8
          go_wp2
          go_ret2
          exact ⟨rfl, ((Sep.f1 (Sep.f1 (H9.out)))).drop.drop.mktree⟩
        rw [if_neg h5]
        have h5i : ¬ 60 ≤ (T.length : Int) := by omega
        have HT2 : Hid (tcreated T up s data owner whn false ab = aput (aput T up { ab with below := wrap64 (ab.below + 1), serial := ab.serial }) s ⟨data, 0, 0, owner, whn, whn, 0⟩) := Lib.hid rfl
        generalize tcreated T up s data owner whn false ab = T2 at *
        go_enter Tryz.func144, Tryz.ntmps144
        go_wp2_with fail
        refine Calls.mono (HP.out _ _ H1.out) ?_
        rintro e w1 ⟨rfl, H2⟩
        have H3 := Lib.hid H2
        clear H2
        go_wp2_with fail
        refine Calls.mono (HU.out _ _ H3.out) ?_
        rintro e w2 ⟨rfl, H4⟩
        obtain ⟨mb, H5⟩ := H4.tree
        obtain ⟨d0, fd, ltb⟩ := H5.c1
        have hlk := run_lookup (P := Tryz.prog) (t := 79) (kt := 9) (e := 33) strK_same Tryz.underlying79 Tryz.underlying9 ((Sep.f1 (H5))) up (node_zero w2) true
        simp only [HGN.out, HGS.out, show ∀ x, strK.emb x = .string x from fun _ => rfl, if_true] at hlk
        unfold nodeV at hlk
        have H6 := Lib.hid H5
        clear H4 H5
        have hlk2 := run_lookup (P := Tryz.prog) (t := 79) (kt := 9) (e := 33) strK_same Tryz.underlying79 Tryz.underlying9 ((Sep.f2 ((H6.out.mkc #[.string ab.data, .int .i64 ab.version, .int .i64 ab.below, .int .i64 ab.owner, .int .i64 ab.made, .int .i64 ab.set, .int .i64 ab.serial] 33)))) s (node_zero _) true
        simp only [HGN2.out, HGS2.out, show ∀ x, strK.emb x = .string x from fun _ => rfl, if_true] at hlk2
        unfold nodeV nodeZ at hlk2
        have H8 := (H6.out.mkc #[.string ab.data, .int .i64 ab.version, .int .i64 ab.below, .int .i64 ab.owner, .int .i64 ab.made, .int .i64 ab.set, .int .i64 ab.serial] 33).mkc #[.string ⟨#[]⟩, .int .i64 0, .int .i64 0, .int .i64 0, .int .i64 0, .int .i64 0, .int .i64 0] 33
        simp only [World.size_alloc] at H8
        have hlen := fun ty => run_lenMap (P := Tryz.prog) (ty := ty) Tryz.underlying79 ((Sep.f3 (H8)))
        simp only [HLn.out] at hlen
        have H9 := Lib.hid H8
        clear H8
        have H10 := ((H6.out.mkc #[.string ab.data, .int .i64 ab.version, .int .i64 (wrap64 (ab.below + 1)), .int .i64 ab.owner, .int .i64 ab.made, .int .i64 ab.set, .int .i64 ab.serial] 33).mkc #[.string ⟨#[]⟩, .int .i64 0, .int .i64 0, .int .i64 0, .int .i64 0, .int .i64 0, .int .i64 0] 33).drew
        have H11 := Lib.hid H10
        clear H10
        go_wp2_with fail
        refine wp_still_tail 6 (by kernel_rfl) (by kernel_rfl) ?_
        simp only [List.take_succ_cons, List.take_zero, List.drop_succ_cons, List.drop_zero]
        repeat still_step
        refine wpStill_nil ?_
        refine wpList_mapUpdate (v := nodeV { ab with below := wrap64 (ab.below + 1) }) strK_same rfl _ _ _ 79 9 33 rfl Tryz.underlying79 Tryz.underlying9 ((Sep.f3 (H11.out))) rfl rfl rfl ?_
        intro w4 H12
        have H13 := ((Sep.f2 (Sep.f2 (H12)))).drop.drop.treePut
        obtain ⟨mb', H14⟩ := H13.tree
        obtain ⟨c0, cfz, clt⟩ := H14.c1
        have H15 := Lib.hid H14
        clear H12 H13 H14 hlk hlk2 hlen d0 fd ltb
        go_wp2_with (at_mapUpdate; refine Hid.out ?_)
        refine Lib.hid (wpList_mapUpdate (v := nodeV ⟨data, 0, 0, owner, whn, whn, 0⟩) strK_same rfl _ _ _ 79 9 33 rfl Tryz.underlying79 Tryz.underlying9 ((Sep.f1 (H15.out))) rfl rfl rfl ?_)
        intro w5 H16
        have H17 := H16.treePut
        rw [← HT2.out] at H17
        have H18 := Lib.hid H17
        clear H16 H17
        go_wp2
        go_ret2
        exact ⟨rfl, H18.out⟩
    | true =>
      simp only [if_true]
      have HS := Lib.hid (fun w l H => serial_any R w l HG.out s ab.serial (by omega) (by omega) H)
      have hsz := pathSerial_size s ab.serial (by omega)
      generalize pathSerial s ab.serial = s2 at *
      have HP2 := Lib.hid (fun w l H => check_any R w l HG.out s2 (by omega) H)
      unfold tcreate2
      generalize pathCheck s2 = pc at *
      by_cases h5 : pc = 0
      case neg =>
        rw [if_pos ⟨rfl, h5⟩]
        have hb5 : (pc != 0) = true := by simpa using h5
        clear h5
        go_enter Tryz.func144, Tryz.ntmps144
        go_wp2_with fail
        refine Calls.mono (HP.out _ _ H1.out) ?_
        rintro e w1 ⟨rfl, H2⟩
        have H3 := Lib.hid H2
        clear H2
        go_wp2_with fail
        refine Calls.mono (HU.out _ _ H3.out) ?_
        rintro e w2 ⟨rfl, H4⟩
        obtain ⟨mb, H5⟩ := H4.tree
        obtain ⟨d0, fd, ltb⟩ := H5.c1
        have hlk := run_lookup (P := Tryz.prog) (t := 79) (kt := 9) (e := 33) strK_same Tryz.underlying79 Tryz.underlying9 ((Sep.f1 (H5))) up (node_zero w2) true
        simp only [HGN.out, HGS.out, show ∀ x, strK.emb x = .string x from fun _ => rfl, if_true] at hlk
        unfold nodeV at hlk
        have H6 := Lib.hid H5
        clear H4 H5
        go_wp2_with fail
        clear hlk d0 fd ltb
        refine Calls.mono (HS.out _ _ (H6.out.mkc #[.string ab.data, .int .i64 ab.version, .int .i64 ab.below, .int .i64 ab.owner, .int .i64 ab.made, .int .i64 ab.set, .int .i64 ab.serial] 33)) ?_
        rintro e w3 ⟨rfl, H7⟩
        have H7b := Lib.hid H7
        clear H7 H6
        generalize w2.heap.size = na at *
        go_wp2_with fail
        refine Calls.mono (HP2.out _ _ H7b.out) ?_
        rintro e w4 ⟨rfl, H7⟩
        obtain ⟨n0, n1, n2, n3, n4, n5, n6, nfz, nlt⟩ := H7.c7
        obtain ⟨d0, fd, ltb⟩ := ((Sep.f1 (H7))).c1
        have H8 := Lib.hid H7
        clear H7 H7b
        go_wp2
        go_ret2
        exact ⟨rfl, H8.out.drop.mktree⟩
      rw [if_neg (fun h => h.2 h5)]
      subst h5
      cases hg2 : aget T s2 with
      | some nd =>
        have HGN2 : Hid ((aget (treeM T) s2).getD (nodeV nodeZ) = nodeV nd) := Lib.hid (by rw [treeM_get, hg2]; rfl)
        have HGS2 : Hid ((aget (treeM T) s2).isSome = true) := Lib.hid (by rw [treeM_get, hg2]; rfl)
        rw [if_pos (by rfl)]
        clear hg2
        go_enter Tryz.func144, Tryz.ntmps144
        go_wp2_with fail
        refine Calls.mono (HP.out _ _ H1.out) ?_
        rintro e w1 ⟨rfl, H2⟩
        have H3 := Lib.hid H2
        clear H2
        go_wp2_with fail
        refine Calls.mono (HU.out _ _ H3.out) ?_
        rintro e w2 ⟨rfl, H4⟩
        obtain ⟨mb, H5⟩ := H4.tree
        obtain ⟨d0, fd, ltb⟩ := H5.c1
        have hlk := run_lookup (P := Tryz.prog) (t := 79) (kt := 9) (e := 33) strK_same Tryz.underlying79 Tryz.underlying9 ((Sep.f1 (H5))) up (node_zero w2) true
        simp only [HGN.out, HGS.out, show ∀ x, strK.emb x = .string x from fun _ => rfl, if_true] at hlk
        unfold nodeV at hlk
        have H6 := Lib.hid H5
        clear H4 H5
        go_wp2_with fail
        clear hlk d0 fd ltb
        refine Calls.mono (HS.out _ _ (H6.out.mkc #[.string ab.data, .int .i64 ab.version, .int .i64 ab.below, .int .i64 ab.owner, .int .i64 ab.made, .int .i64 ab.set, .int .i64 ab.serial] 33)) ?_
        rintro e w3 ⟨rfl, H7⟩
        have H7b := Lib.hid H7
        clear H7 H6
        generalize w2.heap.size = na at *
        go_wp2_with fail
        refine Calls.mono (HP2.out _ _ H7b.out) ?_
        rintro e w4 ⟨rfl, H7⟩
        obtain ⟨n0, n1, n2, n3, n4, n5, n6, nfz, nlt⟩ := H7.c7
        obtain ⟨d0, fd, ltb⟩ := ((Sep.f1 (H7))).c1
        have H8 := Lib.hid H7
        clear H7 H7b
        have hlk2 := run_lookup (P := Tryz.prog) (t := 79) (kt := 9) (e := 33) strK_same Tryz.underlying79 Tryz.underlying9 ((Sep.f2 (H8.out))) s2 (node_zero _) true
        simp only [HGN2.out, HGS2.out, show ∀ x, strK.emb x = .string x from fun _ => rfl, if_true] at hlk2
        unfold nodeV at hlk2
        go_wp2
        go_ret2
        exact ⟨rfl, (H8.out.mkc _ _).drop.drop.mktree⟩
      | none =>
        have HGN2 : Hid ((aget (treeM T) s2).getD (nodeV nodeZ) = nodeV nodeZ) := Lib.hid (by rw [treeM_get, hg2]; rfl)
        have HGS2 : Hid ((aget (treeM T) s2).isSome = false) := Lib.hid (by rw [treeM_get, hg2]; rfl)
        rw [if_neg (by simp)]
        clear hg2
        by_cases h5 : 60 ≤ T.length
        · rw [if_pos h5]
          have h5i : 60 ≤ (T.length : Int) := by omega
          go_enter Tryz.func144, Tryz.ntmps144
          go_wp2_with fail
          refine Calls.mono (HP.out _ _ H1.out) ?_
          rintro e w1 ⟨rfl, H2⟩
          have H3 := Lib.hid H2
          clear H2
          go_wp2_with fail
          refine Calls.mono (HU.out _ _ H3.out) ?_
          rintro e w2 ⟨rfl, H4⟩
          obtain ⟨mb, H5⟩ := H4.tree
          obtain ⟨d0, fd, ltb⟩ := H5.c1
          have hlk := run_lookup (P := Tryz.prog) (t := 79) (kt := 9) (e := 33) strK_same Tryz.underlying79 Tryz.underlying9 ((Sep.f1 (H5))) up (node_zero w2) true
          simp only [HGN.out, HGS.out, show ∀ x, strK.emb x = .string x from fun _ => rfl, if_true] at hlk
          unfold nodeV at hlk
          have H6 := Lib.hid H5
          clear H4 H5
          go_wp2_with fail
          clear hlk d0 fd ltb
          refine Calls.mono (HS.out _ _ (H6.out.mkc #[.string ab.data, .int .i64 ab.version, .int .i64 ab.below, .int .i64 ab.owner, .int .i64 ab.made, .int .i64 ab.set, .int .i64 ab.serial] 33)) ?_
          rintro e w3 ⟨rfl, H7⟩
          have H7b := Lib.hid H7
          clear H7 H6
          generalize w2.heap.size = na at *
          go_wp2_with fail
          refine Calls.mono (HP2.out _ _ H7b.out) ?_
          rintro e w4 ⟨rfl, H7⟩
          obtain ⟨n0, n1, n2, n3, n4, n5, n6, nfz, nlt⟩ := H7.c7
          obtain ⟨d0, fd, ltb⟩ := ((Sep.f1 (H7))).c1
          have H8 := Lib.hid H7
          clear H7 H7b
          have hlk2 := run_lookup (P := Tryz.prog) (t := 79) (kt := 9) (e := 33) strK_same Tryz.underlying79 Tryz.underlying9 ((Sep.f2 (H8.out))) s2 (node_zero _) true
          simp only [HGN2.out, HGS2.out, show ∀ x, strK.emb x = .string x from fun _ => rfl, if_true] at hlk2
          unfold nodeV nodeZ at hlk2
          have H9 := H8.out.mkc #[.string ⟨#[]⟩, .int .i64 0, .int .i64 0, .int .i64 0, .int .i64 0, .int .i64 0, .int .i64 0] 33
          have hlen := fun ty => run_lenMap (P := Tryz.prog) (ty := ty) Tryz.underlying79 ((Sep.f3 (H9)))
          simp only [HLn.out] at hlen
          have H9 := Lib.hid H9
          go_wp2
          go_ret2
          exact ⟨rfl, ((Sep.f1 (Sep.f1 (H9.out)))).drop.drop.mktree⟩
        rw [if_neg h5]
        have h5i : ¬ 60 ≤ (T.length : Int) := by omega
        have HT2 : Hid (tcreated T up s2 data owner whn true ab = aput (aput T up { ab with below := wrap64 (ab.below + 1), serial := wrap64 (ab.serial + 1) }) s2 ⟨data, 0, 0, owner, whn, whn, 0⟩) := Lib.hid rfl
        generalize tcreated T up s2 data owner whn true ab = T2 at *
        go_enter Tryz.func144, Tryz.ntmps144
        go_wp2_with fail
        refine Calls.mono (HP.out _ _ H1.out) ?_
        rintro e w1 ⟨rfl, H2⟩
        have H3 := Lib.hid H2
        clear H2
        go_wp2_with fail
        refine Calls.mono (HU.out _ _ H3.out) ?_
        rintro e w2 ⟨rfl, H4⟩
        obtain ⟨mb, H5⟩ := H4.tree
        obtain ⟨d0, fd, ltb⟩ := H5.c1
        have hlk := run_lookup (P := Tryz.prog) (t := 79) (kt := 9) (e := 33) strK_same Tryz.underlying79 Tryz.underlying9 ((Sep.f1 (H5))) up (node_zero w2) true
        simp only [HGN.out, HGS.out, show ∀ x, strK.emb x = .string x from fun _ => rfl, if_true] at hlk
        unfold nodeV at hlk
        have H6 := Lib.hid H5
        clear H4 H5
        go_wp2_with fail
        clear hlk d0 fd ltb
        refine Calls.mono (HS.out _ _ (H6.out.mkc #[.string ab.data, .int .i64 ab.version, .int .i64 ab.below, .int .i64 ab.owner, .int .i64 ab.made, .int .i64 ab.set, .int .i64 ab.serial] 33)) ?_
        rintro e w3 ⟨rfl, H7⟩
        have H7b := Lib.hid H7
        clear H7 H6
        generalize w2.heap.size = na at *
        go_wp2_with fail
        refine Calls.mono (HP2.out _ _ H7b.out) ?_
        rintro e w4 ⟨rfl, H7⟩
        obtain ⟨n0, n1, n2, n3, n4, n5, n6, nfz, nlt⟩ := H7.c7
        obtain ⟨d0, fd, ltb⟩ := ((Sep.f1 (H7))).c1
        have H8 := Lib.hid H7
        clear H7 H7b
        have hlk2 := run_lookup (P := Tryz.prog) (t := 79) (kt := 9) (e := 33) strK_same Tryz.underlying79 Tryz.underlying9 ((Sep.f2 (H8.out))) s2 (node_zero _) true
        simp only [HGN2.out, HGS2.out, show ∀ x, strK.emb x = .string x from fun _ => rfl, if_true] at hlk2
        unfold nodeV nodeZ at hlk2
        have H9 := H8.out.mkc #[.string ⟨#[]⟩, .int .i64 0, .int .i64 0, .int .i64 0, .int .i64 0, .int .i64 0, .int .i64 0] 33
        have hlen := fun ty => run_lenMap (P := Tryz.prog) (ty := ty) Tryz.underlying79 ((Sep.f3 (H9)))
        simp only [HLn.out] at hlen
        have H9 := Lib.hid H9
        have H10 := ((((H8.out.st 6 (.int .i64 (wrap64 (ab.serial + 1)))).st 2 (.int .i64 (wrap64 (ab.below + 1)))).mkc #[.string ⟨#[]⟩, .int .i64 0, .int .i64 0, .int .i64 0, .int .i64 0, .int .i64 0, .int .i64 0] 33).drew)
        obtain ⟨f0, f1, f2, f3, f4, f5, f6, ffz, flt⟩ := ((Sep.f1 (H10))).c7
        obtain ⟨k0, kfz, klt⟩ := ((Sep.f2 (H10))).c1
        have H11 := Lib.hid H10
        clear H10
        go_wp2_with fail
        refine wp_still_tail 6 (by kernel_rfl) (by kernel_rfl) ?_
        simp only [List.take_succ_cons, List.take_zero, List.drop_succ_cons, List.drop_zero]
        repeat still_step
        refine wpStill_nil ?_
        refine wpList_mapUpdate (v := nodeV { ab with below := wrap64 (ab.below + 1), serial := wrap64 (ab.serial + 1) }) strK_same rfl _ _ _ 79 9 33 rfl Tryz.underlying79 Tryz.underlying9 ((Sep.f3 (H11.out))) rfl rfl rfl ?_
        intro w4 H12
        have H13 := ((Sep.f2 (Sep.f2 (H12)))).drop.drop.treePut
        obtain ⟨mb', H14⟩ := H13.tree
        obtain ⟨c0, cfz, clt⟩ := H14.c1
        have H15 := Lib.hid H14
        clear H12 H13 H14 hlk2 hlen d0 fd ltb
        go_wp2_with (at_mapUpdate; refine Hid.out ?_)
        refine Lib.hid (wpList_mapUpdate (v := nodeV ⟨data, 0, 0, owner, whn, whn, 0⟩) strK_same rfl _ _ _ 79 9 33 rfl Tryz.underlying79 Tryz.underlying9 ((Sep.f1 (H15.out))) rfl rfl rfl ?_)
        intro w5 H16
        have H17 := H16.treePut
        rw [← HT2.out] at H17
        have H18 := Lib.hid H17
        clear H16 H17
        go_wp2
        go_ret2
        exact ⟨rfl, H18.out⟩
end Go.Proofs.YtpeflgfldbjflaaGreatDoor
end
