/- WHAT IS PROVED HERE: Package watch: Events; Package watch: slices.Clone, Book.Clone; Package watch: Book.Clone. -/
import Derived.Test.YtpeflgfldbjflaaGreatDoorG18
import Derived.Test.YtpeflgfldbjflaaGreatDoorG15
set_option linter.unusedVariables false
set_option linter.unusedSimpArgs false
set_option linter.unusedSectionVars false
set_option linter.unnecessarySimpa false
section
namespace Go.Proofs.YtpeflgfldbjflaaGreatDoor
open Go.RowKit Go.Orch Go.Shelf
set_option maxRecDepth 100000 in
set_option maxHeartbeats 1000000000 in
theorem bookEvents_any (R w : World) (l : List HP) (b : Nat) (B : BookV) (session : Int) (hE : B.events.length ≤ 1000000000) (H : Sep R w (bookAt b B :: l)) :
    Calls Tryz.prog 83 #[.pointer (some ⟨b, 0, none⟩), .int .i64 session] w fun e w' => ∃ v, e = .returned v ∧ Sep R w' (eventS v (B.eventsOf session) :: bookAt b B :: l) := by
  obtain ⟨wv, ev, mb, m, hm, H1⟩ := H.book
  obtain ⟨c0, c1, c2, fz, lt⟩ := H1.c3
  have HM := Lib.hid hm
  unfold BookV.eventsOf
  rcases ((Sep.f2 (H1))).recOpen with ⟨rfl, hx, _⟩ | ⟨eb, cap, pre, post, rfl, h1, h2, h3, h4, H2⟩
  · rw [hx]
    have H3 := Lib.hid (H.nilRec (sz := 5) (enc := eventC))
    clear H H1
    go_enter Tryz.func83, Tryz.ntmps83
    go_wp2_with fail
    refine wp_loop_rounds 1 ?_
    rw [rounds_succ]
    go_wp2
    go_ret
    exact ⟨_, rfl, H3.out⟩
  · have H3 := Lib.hid (H2.nilRec (sz := 5) (enc := eventC))
    clear H H1 H2 hm
    go_enter Tryz.func83, Tryz.ntmps83
    go_wp2_with fail
    go_loopw [5, 15] (fun v i wr => ∃ k : Nat, k ≤ B.events.length ∧ i = .int .i64 k ∧ Sep R wr (eventS v ((B.events.take k).filter fun e => decide (e.session = session)) :: rowE eb pre eventC B.events post :: cellsAt b #[wv, .slice (some ⟨eb, pre.length, none⟩) B.events.length cap, .map (some mb)] :: watchS wv B.watches :: mapAt intK mb (nosM m) :: l)) (fun _ i _ => B.events.length - (intOf i).toNat)
    case atStart => exact ⟨0, Nat.zero_le _, rfl, H3.out⟩
    case round =>
      obtain ⟨k, hk, rfl, H4⟩ := hrel
      by_cases hlt : k < B.events.length
      · obtain ⟨q0, q1, q2, q3, q4⟩ := ((Sep.f1 (H4))).elemV k hlt
        have HT := Lib.hid (List.take_succ_eq_append_getElem hlt)
        generalize B.events[k] = x at *
        have H5 := Lib.hid H4
        clear H4
        obtain ⟨wo, rfl⟩ : ∃ wo : World, wo = wr := ⟨_, rfl⟩
        have hlti : (k : Int) < (B.events.length : Int) := by omega
        by_cases hx : x.session = session
        · have hx1 : (x.session == session) = true := by simpa using hx
          have hf : (B.events.take (k + 1)).filter (fun e => decide (e.session = session)) = (B.events.take k).filter (fun e => decide (e.session = session)) ++ [x] := by
            rw [HT.out, List.filter_append]
            simp [hx]
          have HF := Lib.hid hf
          have hle : ((B.events.take k).filter fun e => decide (e.session = session)).length ≤ 1000000000 := by
            have h1 := List.length_filter_le (fun e : EventV => decide (e.session = session)) (B.events.take k)
            rw [List.length_take] at h1
            omega
          have HLE := Lib.hid hle
          clear hx hf hle
          go_wp2_with (at_builtin; refine Hid.out ?_)
          have H6 := (H5.out.mkc #[.int .i64 x.session, .int .i64 x.no, .string x.path, .int .i64 x.what, .int .i64 x.when] 110).mkc #[.int .i64 x.session, .int .i64 x.no, .string x.path, .int .i64 x.what, .int .i64 x.when] 110
          simp only [World.size_alloc] at H6
          refine Lib.hid (wpList_append_rec (sz := 5) (enc := eventC) (by decide) (fun _ => rfl) rfl _ _ 48 48 110 rfl Tryz.underlying48 Tryz.underlying48 (.inr ⟨_, rfl⟩) event_info rfl (news := [x]) rfl rfl (Src.cells _ 0 _ _ rfl (fun j v hj => H6.c (0 + j) (by simpa [eventC] using hj)) (by simp [eventC, Value.oneCell'])) ((Sep.f2 (H6))) ?c1 ?c2 ?_)
          case c1 => have := HLE.out; simp [maxLen]; omega
          case c2 => have := HLE.out; simp; omega
          intro v' w' H7
          have H8 := Lib.hid ((Sep.f2 (Sep.f2 (H7)))).drop.drop
          clear H6 H7
          go_wp2_with fail
          go_roundw
          case rel => exact ⟨k + 1, hlt, by go_num, by rw [HF.out]; exact H8.out⟩
          case measure => simp [intOf]; omega
        · have hx1 : (x.session == session) = false := by simpa using hx
          have hf : (B.events.take (k + 1)).filter (fun e => decide (e.session = session)) = (B.events.take k).filter (fun e => decide (e.session = session)) := by
            rw [HT.out, List.filter_append]
            simp [hx]
          have HF := Lib.hid hf
          clear hx hf
          go_wp2_with fail
          go_roundw
          case rel =>
            refine ⟨k + 1, hlt, by go_num, ?_⟩
            rw [HF.out]
            exact (H5.out.mkc _ _).drop
          case measure => simp [intOf]; omega
      · obtain rfl : k = B.events.length := by omega
        have hlti : ¬ (B.events.length : Int) < (B.events.length : Int) := by omega
        have H5 := Lib.hid H4
        clear H4
        go_wp2
        go_ret
        have H6 := H5.out
        rw [List.take_length] at H6
        refine ⟨_, rfl, ?_⟩
        have H7 := ((Sep.f1 (H6))).recClose (sz := 5) rfl h1 h2 h3 h4
        exact ((Sep.f4 (Sep.f4 (Sep.f1 (Sep.f4 (H7)))))).mkbook HM.out |>.swap
end Go.Proofs.YtpeflgfldbjflaaGreatDoor
end
section
namespace Go.Orch
open Go.RowKit
theorem Sep.rowCells {α : Type} {enc : α → List Value} {sz : Nat} {R w : World} {l : List HP} {b : Nat} {pre post : List Value} {ys : List α} (H : Sep R w (rowE b pre enc ys post :: l)) : ∀ j u, (ys.flatMap enc)[j]? = some u → w.cell? ⟨b, pre.length + j, none⟩ = some u := by
  intro j u hj
  refine H.c _ ?_
  have hlt : j < (ys.flatMap enc).length := (List.getElem?_eq_some_iff.1 hj).1
  rw [List.getElem?_toArray, List.append_assoc, List.getElem?_append_right (by omega), Nat.add_sub_cancel_left, List.getElem?_append_left hlt, hj]
end Go.Orch
namespace Go.Proofs.YtpeflgfldbjflaaGreatDoor
open Go.RowKit Go.Orch Go.Shelf
noncomputable def watchI : TypeInfo := (Tryz.prog.info? 144).get (by kernel_rfl)
noncomputable def eventI : TypeInfo := (Tryz.prog.info? 110).get (by kernel_rfl)
theorem cloneW_any (R w : World) (l : List HP) (v : Value) (xs : List WatchV) (hn : xs.length ≤ 1000000000) (H : Sep R w (watchS v xs :: l)) :
    Calls Tryz.prog 74 #[v] w fun e w' => ∃ v', e = .returned v' ∧ Sep R w' (watchS v' xs :: watchS v xs :: l) := by
  rcases H.recOpen with ⟨rfl, rfl, H1⟩ | ⟨b, cap, pre, post, rfl, h1, h2, h3, h4, H1⟩
  · refine Calls.mono (AnyE.slices_Clone_nil Tryz.cloneW 0 0 w) ?_
    rintro e w' ⟨rfl, rfl⟩
    exact ⟨_, rfl, H.nilRec⟩
  · refine Calls.mono (AnyE.slices_Clone Tryz.cloneW watchI (.agg #[.int .i64 0, .string ⟨#[]⟩, .bool false, .bool false]) 4 32 (by kernel_rfl) (by kernel_rfl) (by kernel_rfl) (by kernel_rfl) rfl (by decide) Tryz.sizeOf144 b pre.length xs.length cap (xs.flatMap watchC) w h4 (by simp [maxLen]; omega) (by omega) (H1.rowCells (sz := 4)) (by intro u hu; simp only [List.mem_flatMap] at hu; obtain ⟨x, _, hx⟩ := hu; simp only [watchC, List.mem_cons, List.not_mem_nil, or_false] at hx; rcases hx with rfl | rfl | rfl | rfl <;> rfl)) ?_
    rintro e w' ⟨v', rfl, hr, _, hb⟩
    exact ⟨v', rfl, H.row hb hr⟩
theorem cloneE_any (R w : World) (l : List HP) (v : Value) (xs : List EventV) (hn : xs.length ≤ 1000000000) (H : Sep R w (eventS v xs :: l)) :
    Calls Tryz.prog 75 #[v] w fun e w' => ∃ v', e = .returned v' ∧ Sep R w' (eventS v' xs :: eventS v xs :: l) := by
  rcases H.recOpen with ⟨rfl, rfl, H1⟩ | ⟨b, cap, pre, post, rfl, h1, h2, h3, h4, H1⟩
  · refine Calls.mono (AnyE.slices_Clone_nil Tryz.cloneE 0 0 w) ?_
    rintro e w' ⟨rfl, rfl⟩
    exact ⟨_, rfl, H.nilRec⟩
  · refine Calls.mono (AnyE.slices_Clone Tryz.cloneE eventI (.agg #[.int .i64 0, .int .i64 0, .string ⟨#[]⟩, .int .i64 0, .int .i64 0]) 5 48 (by kernel_rfl) (by kernel_rfl) (by kernel_rfl) (by kernel_rfl) rfl (by decide) Tryz.sizeOf110 b pre.length xs.length cap (xs.flatMap eventC) w h4 (by simp [maxLen]; omega) (by omega) (H1.rowCells (sz := 5)) (by intro u hu; simp only [List.mem_flatMap] at hu; obtain ⟨x, _, hx⟩ := hu; simp only [eventC, List.mem_cons, List.not_mem_nil, or_false] at hx; rcases hx with rfl | rfl | rfl | rfl | rfl <;> rfl)) ?_
    rintro e w' ⟨v', rfl, hr, _, hb⟩
    exact ⟨v', rfl, H.row hb hr⟩
end Go.Proofs.YtpeflgfldbjflaaGreatDoor
end
section
namespace Go.Orch
theorem adel_none {α β : Type} [DecidableEq α] (k : α) : ∀ (m : List (α × β)), k ∉ akeys m → adel m k = m
  | [], _ => rfl
  | (x, v) :: m, h => by
    have h2 : ¬ k = x ∧ k ∉ akeys m := by simpa [akeys] using h
    simp only [adel]
    rw [if_neg (fun e => h2.1 e.symm), adel_none k m h2.2]
end Go.Orch
namespace Go.Proofs.YtpeflgfldbjflaaGreatDoor
open Go.RowKit Go.Orch Go.Shelf
set_option maxRecDepth 100000 in
set_option maxHeartbeats 2000000 in
theorem bookClone_any (R w : World) (l : List HP) (b : Nat) (B : BookV) (hW : B.watches.length ≤ 1000000000) (hE : B.events.length ≤ 1000000000) (hN : B.nos.length ≤ 1000000000) (hnd : (akeys B.nos).Nodup) (H : Sep R w (bookAt b B :: l)) :
    Calls Tryz.prog 48 #[.pointer (some ⟨b, 0, none⟩)] w fun e w' => ∃ b', e = .returned (.pointer (some ⟨b', 0, none⟩)) ∧ Sep R w' (bookAt b' B :: bookAt b B :: l) := by
  obtain ⟨wv, ev, mb, m, hm, H1⟩ := H.book
  have HM := Lib.hid hm
  have HNew := Lib.hid (watchNew_any R w _ H1)
  clear H H1 hm
  go_enter Tryz.func48, Tryz.ntmps48
  go_wp2_with fail
  refine Calls.mono HNew.out ?_
  rintro e w1 ⟨b', rfl, H2⟩
  obtain ⟨wv0, ev0, mb', m0, hm0, H3⟩ := H2.book
  obtain ⟨p0, k0, rfl⟩ := ((Sep.f1 (H3))).recSlice
  obtain ⟨p1, k1, rfl⟩ := ((Sep.f2 (H3))).recSlice
  obtain ⟨p2, k2, rfl⟩ := ((Sep.f5 (H3))).recSlice
  obtain ⟨p3, k3, rfl⟩ := ((Sep.f6 (H3))).recSlice
  have hm1 : m0 = [] := List.perm_nil.1 hm0
  subst hm1
  have H4 := Lib.hid H3
  clear H2 H3 hm0
  go_wp2_with fail
  obtain ⟨s0, s1, s2, sfz, slt⟩ := ((Sep.f4 (H4.out.drew))).c3
  have hcw := Lib.hid (cloneW_any R w1.drew _ _ B.watches hW ((Sep.f5 (H4.out.drew))))
  go_region_held3 (fun w' => w'.cell? ⟨b, 0, none⟩ = some (.slice p2 B.watches.length k2) ∧ w'.cell? ⟨b, 1, none⟩ = some (.slice p3 B.events.length k3))
    (first
      | exact ⟨s0, s1⟩
      | exact ⟨((Sep.f6 (H5))).c3.1, ((Sep.f6 (H5))).c3.2.1⟩
      | exact ⟨((Sep.f8 (H6))).c3.1, ((Sep.f8 (H6))).c3.2.1⟩
      | exact (let X := ((Sep.f4 (H6))).st 0 _; ⟨((Sep.f8 (X))).c3.1, ((Sep.f8 (X))).c3.2.1⟩)
      | exact (let X := (((Sep.f4 (H6))).st 0 _).st 1 _; ⟨((Sep.f8 (X))).c3.1, ((Sep.f8 (X))).c3.2.1⟩))
    (first
      | (go_at_call 74; refine Calls.mono hcw.out ?_; rintro e w9 ⟨v9, rfl, H5⟩; obtain ⟨p9, k9, rfl⟩ := H5.recSlice)
      | (go_at_call 75; refine Calls.mono (cloneE_any R _ _ _ B.events hE ((Sep.f7 (H5)))) ?_; rintro e w10 ⟨v10, rfl, H6⟩; obtain ⟨p10, k10, rfl⟩ := H6.recSlice; obtain ⟨e0, e1, e2, efz, elt⟩ := ((Sep.f4 (H6))).c3))
  have X := (((Sep.f4 (H6))).st 0 (.slice p9 B.watches.length k9)).st 1 (.slice p10 B.events.length k10)
  obtain ⟨t0, t1, t2, tfz, tlt⟩ := ((Sep.f8 (H6))).c3
  obtain ⟨w11, r, hrange, H7⟩ := run_range (P := Tryz.prog) (t := 133) Tryz.underlying133 ((Sep.f9 (X)))
  have H8 := Lib.hid H7
  clear X H6 H5 H7 s0 s1 s2 sfz slt e0 e1 e2 efz elt
  go_wp2_with fail
  have H9 := Lib.hid ((Sep.f7 (Sep.f7 (Sep.f6 (Sep.f6 (Sep.f6 (Sep.f6 (Sep.f6 (Sep.f7 (((Sep.f7 (Sep.f7 (H8.out)))).drop.drop))))))))))
  clear H8 t0 t1 t2 tfz tlt hrange
  go_loopw [4] (fun _ wr => ∃ (done left out : List (Int × Int)), (done ++ left).Perm m ∧ out.Perm done ∧ Sep R wr (itAt intK mb r (nosM m) (nosM left) :: mapAt intK mb' (nosM out) :: cellsAt b' #[.slice p9 B.watches.length k9, .slice p10 B.events.length k10, .map (some mb')] :: eventS (.slice p10 B.events.length k10) B.events :: eventS (.slice p3 B.events.length k3) B.events :: watchS (.slice p9 B.watches.length k9) B.watches :: watchS (.slice p2 B.watches.length k2) B.watches :: cellsAt b #[.slice p2 B.watches.length k2, .slice p3 B.events.length k3, .map (some mb)] :: l)) (fun _ wr => itLeft wr mb r)
  case atStart => exact ⟨[], m, [], List.Perm.refl _, List.Perm.refl _, H9.out⟩
  case round =>
    obtain ⟨done, left, out, hperm, hout, H10⟩ := hrel
    have HPm := Lib.hid hperm
    have HOu := Lib.hid hout
    have H11 := Lib.hid H10
    obtain ⟨wo, rfl⟩ : ∃ wo : World, wo = wr := ⟨_, rfl⟩
    rcases run_next (P := Tryz.prog) H10 0 with ⟨hl0, hnext⟩ | ⟨l1, k, kv, l2, w3, hl, hnext, hentry, H12⟩
    · have hl1 : left = [] := by simpa [nosM] using hl0
      subst hl1
      clear H10 hperm hout hl0
      go_wp2
      go_ret
      have hp : out.Perm B.nos := HOu.out.trans ((by simpa using HPm.out : done.Perm m).trans HM.out)
      have H13 := ((Sep.f7 (Sep.f7 (Sep.f6 (Sep.f4 (Sep.f7 (Sep.f6 (Sep.f4 (H11.out)))))))))
      have H14 := ((Sep.f7 (H13))).itMap
      refine ⟨_, rfl, ?_⟩
      have H15 := ((Sep.f4 (Sep.f4 (Sep.f4 (Sep.f4 (H14)))))).mkbook (B := B) hp
      exact ((Sep.f1 (((Sep.f4 (Sep.f4 (Sep.f4 (Sep.f1 (H15)))))).mkbook (B := B) HM.out)))
    · obtain ⟨left1, lr, hle, e1, e2⟩ := List.map_eq_append_iff.1 hl
      obtain ⟨⟨k', nv⟩, left2, hl2, e3, e4⟩ := List.map_eq_cons_iff.1 e2
      injection e3 with e5 e6
      subst e5 e6 hl2 hle e1 e4
      have hp2 : ((done ++ [(k', nv)]) ++ (left1 ++ left2)).Perm m := by
        refine List.Perm.trans ?_ HPm.out
        rw [List.append_assoc]
        exact List.Perm.append_left done (by simpa using (List.perm_middle (a := (k', nv)) (l₁ := left1) (l₂ := left2)).symm)
      have HP2 := Lib.hid hp2
      have hct : itLeft w3 mb r < itLeft wo mb r := by rw [H12.itCount, H10.itCount]; simp [nosM]
      have HCT := Lib.hid hct
      have hentry' : (Instr.entry (.pointer (some ⟨r, 0, none⟩))).run Tryz.prog w3 = .ok (.tuple #[.int .i64 k', .int .i64 nv]) w3 := hentry
      have hnext' : (Instr.next (.pointer (some ⟨r, 0, none⟩)) false 0).run Tryz.prog wo = .ok (.tuple #[.bool true, .int .i64 k', .int .i64 nv]) w3 := hnext
      obtain ⟨t0, t1, t2, tfz, tlt⟩ := ((Sep.f2 (H12))).c3
      have H13 := Lib.hid H12
      have hnot : k' ∉ akeys done := by
        have hn : (akeys m).Nodup := (akeys_perm HM.out).nodup_iff.2 hnd
        have hn2 := (akeys_perm hp2).nodup_iff.2 hn
        simp only [akeys, List.map_append, List.map_cons, List.map_nil] at hn2 ⊢
        rw [List.append_assoc] at hn2
        have := (List.nodup_append.1 hn2).2.2
        intro hk
        exact this _ hk _ (by simp) rfl
      have HN := Lib.hid hnot
      clear H10 H12 hperm hout hl hp2 hct hnot hentry hnext e2
      go_wp2_with (at_mapUpdate; refine Hid.out ?_)
      refine Lib.hid (wpList_mapUpdate (v := .int .i64 nv) intK_same rfl _ _ _ 133 3 3 rfl Tryz.underlying133 Tryz.underlying3 ((Sep.f1 (H13.out))) rfl rfl rfl ?_)
      intro w4 H14
      have H15 : Sep R w4 (itAt intK mb r (nosM m) (nosM (left1 ++ left2)) :: mapAt intK mb' (nosM (aput out k' nv)) :: cellsAt b' #[.slice p9 B.watches.length k9, .slice p10 B.events.length k10, .map (some mb')] :: eventS (.slice p10 B.events.length k10) B.events :: eventS (.slice p3 B.events.length k3) B.events :: watchS (.slice p9 B.watches.length k9) B.watches :: watchS (.slice p2 B.watches.length k2) B.watches :: cellsAt b #[.slice p2 B.watches.length k2, .slice p3 B.events.length k3, .map (some mb)] :: l) := by
        have e := aput_map intV k' nv out
        have e2 : nosM left1 ++ nosM left2 = nosM (left1 ++ left2) := by simp [nosM]
        rw [show nosM (aput out k' nv) = aput (nosM out) k' (intV nv) from e.symm, ← e2]
        exact H14.swap
      have hc4 : itLeft w4 mb r < itLeft wo mb r := by
        have h1 := HCT.out
        rw [H13.out.itCount] at h1
        rw [H15.itCount]
        simpa [nosM] using h1
      have HC4 := Lib.hid hc4
      have H16 := Lib.hid H15
      clear H14 H15 hc4
      go_wp2_with fail
      go_roundw
      case rel =>
        repeat apply Exists.intro
        refine ⟨⟨done ++ [(k', nv)], left1 ++ left2, aput out k' nv, HP2.out, ?_, H16.out⟩, rfl⟩
        refine (aput_put k' nv out).trans ?_
        rw [adel_none k' out (fun h => HN.out ((akeys_perm HOu.out).subset h))]
        exact (HOu.out.cons _).trans (List.perm_append_singleton _ _).symm
      case measure => exact HC4.out
end Go.Proofs.YtpeflgfldbjflaaGreatDoor
end
