/- WHAT IS PROVED HERE: Package sess: what each function of its table comes to. -/
import Derived.Test.YtpeflgfldbjflaaGreatDoorG05
import Derived.Test.YtpeflgfldbjflaaGreatDoorG12
import Derived.Maps.OwnOps
set_option linter.unusedVariables false
set_option linter.unusedSimpArgs false
set_option linter.unusedSectionVars false
set_option linter.unnecessarySimpa false
section
namespace Go.Orch
open Go.RowKit
section
variable {α β γ : Type} [DecidableEq α]
theorem aget_map (f : β → γ) (k : α) : ∀ m : List (α × β), aget (m.map fun x => (x.1, f x.2)) k = (aget m k).map f
  | [] => rfl
  | (x, v) :: m => by
    simp only [List.map_cons, aget]
    by_cases h : x = k
    · simp [h]
    · simp [h, aget_map f k m]
theorem aput_map (f : β → γ) (k : α) (u : β) : ∀ m : List (α × β), aput (m.map fun x => (x.1, f x.2)) k (f u) = (aput m k u).map fun x => (x.1, f x.2)
  | [] => rfl
  | (x, v) :: m => by
    simp only [List.map_cons, aput]
    by_cases h : x = k
    · simp [h]
    · simp [h, aput_map f k u m]
theorem adel_map (f : β → γ) (k : α) : ∀ m : List (α × β), adel (m.map fun x => (x.1, f x.2)) k = (adel m k).map fun x => (x.1, f x.2)
  | [] => rfl
  | (x, v) :: m => by
    simp only [List.map_cons, adel]
    by_cases h : x = k
    · simp [h]
    · simp [h, adel_map f k m]
end
structure SessV where
  req : Int
  ans : ByteArray
abbrev Tab := List (Int × SessV)
def sessV (s : SessV) : Value := .agg #[.int .i64 s.req, .string s.ans]
def tabM (T : Tab) : List (Int × Value) := T.map fun x => (x.1, sessV x.2)
def tabAt (b : Nat) (T : Tab) : HP := fun h => ∃ mb, sepl [cellsAt b #[.map (some mb)], mapAt intK mb (tabM T)] h
theorem Sep.tab {R w : World} {l : List HP} {b : Nat} {T : Tab} (H : Sep R w (tabAt b T :: l)) : ∃ mb, Sep R w (cellsAt b #[.map (some mb)] :: mapAt intK mb (tabM T) :: l) := by
  obtain ⟨mb, H⟩ := H.ex
  exact ⟨mb, H.apart⟩
theorem Sep.mktab {R w : World} {l : List HP} {b mb : Nat} {T : Tab} (H : Sep R w (cellsAt b #[.map (some mb)] :: mapAt intK mb (tabM T) :: l)) : Sep R w (tabAt b T :: l) :=
  Sep.mkex mb (Sep.join (l' := [cellsAt b #[.map (some mb)], mapAt intK mb (tabM T)]) H)
theorem Sep.tabPut {R w : World} {l : List HP} {b mb : Nat} {T : Tab} {id : Int} {s : SessV} (H : Sep R w (mapAt intK mb (aput (tabM T) id (sessV s)) :: cellsAt b #[.map (some mb)] :: l)) : Sep R w (tabAt b (aput T id s) :: l) := by
  unfold tabM at H
  rw [aput_map sessV id s T] at H
  exact H.swap.mktab
def Tab.has (T : Tab) (id : Int) : Bool := (aget T id).isSome
def Tab.seen (T : Tab) (id req : Int) : ByteArray × Bool × Int :=
  match aget T id with
  | none => (⟨#[]⟩, false, 17)
  | some s => if req < 1 ∨ 281474976710655 < req then (⟨#[]⟩, false, 1) else if req < s.req then (⟨#[]⟩, false, 18) else if req = s.req then (s.ans, true, 0) else (⟨#[]⟩, false, 0)
def Tab.open_ (T : Tab) (id : Int) : Int × Tab :=
  if id < 1 ∨ 281474976710655 < id then (1, T) else if T.has id then (12, T) else if 16 ≤ T.length then (16, T) else (0, aput T id ⟨0, ⟨#[]⟩⟩)
def Tab.close (T : Tab) (id : Int) : Int × Tab := if T.has id then (0, adel T id) else (17, T)
def Tab.keep (T : Tab) (id req : Int) (ans : ByteArray) : Int × Tab :=
  if (T.seen id req).2.2 ≠ 0 then ((T.seen id req).2.2, T) else if (T.seen id req).2.1 then (18, T) else if 400 < ans.size then (3, T) else (0, aput T id ⟨req, ans⟩)
end Go.Orch
namespace Go.Proofs.YtpeflgfldbjflaaGreatDoor
open Go.RowKit Go.Orch
theorem sess_zero (w : World) : (zeroValue 125).run Tryz.prog w = .ok (.agg #[.int .i64 0, .string ⟨#[]⟩]) w := by kernel_rfl
theorem sessNew_any (R w : World) (l : List HP) (H : Sep R w l) :
    Calls Tryz.prog 43 #[] w fun e w' => ∃ b, e = .returned (.pointer (some ⟨b, 0, none⟩)) ∧ Sep R w' (tabAt b [] :: l) := by
  have post : ∀ e w', (e = Ending.returned (.pointer (some ⟨w.heap.size + 1, 0, none⟩)) ∧ w' = (w.alloc (.map #[] 0)).alloc (.cells #[.map (some w.heap.size)] 128)) → ∃ b, e = Ending.returned (.pointer (some ⟨b, 0, none⟩)) ∧ Sep R w' (tabAt b [] :: l) := by
    rintro e w' ⟨rfl, rfl⟩
    have H1 := H.alloc (.map #[] 0)
    have H2 := (H1.mkmap (K := intK) (m := []) (es := #[]) rfl (by simp) (by simp)).mkc #[.map (some w.heap.size)] 128
    rw [World.size_alloc] at H2
    exact ⟨_, rfl, H2.mktab⟩
  refine Calls.mono ?_ post
  clear post H
  have hmm := @run_makeMap Tryz.prog
  go_enter Tryz.func43, Tryz.ntmps43
  go_wp2
  go_ret
  exact ⟨rfl, rfl⟩
theorem sessHas_any (R w : World) (l : List HP) (b : Nat) (T : Tab) (id : Int) (H : Sep R w (tabAt b T :: l)) :
    Calls Tryz.prog 66 #[.pointer (some ⟨b, 0, none⟩), .int .i64 id] w fun e w' => e = .returned (.bool (T.has id)) ∧ Sep R w' (tabAt b T :: l) := by
  obtain ⟨mb, H1⟩ := H.tab
  have c0 : w.cell? ⟨b, 0, none⟩ = some (.map (some mb)) := H1.c 0 rfl
  have H2 := Lib.hid H1.swap
  have H0 := Lib.hid H
  clear H H1
  have hr : aget (tabM T) id = (aget T id).map sessV := aget_map sessV id T
  unfold Tab.has
  cases hg : aget T id with
  | none =>
    rw [hg] at hr
    have HR := Lib.hid hr
    clear hr hg
    go_enter Tryz.func66, Tryz.ntmps66
    go_wp2_with (at_lookup; refine Hid.out ?_)
    refine Lib.hid (wpList_lookup intK_same rfl _ _ 126 3 125 true rfl Tryz.underlying126 Tryz.underlying3 sess_zero H2.out rfl rfl none HR.out ?_)
    go_wp2
    go_ret
    exact ⟨rfl, (H0.out.alloc _).drop⟩
  | some s =>
    rw [hg] at hr
    have HR := Lib.hid hr
    clear hr hg
    go_enter Tryz.func66, Tryz.ntmps66
    go_wp2_with (at_lookup; refine Hid.out ?_)
    refine Lib.hid (wpList_lookup intK_same rfl _ _ 126 3 125 true rfl Tryz.underlying126 Tryz.underlying3 sess_zero H2.out rfl rfl (some (sessV s)) HR.out ?_)
    unfold sessV
    go_wp2
    go_ret
    exact ⟨rfl, (H0.out.alloc _).drop⟩
set_option maxRecDepth 100000 in
set_option maxHeartbeats 400000 in
theorem sessOpen_any (R w : World) (l : List HP) (b : Nat) (T : Tab) (id : Int) (H : Sep R w (tabAt b T :: l)) :
    Calls Tryz.prog 76 #[.pointer (some ⟨b, 0, none⟩), .int .i64 id] w fun e w' => e = .returned (.int .i64 (T.open_ id).1) ∧ Sep R w' (tabAt b (T.open_ id).2 :: l) := by
  unfold Tab.open_
  have H0 := Lib.hid H
  by_cases h1 : id < 1
  · rw [if_pos (.inl h1)]
    clear H
    go_enter Tryz.func76, Tryz.ntmps76
    go_wp2
    go_ret
    exact ⟨rfl, H0.out⟩
  by_cases h2 : 281474976710655 < id
  · rw [if_pos (.inr h2)]
    clear H
    go_enter Tryz.func76, Tryz.ntmps76
    go_wp2
    go_ret
    exact ⟨rfl, H0.out⟩
  rw [if_neg (by omega)]
  have HH := Lib.hid (sessHas_any R w l b T id H)
  clear H
  by_cases h3 : T.has id = true
  · rw [if_pos h3]
    rw [h3] at HH
    clear h3
    go_enter Tryz.func76, Tryz.ntmps76
    go_wp2_with fail
    refine HH.out.mono ?_
    rintro e w1 ⟨rfl, H1⟩
    have H2 := Lib.hid H1; clear H1
    go_wp2
    go_ret
    exact ⟨rfl, H2.out⟩
  · rw [if_neg h3]
    have h3' : T.has id = false := by simpa using h3
    rw [h3'] at HH
    clear h3 h3'
    by_cases h4 : 16 ≤ T.length
    · rw [if_pos h4]
      go_enter Tryz.func76, Tryz.ntmps76
      go_wp2_with fail
      refine HH.out.mono ?_
      rintro e w1 ⟨rfl, H1⟩
      have H2 := Lib.hid H1
      obtain ⟨mb, H3⟩ := H1.tab
      have c0 : w1.cell? ⟨b, 0, none⟩ = some (.map (some mb)) := H3.c 0 rfl
      have H4 := Lib.hid H3
      have hl := run_lenMap (P := Tryz.prog) (ty := 3) Tryz.underlying126 H3.swap
      rw [show (tabM T).length = T.length by simp [tabM]] at hl
      clear H1 H3
      go_wp2
      go_ret
      exact ⟨rfl, H2.out⟩
    · rw [if_neg h4]
      go_enter Tryz.func76, Tryz.ntmps76
      go_wp2_with fail
      refine HH.out.mono ?_
      rintro e w1 ⟨rfl, H1⟩
      have H2 := Lib.hid H1
      obtain ⟨mb, H3⟩ := H1.tab
      have c0 : w1.cell? ⟨b, 0, none⟩ = some (.map (some mb)) := H3.c 0 rfl
      have H4 := Lib.hid H3
      have hl := run_lenMap (P := Tryz.prog) (ty := 3) Tryz.underlying126 H3.swap
      rw [show (tabM T).length = T.length by simp [tabM]] at hl
      clear H1 H3
      go_wp2_with (at_mapUpdate; refine Hid.out ?_)
      refine Lib.hid (wpList_mapUpdate (v := sessV ⟨0, ⟨#[]⟩⟩) intK_same rfl _ _ _ 126 3 125 rfl Tryz.underlying126 Tryz.underlying3 H4.out.swap rfl rfl rfl ?_)
      intro w2 H5
      have H7 := Lib.hid H5.tabPut
      clear H5
      go_wp2
      go_ret
      exact ⟨rfl, H7.out⟩
set_option maxRecDepth 100000 in
theorem sessClose_any (R w : World) (l : List HP) (b : Nat) (T : Tab) (id : Int) (H : Sep R w (tabAt b T :: l)) :
    Calls Tryz.prog 107 #[.pointer (some ⟨b, 0, none⟩), .int .i64 id] w fun e w' => e = .returned (.int .i64 (T.close id).1) ∧ Sep R w' (tabAt b (T.close id).2 :: l) := by
  unfold Tab.close
  have HH := Lib.hid (sessHas_any R w l b T id H)
  clear H
  by_cases h3 : T.has id = true
  · rw [if_pos h3]
    rw [h3] at HH
    clear h3
    go_enter Tryz.func107, Tryz.ntmps107
    go_wp2_with fail
    refine HH.out.mono ?_
    rintro e w1 ⟨rfl, H1⟩
    obtain ⟨mb, H3⟩ := H1.tab
    have c0 : w1.cell? ⟨b, 0, none⟩ = some (.map (some mb)) := H3.c 0 rfl
    have H4 := Lib.hid H3
    obtain ⟨w2, hdel, H5⟩ := run_delete (P := Tryz.prog) (ty := 0) (t2 := 3) intK_same Tryz.underlying126 Tryz.underlying3 H3.swap id
    simp only [show ∀ n : Int, intK.emb n = .int .i64 n from fun _ => rfl] at hdel
    clear H1 H3
    have H6 : Sep R w2 (tabAt b (adel T id) :: l) := by
      have := adel_map sessV id T
      unfold tabM at H5
      rw [this] at H5
      exact H5.swap.mktab
    have H7 := Lib.hid H6
    clear H5 H6
    go_wp2
    go_ret
    exact ⟨rfl, H7.out⟩
  · rw [if_neg h3]
    have h3' : T.has id = false := by simpa using h3
    rw [h3'] at HH
    clear h3 h3'
    go_enter Tryz.func107, Tryz.ntmps107
    go_wp2_with fail
    refine HH.out.mono ?_
    rintro e w1 ⟨rfl, H1⟩
    have H2 := Lib.hid H1; clear H1
    go_wp2
    go_ret
    exact ⟨rfl, H2.out⟩
set_option maxHeartbeats 1000000 in
theorem sessSeen_any (R w : World) (l : List HP) (b : Nat) (T : Tab) (id req : Int) (H : Sep R w (tabAt b T :: l)) :
    Calls Tryz.prog 37 #[.pointer (some ⟨b, 0, none⟩), .int .i64 id, .int .i64 req] w fun e w' => e = .returned (.tuple #[.string (T.seen id req).1, .bool (T.seen id req).2.1, .int .i64 (T.seen id req).2.2]) ∧ Sep R w' (tabAt b T :: l) := by
  have HH := Lib.hid (sessHas_any R w l b T id H)
  unfold Tab.seen
  clear H
  unfold Tab.has at HH
  cases hg : aget T id with
  | none =>
    rw [hg] at HH
    clear hg
    go_enter Tryz.func37, Tryz.ntmps37
    go_wp2_with fail
    refine HH.out.mono ?_
    rintro e w1 ⟨rfl, H1⟩
    have H2 := Lib.hid H1; clear H1
    go_wp2
    go_ret3
    exact ⟨rfl, H2.out⟩
  | some s =>
    rw [hg] at HH
    have hr : aget (tabM T) id = some (sessV s) := by rw [show aget (tabM T) id = (aget T id).map sessV from aget_map sessV id T, hg]; rfl
    have HR := Lib.hid hr
    clear hg hr
    simp only
    by_cases h1 : req < 1
    · rw [if_pos (.inl h1)]
      go_enter Tryz.func37, Tryz.ntmps37
      go_wp2_with fail
      refine HH.out.mono ?_
      rintro e w1 ⟨rfl, H1⟩
      have H2 := Lib.hid H1; clear H1
      go_wp2
      go_ret3
      exact ⟨rfl, H2.out⟩
    by_cases h2 : 281474976710655 < req
    · rw [if_pos (.inr h2)]
      go_enter Tryz.func37, Tryz.ntmps37
      go_wp2_with fail
      refine HH.out.mono ?_
      rintro e w1 ⟨rfl, H1⟩
      have H2 := Lib.hid H1; clear H1
      go_wp2
      go_ret3
      exact ⟨rfl, H2.out⟩
    rw [if_neg (by omega)]
    have hcase : (req < s.req) ∨ (¬ req < s.req ∧ req = s.req) ∨ (¬ req < s.req ∧ ¬ req = s.req) := by omega
    rcases hcase with h3 | ⟨h3, h4⟩ | ⟨h3, h4⟩
    · rw [if_pos h3]
      go_enter Tryz.func37, Tryz.ntmps37
      go_wp2_with fail
      refine HH.out.mono ?_
      rintro e w1 ⟨rfl, H1⟩
      have H2 := Lib.hid H1
      obtain ⟨mb, H3⟩ := H1.tab
      have c0 : w1.cell? ⟨b, 0, none⟩ = some (.map (some mb)) := H3.c 0 rfl
      have H4 := Lib.hid H3
      clear H1 H3
      go_wp2_with (at_lookup; refine Hid.out ?_)
      refine Lib.hid (wpList_lookup intK_same rfl _ _ 126 3 125 false rfl Tryz.underlying126 Tryz.underlying3 sess_zero H4.out.swap rfl rfl (some (sessV s)) HR.out ?_)
      unfold sessV
      go_wp2
      go_ret3
      exact ⟨rfl, (H2.out.alloc _).drop⟩
    · rw [if_neg h3, if_pos h4]
      have h5 : (req == s.req) = true := by simp [h4]
      clear h4
      go_enter Tryz.func37, Tryz.ntmps37
      go_wp2_with fail
      refine HH.out.mono ?_
      rintro e w1 ⟨rfl, H1⟩
      have H2 := Lib.hid H1
      obtain ⟨mb, H3⟩ := H1.tab
      have c0 : w1.cell? ⟨b, 0, none⟩ = some (.map (some mb)) := H3.c 0 rfl
      have H4 := Lib.hid H3
      clear H1 H3
      go_wp2_with (at_lookup; refine Hid.out ?_)
      refine Lib.hid (wpList_lookup intK_same rfl _ _ 126 3 125 false rfl Tryz.underlying126 Tryz.underlying3 sess_zero H4.out.swap rfl rfl (some (sessV s)) HR.out ?_)
      unfold sessV
      go_wp2
      go_ret3
      exact ⟨rfl, (H2.out.alloc _).drop⟩
    · rw [if_neg h3, if_neg h4]
      have h5 : (req == s.req) = false := by simp [h4]
      clear h4
      go_enter Tryz.func37, Tryz.ntmps37
      go_wp2_with fail
      refine HH.out.mono ?_
      rintro e w1 ⟨rfl, H1⟩
      have H2 := Lib.hid H1
      obtain ⟨mb, H3⟩ := H1.tab
      have c0 : w1.cell? ⟨b, 0, none⟩ = some (.map (some mb)) := H3.c 0 rfl
      have H4 := Lib.hid H3
      clear H1 H3
      go_wp2_with (at_lookup; refine Hid.out ?_)
      refine Lib.hid (wpList_lookup intK_same rfl _ _ 126 3 125 false rfl Tryz.underlying126 Tryz.underlying3 sess_zero H4.out.swap rfl rfl (some (sessV s)) HR.out ?_)
      unfold sessV
      go_wp2
      go_ret3
      exact ⟨rfl, (H2.out.alloc _).drop⟩
set_option maxRecDepth 100000 in
set_option maxHeartbeats 1000000 in
theorem sessKeep_any (R w : World) (l : List HP) (b : Nat) (T : Tab) (id req : Int) (ans : ByteArray) (H : Sep R w (tabAt b T :: l)) (hans : ans.size ≤ maxLen) :
    Calls Tryz.prog 80 #[.pointer (some ⟨b, 0, none⟩), .int .i64 id, .int .i64 req, .string ans] w fun e w' => e = .returned (.int .i64 (T.keep id req ans).1) ∧ Sep R w' (tabAt b (T.keep id req ans).2 :: l) := by
  have HH := Lib.hid (sessSeen_any R w l b T id req H)
  unfold Tab.keep
  unfold maxLen at hans
  clear H
  generalize T.seen id req = q at *
  obtain ⟨s, ag, er⟩ := q
  simp only at HH ⊢
  by_cases h1 : er = 0
  · have h2 : (er != 0) = false := by simp [h1]
    rw [if_neg (by simp [h1])]
    clear h1
    cases ag with
    | true =>
      rw [if_pos rfl]
      go_enter Tryz.func80, Tryz.ntmps80
      go_wp2_with fail
      refine HH.out.mono ?_
      rintro e w1 ⟨rfl, H1⟩
      have H2 := Lib.hid H1; clear H1
      go_wp2
      go_ret
      exact ⟨rfl, H2.out⟩
    | false =>
      rw [if_neg (by simp)]
      by_cases h3 : 400 < ans.size
      · rw [if_pos h3]
        go_enter Tryz.func80, Tryz.ntmps80
        go_wp2_with fail
        refine HH.out.mono ?_
        rintro e w1 ⟨rfl, H1⟩
        have H2 := Lib.hid H1; clear H1
        go_wp2
        go_ret
        exact ⟨rfl, H2.out⟩
      · rw [if_neg h3]
        go_enter Tryz.func80, Tryz.ntmps80
        go_wp2_with fail
        refine HH.out.mono ?_
        rintro e w1 ⟨rfl, H1⟩
        obtain ⟨mb, H3⟩ := H1.tab
        have c0 : w1.cell? ⟨b, 0, none⟩ = some (.map (some mb)) := H3.c 0 rfl
        have H4 := Lib.hid H3
        clear H1 H3
        go_wp2_with (at_mapUpdate; refine Hid.out ?_)
        refine Lib.hid (wpList_mapUpdate (v := sessV ⟨req, ans⟩) intK_same rfl _ _ _ 126 3 125 rfl Tryz.underlying126 Tryz.underlying3 H4.out.swap rfl rfl rfl ?_)
        intro w2 H5
        have H7 := Lib.hid H5.tabPut
        clear H5
        go_wp2
        go_ret
        exact ⟨rfl, H7.out⟩
  · have h2 : (er != 0) = true := by simp [h1]
    rw [if_pos h1]
    clear h1
    go_enter Tryz.func80, Tryz.ntmps80
    go_wp2_with fail
    refine HH.out.mono ?_
    rintro e w1 ⟨rfl, H1⟩
    have H2 := Lib.hid H1; clear H1
    go_wp2
    go_ret
    exact ⟨rfl, H2.out⟩
end Go.Proofs.YtpeflgfldbjflaaGreatDoor
end
