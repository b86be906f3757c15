/- WHAT IS PROVED HERE: Package state: crowded, Apply; Package state: Apply. -/
import Derived.Test.YtpeflgfldbjflaaGreatDoorG33
set_option linter.unusedVariables false
set_option linter.unusedSimpArgs false
set_option linter.unusedSectionVars false
set_option linter.unnecessarySimpa false
section
namespace Go.Orch
open Go.RowKit Go.Proofs
def stIds (S : StV) : List Int := sortI (S.tab.map (·.1))
def isCrowd (S : StV) (id : Int) : Bool := decide (5 < (S.book.eventsOf id).length)
def stCrowd (S : StV) (whn : Int) : Option StV := ((stIds S).find? (isCrowd S)).map fun id => stEnd S id whn
def stCrowds : Nat → StV → Int → StV
  | 0, S, _ => S
  | f + 1, S, whn => match stCrowd S whn with
    | none => S
    | some S' => stCrowds f S' whn
def stApply (S : StV) (text : ByteArray) : ResV × StV :=
  ((stCommand { S with at_ := S.at_ + 1 } (readCmd text).1 (S.at_ + 1)).1, stCrowds 17 (stCommand { S with at_ := S.at_ + 1 } (readCmd text).1 (S.at_ + 1)).2 (S.at_ + 1))
end Go.Orch
namespace Go.Proofs.YtpeflgfldbjflaaGreatDoor
open Go.RowKit Go.Orch Go.Shelf
set_option maxRecDepth 100000 in
set_option maxHeartbeats 4000000 in
theorem stCrowded_any (R w : World) (l : List HP) (G : GoodR R) (b n : Nat) (S : StV) (hS : S.ok n) (hn : n ≤ 80000000) (whn : Int) (H : Sep R w (stAt b S :: l)) :
    Calls Tryz.prog 50 #[.pointer (some ⟨b, 0, none⟩), .int .i64 whn] w fun e w' => e = .returned (.bool (stCrowd S whn).isSome) ∧ Sep R w' (stAt b ((stCrowd S whn).getD S) :: l) := by
  obtain ⟨tb, sb, bb, H1⟩ := H.st_
  obtain ⟨c0, c1, c2, c3, fz, lt⟩ := H1.c4
  have HA := Lib.hid (sessAll_any R w _ sb S.tab hS.2.1.1 ((Sep.f2 (H1))))
  have hlen : (stIds S).length ≤ 16 := by unfold stIds; rw [len_sortI, List.length_map]; exact hS.2.1.1.1
  unfold stCrowd
  have hids : stIds S = sortI (S.tab.map (·.1)) := rfl
  rw [← hids] at HA
  clear hids
  generalize stIds S = ids at *
  obtain ⟨fd, hfd⟩ : ∃ fd, fd = ids.find? (isCrowd S) := ⟨_, rfl⟩
  rw [← hfd]
  have HFd := Lib.hid hfd
  clear H H1 hfd
  go_enter Tryz.func50, Tryz.ntmps50
  go_wp2_with fail
  refine Calls.mono HA.out ?_
  rintro e w1 ⟨v, rfl, H2⟩
  obtain ⟨p, k, rfl⟩ := H2.listSlice
  have H3 := Lib.hid ((Sep.f1 (((Sep.f4 (Sep.f4 (Sep.f2 (Sep.f4 (H2)))))).mkst (S := S))))
  clear H2 HA c0 c1 c2 c3 fz lt
  go_wp2_with fail
  go_loopw [13] (fun i wr => ∃ j : Nat, j ≤ ids.length ∧ i = .int .i64 j ∧ (ids.drop j).find? (isCrowd S) = fd ∧ Sep R wr (listS (Value.int .i64) (.slice p ids.length k) ids :: stAt b S :: l)) (fun i _ => ids.length - (intOf i).toNat)
  case atStart => exact ⟨0, Nat.zero_le _, rfl, HFd.out.symm, H3.out⟩
  case round =>
    obtain ⟨j, hj, rfl, hfd, H4⟩ := hrel
    have HF := Lib.hid hfd
    clear hfd
    by_cases hlt : j < ids.length
    · have hlti : (j : Int) < (ids.length : Int) := by omega
      obtain ⟨ob, off, rfl, hc⟩ := H4.listElem j hlt
      have hfd := HF.out
      rw [List.drop_eq_getElem_cons hlt, List.find?_cons] at hfd
      have HF2 := Lib.hid hfd
      clear hfd HF
      generalize ids[j] = id at *
      obtain ⟨tb, sb, bb, H5⟩ := ((Sep.f1 (H4))).st_
      obtain ⟨c0, c1, c2, c3, fz, lt⟩ := H5.c4
      have HEv := Lib.hid (bookEvents_any R wr _ bb S.book id (by have := hS.2.2.1.2.1; omega) ((Sep.f3 (H5))))
      have hcr : isCrowd S id = decide (5 < (S.book.eventsOf id).length) := rfl
      have HCr := Lib.hid hcr
      have HSok := Lib.hid hS
      clear H4 H5 hcr hS
      generalize S.book.eventsOf id = evs at *
      by_cases h5 : 5 < evs.length
      · have h5i : 5 < (evs.length : Int) := by omega
        have hfd := HF2.out
        rw [HCr.out, decide_eq_true h5] at hfd
        have HF3 := Lib.hid hfd
        clear hfd HF2 HCr
        go_wp2_with fail
        refine Calls.mono HEv.out ?_
        rintro e w2 ⟨v, rfl, H6⟩
        obtain ⟨pe, ke, rfl⟩ := H6.recSlice
        have H7 := Lib.hid (((Sep.f4 (Sep.f4 (Sep.f4 (Sep.f1 (H6)))))).mkst (S := S))
        clear H6 c0 c1 c2 c3 fz lt hc
        go_wp2_with fail
        refine Calls.mono (stEnd_any R _ _ G b n S HSok.out (by omega) id whn H7.out) ?_
        rintro e w3 ⟨rfl, H8⟩
        have H9 := Lib.hid H8
        clear H8
        go_wp2
        go_ret
        rw [← HF3.out]
        refine ⟨rfl, ?_⟩
        exact ((Sep.f2 (Sep.f2 (H9.out)))).drop.drop
      · have h5i : ¬ 5 < (evs.length : Int) := by omega
        have hfd := HF2.out
        rw [HCr.out, decide_eq_false h5] at hfd
        have HF3 := Lib.hid hfd
        clear hfd HF2 HCr
        go_wp2_with fail
        refine Calls.mono HEv.out ?_
        rintro e w2 ⟨v, rfl, H6⟩
        obtain ⟨pe, ke, rfl⟩ := H6.recSlice
        have Z := ((Sep.f4 (Sep.f4 (Sep.f4 (Sep.f1 (H6)))))).mkst (S := S)
        have H7 := Lib.hid ((Sep.f1 (((Sep.f1 (Z))).drop)))
        clear H6 Z c0 c1 c2 c3 fz lt hc
        go_wp2_with fail
        go_roundw
        case rel => exact ⟨j + 1, hlt, by go_num, HF3.out, H7.out⟩
        case measure => simp [intOf]; omega
    · obtain rfl : j = ids.length := by omega
      have hlti : ¬ (ids.length : Int) < (ids.length : Int) := by omega
      have hfd := HF.out
      rw [List.drop_length] at hfd
      have HF2 := Lib.hid hfd
      have H5 := Lib.hid H4.drop
      clear hfd H4
      go_wp2
      go_ret
      rw [← HF2.out]
      exact ⟨rfl, H5.out⟩
end Go.Proofs.YtpeflgfldbjflaaGreatDoor
end
section
namespace Go.Orch
open Go.RowKit Go.Proofs
theorem readCmd_err (s : ByteArray) (h : (readCmd s).2 ≠ 0) : (readCmd s).1 = cmdZ := by
  unfold readCmd at *
  simp only at *
  split at h
  · simp at h
  · rename_i hc
    rw [if_neg hc]
theorem readCmd_bounds (s : ByteArray) : (readCmd s).1.ops.length ≤ 4 ∧ (∀ o ∈ (readCmd s).1.ops, o.path.size ≤ 100 ∧ o.data.size ≤ 100) ∧ (readCmd s).1.path.size ≤ 1000 := by
  unfold readCmd
  simp only
  split
  · rename_i hc
    have := right_ops hc.2.1
    exact ⟨this.1, fun o ho => by have := this.2.2 o ho; omega, by have := this.2.1; simp only at this ⊢; omega⟩
  · exact ⟨Nat.zero_le _, by intro o ho; simp [cmdZ] at ho, Nat.zero_le _⟩
theorem gone_tab (whn : Int) : ∀ (ss : List ByteArray) (S : StV), (ss.foldl (stGone whn) S).tab = S.tab
  | [], _ => rfl
  | s :: ss, S => by
    rw [List.foldl_cons, gone_tab whn ss]
    unfold stGone
    split <;> rfl
theorem crowd_less {S S' : StV} {whn : Int} (h : stCrowd S whn = some S') : S'.tab.length < S.tab.length := by
  unfold stCrowd at h
  cases hf : (stIds S).find? (isCrowd S) with
  | none => rw [hf] at h; simp at h
  | some id =>
    rw [hf] at h
    simp only [Option.map_some, Option.some.injEq] at h
    subst h
    have hm := List.mem_of_find?_eq_some hf
    unfold stIds at hm
    rw [mem_sortI] at hm
    show (((towned S.tree id).reverse.foldl (stGone whn) S).tab.close id).2.length < S.tab.length
    rw [gone_tab]
    unfold Tab.close Tab.has
    have hk : id ∈ akeys S.tab := hm
    have hs : (aget S.tab id).isSome = true := by
      cases hg : aget S.tab id with
      | some x => rfl
      | none =>
        exfalso
        obtain ⟨y, hy, e⟩ := List.mem_map.1 hk
        have := (aget_isSome_of_mem (m := S.tab) hk)
        rw [hg] at this
        simp at this
    rw [if_pos hs]
    have := adel_len_mem id S.tab hk
    show (adel S.tab id).length < _
    omega
theorem crowd_ok {S S' : StV} {n : Nat} (hS : S.ok n) {whn : Int} (h : stCrowd S whn = some S') : S'.ok (n + 2400) := by
  unfold stCrowd at h
  cases hf : (stIds S).find? (isCrowd S) with
  | none => rw [hf] at h; simp at h
  | some id =>
    rw [hf] at h
    simp only [Option.map_some, Option.some.injEq] at h
    subst h
    exact end_ok hS id whn
theorem crowds_ok (whn : Int) : ∀ (f : Nat) {S : StV} {n : Nat}, S.ok n → (stCrowds f S whn).ok (n + 2400 * f)
  | 0, _, _, h => h
  | f + 1, S, n, h => by
    show StV.ok (match stCrowd S whn with | none => S | some S' => stCrowds f S' whn) _
    cases hc : stCrowd S whn with
    | none => exact h.mono (by omega)
    | some S' =>
      have := crowds_ok whn f (crowd_ok h hc)
      exact this.mono (by omega)
theorem at_ok {S : StV} {n : Nat} (h : S.ok n) : StV.ok { S with at_ := S.at_ + 1 } (n + 1) :=
  ⟨h.1.mono (by omega), h.2.1, h.2.2.1.mono (by omega), by have := h.2.2.2.1; simp only; omega, by have := h.2.2.2.2; simp only; omega⟩
theorem apply_ok {S : StV} {n : Nat} (h : S.ok n) (hn : n ≤ 70000000) (text : ByteArray) : (stApply S text).2.ok (n + 50000) := by
  have hb := readCmd_bounds text
  have h1 := command_ok (at_ok h) (by omega) (readCmd text).1 (S.at_ + 1) hb.1 hb.2.1
  have h2 := crowds_ok (S.at_ + 1) 17 h1
  exact StV.ok.mono h2 (by omega)
end Go.Orch
end
