/- WHAT IS PROVED HERE: Plain laws on the judge's texts and bounds; head; The nodes' data is short, whatever was applied. No program in sight; JudgeReads: the walk behind its second judge. -/
import Derived.Test.YtpeflgfldbjflaaGreatDoorG40
import Derived.Test.YtpeflgfldbjflaaGreatDoorG42
set_option linter.unusedVariables false
set_option linter.unusedSimpArgs false
set_option linter.unusedSectionVars false
set_option linter.unnecessarySimpa false
section
namespace Go.Orch
open Go.RowKit Go.Proofs
def texM (ts : List ByteArray) : List (Int × ByteArray) := (ts.zipIdx 1).map fun x => ((x.2 : Int), x.1)
theorem texM_snoc (ts : List ByteArray) (t : ByteArray) : texM (ts ++ [t]) = texM ts ++ [((ts.length : Int) + 1, t)] := by
  simp [texM, List.zipIdx_append, Int.add_comm]
theorem aput_none {α β : Type} [DecidableEq α] (k : α) (v : β) : ∀ (m : List (α × β)), aget m k = none → aput m k v = m ++ [(k, v)]
  | [], _ => rfl
  | (x, u) :: m, h => by
    simp only [aget] at h
    by_cases hx : x = k
    · rw [if_pos hx] at h; simp at h
    · rw [if_neg hx] at h
      simp only [aput]
      rw [if_neg hx, aput_none k v m h]; rfl
theorem aget_app_none {α β : Type} [DecidableEq α] (k : α) (m' : List (α × β)) : ∀ (m : List (α × β)), aget m k = none → aget (m ++ m') k = aget m' k
  | [], _ => rfl
  | (x, u) :: m, h => by
    simp only [aget] at h
    by_cases hx : x = k
    · rw [if_pos hx] at h; simp at h
    · rw [if_neg hx] at h
      simp only [List.cons_append, aget]
      rw [if_neg hx]
      exact aget_app_none k m' m h
theorem texM_none (ts : List ByteArray) : ∀ i : Int, (ts.length : Int) < i → aget (texM ts) i = none := by
  refine snoc_ind (p := fun ts => ∀ i : Int, (ts.length : Int) < i → aget (texM ts) i = none) (fun _ _ => rfl) (fun l a ih i hi => ?_) ts
  rw [List.length_append] at hi
  simp only [List.length_cons, List.length_nil] at hi
  rw [texM_snoc, aget_app_none _ _ _ (ih i (by omega))]
  simp only [aget]
  rw [if_neg (by omega)]
theorem texM_put (ts : List ByteArray) (t : ByteArray) : aput (texM ts) ((ts.length : Int) + 1) t = texM (ts ++ [t]) := by
  rw [aput_none _ _ _ (texM_none ts _ (by omega)), texM_snoc]
theorem texM_some (ts : List ByteArray) : ∀ (i : Nat) (hi : i < ts.length), aget (texM ts) ((i : Int) + 1) = some ts[i] := by
  refine snoc_ind (p := fun ts => ∀ (i : Nat) (hi : i < ts.length), aget (texM ts) ((i : Int) + 1) = some ts[i]) (fun i hi => absurd hi (Nat.not_lt_zero _)) (fun l a ih i hi => ?_) ts
  by_cases h : i < l.length
  · have h1 := ih i h
    rw [texM_snoc]
    have : ∀ m : List (Int × ByteArray), aget m ((i : Int) + 1) = some l[i] → ∀ m', aget (m ++ m') ((i : Int) + 1) = some l[i] := by
      intro m
      induction m with
      | nil => intro h; simp [aget] at h
      | cons x m ihm =>
        obtain ⟨x1, x2⟩ := x
        intro h m'
        simp only [List.cons_append, aget] at h ⊢
        by_cases hx : x1 = (i : Int) + 1
        · rw [if_pos hx] at h ⊢; exact h
        · rw [if_neg hx] at h ⊢; exact ihm h m'
    rw [this _ h1, List.getElem_append_left h]
  · have hi2 : i = l.length := by rw [List.length_append] at hi; simp only [List.length_cons, List.length_nil] at hi; omega
    subst hi2
    rw [texM_snoc, aget_app_none _ _ _ (texM_none l _ (by omega))]
    simp [aget]
theorem hearFold_le (S : StV) (n : Nat) (hS : S.book.events.length ≤ n) : ∀ (ids : List Int) {E : EvM} {N : Nat}, evsLe E N → evsLe (ids.foldl (fun E id => hearAll E id (S.book.eventsOf id)) E) (N + ids.length * n)
  | [], E, N, h => by simpa using h
  | id :: ids, E, N, h => by
    have h1 := hearAll_le id (S.book.eventsOf id) h
    have h2 := hearFold_le S n hS ids h1
    refine fun x hx => Nat.le_trans (h2 x hx) ?_
    have h3 : (S.book.eventsOf id).length ≤ n := Nat.le_trans (List.length_filter_le _ _) hS
    rw [List.length_cons, Nat.add_mul]
    omega
theorem hear_le {E : EvM} {N n : Nat} (h : evsLe E N) {S : StV} (hS : S.ok n) : evsLe (hear_ E S) (N + 17 * n) := by
  have h1 := hearFold_le S n hS.2.2.1.2.1 (sortI (S.tab.map (·.1))) h
  have h2 : (sortI (S.tab.map (·.1))).length ≤ 16 := by rw [len_sortI, List.length_map]; exact hS.2.1.1.1
  refine fun x hx => Nat.le_trans (h1 x hx) ?_
  have h3 := Nat.mul_le_mul_right n h2
  omega
def juOf (ts : List ByteArray) (E : EvM) : JuV := ⟨texM ts, fixF ts, E, 0, 0⟩
def NB (j : Nat) : Nat := 425000 * (j * (j + 1))
theorem NB_succ (j : Nat) : NB (j + 1) = NB j + 17 * (50000 * j + 50000) := by
  unfold NB
  have : (j + 1) * (j + 1 + 1) = j * (j + 1) + 2 * (j + 1) := by
    rw [Nat.add_mul j 1 (j + 1 + 1), Nat.mul_add j (j + 1) 1, Nat.mul_one, Nat.one_mul]; omega
  rw [this, Nat.mul_add]
  omega
theorem NB_le {j : Nat} (h : j ≤ 43) : NB j ≤ 804100000 := by
  unfold NB
  have h1 : j * (j + 1) ≤ 43 * 44 := Nat.mul_le_mul h (by omega)
  omega
theorem juNext_of (ts : List ByteArray) (E : EvM) (t : ByteArray) : juNext (juOf ts E) ((ts.length : Int) + 1) t ((fixF ts).getLastD stZ) = juOf (ts ++ [t]) (hear_ E (stApply ((fixF ts).getLastD stZ) t).2) := by
  unfold juNext juOf
  simp only
  rw [texM_put, fixF_snoc]
end Go.Orch
namespace Go.Proofs.YtpeflgfldbjflaaGreatDoor
open Go.RowKit Go.Orch Go.Shelf
theorem juNew2_any (R w : World) (l : List HP) (H : Orch.Sep R w l) :
    Calls Tryz.prog 8 #[] w fun e w' => ∃ b, e = .returned (.pointer (some ⟨b, 0, none⟩)) ∧ Orch.Sep R w' (juAt b (juOf [] []) :: l) := juNew_any R w l H
theorem juMore_any (R w : World) (l : List HP) (G : GoodR R) (jb : Nat) (ts : List ByteArray) (E : EvM) (hE : evsLe E (NB ts.length)) (hts : ts.length ≤ 42) (t : ByteArray) (ht : t.size ≤ 1000000) (H : Orch.Sep R w (juAt jb (juOf ts E) :: l)) :
    Calls Tryz.prog 9 #[.pointer (some ⟨jb, 0, none⟩), .int .i64 ((ts.length : Int) + 1), .string t] w fun e w' => e = .returned (.bool true) ∧ ∃ E', evsLe E' (NB (ts.length + 1)) ∧ Orch.Sep R w' (juAt jb (juOf (ts ++ [t]) E') :: l) := by
  have hok := fixF_okLast ts (by omega)
  have h2 : ts.length < (fixF ts).length := by rw [fixF_len]; omega
  have hN := NB_le (j := ts.length + 1) (by omega)
  have hS := NB_succ ts.length
  refine Calls.mono (juCommit_new R w l G jb (50000 * ts.length) (NB ts.length) (juOf ts E) ((fixF ts).getLastD stZ) ts.length h2 (fixF_len ts) (fixF_last ts h2).symm (by omega) t ht hok (by omega) hE (by omega) (texM_none ts _ (by omega)) ?_ H) ?_
  · show aget (aput (texM ts) _ t) _ = none
    rw [texM_put]
    exact texM_none _ _ (by rw [List.length_append]; simp only [List.length_cons, List.length_nil]; omega)
  · rintro e w' ⟨rfl, H1⟩
    rw [juNext_of] at H1
    refine ⟨rfl, _, ?_, H1⟩
    rw [hS]
    exact hear_le hE (apply_ok hok (by omega) t)
def ta : ByteArray := ⟨#[97]⟩
def tb_ : ByteArray := ⟨#[98]⟩
set_option maxRecDepth 100000 in
set_option maxHeartbeats 4000000 in
theorem head_any (R w : World) (l : List HP) (G : GoodR R) (H : Orch.Sep R w l) :
    Calls Tryz.prog 5 #[] w fun e w' => e = .returned (.bool true) ∧ Orch.Sep R w' l := by
  have H0 := Lib.hid H
  clear H
  go_enter Tryz.func5, Tryz.ntmps5
  go_wp2_with fail
  refine Calls.mono (juNew2_any R _ _ H0.out) ?_
  rintro e w1 ⟨jb, rfl, H1⟩
  have HC := Lib.hid (juMore_any R _ _ G jb [] [] (fun x hx => by simp at hx) (by decide) ⟨#[97]⟩ (by decide) H1)
  clear H1
  go_wp2_with fail
  refine Calls.mono HC.out ?_
  rintro e w2 ⟨rfl, E', _, H2⟩
  have HK := Lib.hid (juKnown_any R _ _ jb _ (by rw [show (juOf ([] ++ [⟨#[97]⟩]) E').states.length = 2 from rfl]; decide) H2)
  clear H2 HC
  go_wp2_with fail
  refine Calls.mono HK.out ?_
  rintro e w3 ⟨rfl, H3⟩
  have HW := Lib.hid (juWrong_any R _ _ jb _ H3)
  have hk : (((juOf ([] ++ [⟨#[97]⟩]) E').states.length : Int) - 1 == 1) = true := rfl
  clear H3 HK
  go_wp2_with fail
  refine Calls.mono HW.out ?_
  rintro e w4 ⟨rfl, H4⟩
  have HC2 := Lib.hid (juCommit_old R _ _ jb _ 1 ⟨#[97]⟩ ⟨#[98]⟩ rfl H4)
  have hw : ((juOf ([] ++ [⟨#[97]⟩]) E').wrong == 0) = true := rfl
  clear H4 HW
  go_wp2_with fail
  refine Calls.mono HC2.out ?_
  rintro e w5 ⟨rfl, H5⟩
  have hd : decide ((⟨#[97]⟩ : ByteArray) = ⟨#[98]⟩) = false := by decide
  have HW2 := Lib.hid (juWrong_any R _ _ jb _ H5)
  clear H5 HC2
  go_wp2_with fail
  refine Calls.mono HW2.out ?_
  rintro e w6 ⟨rfl, H6⟩
  have hw6 : ((bad_ (juOf ([] ++ [⟨#[97]⟩]) E') (decide ((⟨#[97]⟩ : ByteArray) ≠ ⟨#[98]⟩))).wrong == 6) = true := rfl
  have H7 := Lib.hid H6.drop
  clear H6 HW2
  go_wp2
  go_ret
  exact ⟨rfl, H7.out⟩
end Go.Proofs.YtpeflgfldbjflaaGreatDoor
end
section
namespace Go.Orch
open Go.RowKit Go.Proofs
def TreeV.small (T : TreeV) : Prop := ∀ x ∈ T, x.2.data.size ≤ 60
theorem small_put {T : TreeV} (h : T.small) (k : ByteArray) (nd : NodeV) (hn : nd.data.size ≤ 60) : TreeV.small (aput T k nd) := fun x hx => by
  rcases aput_mem hx with rfl | hx
  · exact hn
  · exact h x hx
theorem small_del {T : TreeV} (h : T.small) (k : ByteArray) : TreeV.small (adel T k) := fun x hx => h x (adel_mem hx)
theorem small_get {T : TreeV} (h : T.small) {k : ByteArray} {nd : NodeV} (hg : aget T k = some nd) : nd.data.size ≤ 60 := h _ (aget_in hg)
theorem small_getD {T : TreeV} (h : T.small) (k : ByteArray) : ((aget T k).getD nodeZ).data.size ≤ 60 := by
  cases hg : aget T k with
  | none => exact Nat.zero_le _
  | some nd => exact small_get h hg
theorem small_tget {T : TreeV} (h : T.small) (s : ByteArray) : (tget T s).1.data.size ≤ 60 := by
  unfold tget
  split
  · split
    · rename_i nd hg
      exact small_get h hg
    · exact Nat.zero_le _
  · exact Nat.zero_le _
theorem small_tset {T : TreeV} (h : T.small) (s data : ByteArray) (v w : Int) : (tset T s data v w).2.2.small := by
  unfold tset
  split
  · exact h
  split
  · exact h
  · exact small_put h _ _ (by simp only; omega)
theorem small_tdelete {T : TreeV} (h : T.small) (s : ByteArray) (v : Int) : (tdelete T s v).2.small := by
  unfold tdelete
  split
  · exact h
  split
  · exact h
  split
  · exact h
  · refine small_del (small_put h _ _ ?_) _
    exact small_getD h _
theorem small_create2 {T : TreeV} (h : T.small) {ab : NodeV} (hab : ab.data.size ≤ 60) (up s data : ByteArray) (hd : data.size ≤ 60) (owner whn : Int) (serial : Bool) : (tcreate2 T up s data owner whn serial ab).2.2.small := by
  unfold tcreate2
  split
  · exact h
  split
  · exact h
  split
  · exact h
  · unfold tcreated
    refine small_put (small_put h _ _ ?_) _ _ ?_
    · exact hab
    · exact hd
theorem small_tcreate {T : TreeV} (h : T.small) (s data : ByteArray) (owner whn : Int) (serial : Bool) : (tcreate T s data owner whn serial).2.2.small := by
  unfold tcreate
  split
  · exact h
  split
  · exact h
  split
  · exact h
  · split
    · exact h
    · rename_i ab hab
      split
      · exact h
      · exact small_create2 h (small_get h hab) _ _ _ (by omega) _ _ _
theorem small_one {T : TreeV} (h : T.small) (o : OpV) (session whn : Int) : (stOne T o session whn).2.2.2.small := by
  unfold stOne
  split
  · exact small_tcreate h _ _ _ _ _
  split
  · exact small_tset h _ _ _ _
  split
  · exact small_tdelete h _ _
  split
  · exact h
  · exact h
theorem small_ops (session whn : Int) : ∀ (os : List OpV) (i : Nat) (T : TreeV) (outs : List OutV) (chs : List ChV), T.small → (stOps session whn os i T outs chs).2.1.small
  | [], _, _, _, _, h => h
  | o :: os, i, T, outs, chs, h => by
    unfold stOps
    split
    · exact h
    · exact small_ops session whn os _ _ _ _ (small_one h o session whn)
theorem small_update {S : StV} (h : S.tree.small) (c : CmdV) (whn : Int) : (stUpdate S c whn).2.tree.small := by
  unfold stUpdate
  have := small_ops c.session whn c.ops 0 S.tree [] [] h
  generalize stOps c.session whn c.ops 0 S.tree [] [] = r at *
  obtain ⟨r1, T, outs, chs⟩ := r
  cases r1 with
  | none => exact this
  | some e => exact h
theorem small_gone (whn : Int) {S : StV} (h : S.tree.small) (s : ByteArray) : (stGone whn S s).tree.small := by
  unfold stGone
  split <;> exact small_tdelete h _ _
theorem small_goneAll (whn : Int) : ∀ (ss : List ByteArray) {S : StV}, S.tree.small → (ss.foldl (stGone whn) S).tree.small
  | [], _, h => h
  | s :: ss, _, h => by
    rw [List.foldl_cons]
    exact small_goneAll whn ss (small_gone whn h s)
theorem small_end {S : StV} (h : S.tree.small) (session whn : Int) : (stEnd S session whn).tree.small := small_goneAll whn _ h
theorem small_do {S : StV} (h : S.tree.small) (c : CmdV) (whn : Int) : (stDo S c whn).2.tree.small := by
  unfold stDo
  split
  · exact small_update h c whn
  split
  · exact h
  · exact h
theorem small_command {S : StV} (h : S.tree.small) (c : CmdV) (whn : Int) : (stCommand S c whn).2.tree.small := by
  unfold stCommand
  split
  · exact h
  split
  · exact h
  split
  · exact h
  split
  · exact h
  split
  · exact small_end (S := { S with book := S.book.noted c.session c.noted }) h _ _
  · exact small_do (S := { S with book := S.book.noted c.session c.noted }) h _ _
theorem small_crowds (whn : Int) : ∀ (f : Nat) {S : StV}, S.tree.small → (stCrowds f S whn).tree.small
  | 0, _, h => h
  | f + 1, S, h => by
    show (match stCrowd S whn with | none => S | some S' => stCrowds f S' whn).tree.small
    cases hc : stCrowd S whn with
    | none => exact h
    | some S' =>
      refine small_crowds whn f ?_
      unfold stCrowd at hc
      cases hf : (stIds S).find? (isCrowd S) with
      | none => rw [hf] at hc; simp at hc
      | some id =>
        rw [hf] at hc
        simp only [Option.map_some, Option.some.injEq] at hc
        subst hc
        exact small_end h _ _
theorem small_apply {S : StV} (h : S.tree.small) (text : ByteArray) : (stApply S text).2.tree.small := small_crowds _ 17 (small_command (S := { S with at_ := S.at_ + 1 }) h _ _)
theorem fixF_small (ts : List ByteArray) : ∀ S ∈ fixF ts, S.tree.small := by
  refine snoc_ind (p := fun ts => ∀ S ∈ fixF ts, S.tree.small) (fun S hS => ?_) (fun l a ih S hS => ?_) ts
  · have : S = stZ := by simpa [fixF] using hS
    subst this
    intro x hx
    have : x = (slash, nodeZ) := by simpa [stZ] using hx
    subst this
    exact Nat.zero_le _
  · rw [fixF_snoc] at hS
    rcases List.mem_append.1 hS with hS | hS
    · exact ih S hS
    · obtain rfl := List.mem_singleton.1 hS
      refine small_apply (ih _ ?_) _
      have h := fixF_last l (by rw [fixF_len]; omega)
      rw [h]
      exact List.getElem_mem _
end Go.Orch
end
section
namespace Go.Orch
open Go.RowKit
theorem Sep.nilOf {R w : World} {l : List HP} (H : Orch.Sep R w l) : Orch.Sep R w [] := Sep.mono H (fun _ _ => trivial)
theorem tget_e (T : TreeV) (s : ByteArray) : (tget T s).2 = 0 ∨ (tget T s).2 = 10 ∨ (tget T s).2 = 11 := by
  have hp : pathCheck s = 0 ∨ pathCheck s = 10 := by
    unfold pathCheck
    split
    · exact .inl rfl
    split
    · exact .inr rfl
    split
    · exact .inr rfl
    split
    · exact .inl rfl
    · exact .inr rfl
  unfold tget
  split
  · split
    · exact .inl rfl
    · exact .inr (.inr rfl)
  · rcases hp with h | h
    · exact .inl h
    · exact .inr (.inl h)
def firstId : Code → Nat
  | .seq a _ => firstId a
  | .region i _ _ => i
  | _ => 1000000
def sfx (id : Nat) : Code → Code
  | .seq a b => if firstId a = id then .seq a b else sfx id b
  | c => c
def hdC : Code → Code
  | .seq a _ => a
  | c => c
def tlC : Code → Code
  | .seq _ b => b
  | c => c
end Go.Orch
namespace Go.Proofs.YtpeflgfldbjflaaGreatDoor
open Go.RowKit Go.Orch Go.Shelf
theorem Sep.listSrc {α : Type} {en : α → Value} {P : Program} {R w : World} {l : List HP} {p : Option Addr} {c : Nat} {xs : List α} (h1 : ∀ x, (en x).oneCell' = true) (H : Orch.Sep R w (listS en (.slice p xs.length c) xs :: l)) : Orch.Src P w (.slice p xs.length c) 1 xs.length (xs.map en) := by
  have e : xs.flatMap (fun x => [en x]) = xs.map en := by
    clear H
    induction xs with
    | nil => rfl
    | cons x xs ih => rw [List.flatMap_cons, List.map_cons, ih]; rfl
  have H' : Orch.Sep R w (recS 1 (fun x => [en x]) (.slice p xs.length c) xs :: l) := by
    unfold recS
    rw [e]
    exact H
  rcases H'.recOpen with ⟨hv, hx, _⟩ | ⟨b, cap, pre, post, hv, _, _, _, _, H1⟩
  · subst hx
    injection hv with hv _ _
    subst hv
    exact Orch.Src.nil
  · injection hv with hv _ _
    subst hv
    refine Orch.Src.cells b pre.length c _ (by simp) (fun j u hj => ?_) (fun u hu => by obtain ⟨x, _, rfl⟩ := List.mem_map.1 hu; exact h1 x)
    exact Orch.Sep.rowCells (sz := 1) H1 j u (by rw [e]; exact hj)
theorem cap_ok5 {n : Nat} (h : n ≤ 60) : [(⟨#[110, 101, 119]⟩ : ByteArray)].length + n ≤ maxLen := by
  unfold maxLen
  simp only [List.length_cons, List.length_nil]
  omega
theorem cap_ok6 {n : Nat} (h : n ≤ 60) : ([(⟨#[110, 101, 119]⟩ : ByteArray)].length + n) * 16 ≤ 140737488355328 := by
  simp only [List.length_cons, List.length_nil]
  omega
noncomputable def rest25 : Code := sfx 25 (Tryz.f3.body.getD .skip)
end Go.Proofs.YtpeflgfldbjflaaGreatDoor
end
