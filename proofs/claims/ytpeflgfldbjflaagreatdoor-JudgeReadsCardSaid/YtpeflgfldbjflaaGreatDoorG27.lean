/- WHAT IS PROVED HERE: Package state: its values and what its functions come to, as plain Lean; Package state: what its functions keep. No program in sight. -/
import Derived.Test.YtpeflgfldbjflaaGreatDoorG19
import Derived.Test.YtpeflgfldbjflaaGreatDoorG21
import Derived.Test.YtpeflgfldbjflaaGreatDoorG07
import Derived.Test.YtpeflgfldbjflaaGreatDoorG23
import Derived.Test.YtpeflgfldbjflaaGreatDoorG26
set_option linter.unusedVariables false
set_option linter.unusedSimpArgs false
set_option linter.unusedSectionVars false
set_option linter.unnecessarySimpa false
section
namespace Go.Orch
open Go.RowKit Go.Proofs
structure ChV where
  path : ByteArray
  what : Int
deriving DecidableEq, Inhabited
def chC (x : ChV) : List Value := [.string x.path, .int .i64 x.what]
abbrev chS (v : Value) (xs : List ChV) : HP := recS 2 chC v xs
structure StV where
  tree : TreeV
  tab : Tab
  book : BookV
  at_ : Int
def stZ : StV := ⟨[(slash, nodeZ)], [], ⟨[], [], []⟩, 0⟩
def stAt (b : Nat) (S : StV) : HP := fun h => ∃ tb sb bb : Nat, sepl [cellsAt b #[.pointer (some ⟨tb, 0, none⟩), .pointer (some ⟨sb, 0, none⟩), .pointer (some ⟨bb, 0, none⟩), .int .i64 S.at_], treeAt tb S.tree, tabAt sb S.tab, bookAt bb S.book] h
theorem Sep.st_ {R w : World} {l : List HP} {b : Nat} {S : StV} (H : Sep R w (stAt b S :: l)) : ∃ tb sb bb : Nat, Sep R w (cellsAt b #[.pointer (some ⟨tb, 0, none⟩), .pointer (some ⟨sb, 0, none⟩), .pointer (some ⟨bb, 0, none⟩), .int .i64 S.at_] :: treeAt tb S.tree :: tabAt sb S.tab :: bookAt bb S.book :: l) := by
  obtain ⟨tb, H⟩ := H.ex
  obtain ⟨sb, H⟩ := H.ex
  obtain ⟨bb, H⟩ := H.ex
  exact ⟨tb, sb, bb, H.apart⟩
theorem Sep.mkst {R w : World} {l : List HP} {b tb sb bb : Nat} {S : StV} (H : Sep R w (cellsAt b #[.pointer (some ⟨tb, 0, none⟩), .pointer (some ⟨sb, 0, none⟩), .pointer (some ⟨bb, 0, none⟩), .int .i64 S.at_] :: treeAt tb S.tree :: tabAt sb S.tab :: bookAt bb S.book :: l)) : Sep R w (stAt b S :: l) :=
  Sep.mkex tb (Sep.mkex sb (Sep.mkex bb (Sep.join (l' := [cellsAt b #[.pointer (some ⟨tb, 0, none⟩), .pointer (some ⟨sb, 0, none⟩), .pointer (some ⟨bb, 0, none⟩), .int .i64 S.at_], treeAt tb S.tree, tabAt sb S.tab, bookAt bb S.book]) H)))
def stOne (T : TreeV) (o : OpV) (session whn : Int) : OutV × ChV × Int × TreeV :=
  if o.does = 1 then
    (⟨(tcreate T o.path o.data (if o.own then session else 0) whn o.serial).1, 0⟩, ⟨(tcreate T o.path o.data (if o.own then session else 0) whn o.serial).1, 1⟩, (tcreate T o.path o.data (if o.own then session else 0) whn o.serial).2.1, (tcreate T o.path o.data (if o.own then session else 0) whn o.serial).2.2)
  else if o.does = 2 then (⟨o.path, (tset T o.path o.data o.version whn).1⟩, ⟨o.path, 3⟩, (tset T o.path o.data o.version whn).2.1, (tset T o.path o.data o.version whn).2.2)
  else if o.does = 3 then (⟨o.path, 0⟩, ⟨o.path, 2⟩, (tdelete T o.path o.version).1, (tdelete T o.path o.version).2)
  else if o.does = 4 then (⟨o.path, 0⟩, ⟨⟨#[]⟩, 0⟩, (tat T o.path o.version).2, T)
  else (⟨⟨#[]⟩, 0⟩, ⟨⟨#[]⟩, 0⟩, 1, T)
def stOps (session whn : Int) : List OpV → Nat → TreeV → List OutV → List ChV → Option (Int × Nat) × TreeV × List OutV × List ChV
  | [], _, T, outs, chs => (none, T, outs, chs)
  | o :: os, i, T, outs, chs =>
    if (stOne T o session whn).2.2.1 ≠ 0 then (some ((stOne T o session whn).2.2.1, i), T, outs, chs)
    else stOps session whn os (i + 1) (stOne T o session whn).2.2.2 (outs ++ [(stOne T o session whn).1]) (if (stOne T o session whn).2.1.what ≠ 0 then chs ++ [(stOne T o session whn).2.1] else chs)
def fireAll (B : BookV) (chs : List ChV) (whn : Int) : BookV := chs.foldl (fun B x => B.fire x.path x.what whn) B
def stUpd (S : StV) (whn : Int) : Option (Int × Nat) × TreeV × List OutV × List ChV → ResV × StV
  | (some (e, i), _) => (⟨e, i, [], whn⟩, S)
  | (none, T, outs, chs) => (⟨0, 0, outs, whn⟩, { S with tree := T, book := fireAll S.book chs whn })
def stUpdate (S : StV) (c : CmdV) (whn : Int) : ResV × StV := stUpd S whn (stOps c.session whn c.ops 0 S.tree [] [])
def stGone (whn : Int) (S : StV) (s : ByteArray) : StV :=
  if (tdelete S.tree s (-1)).1 = 0 then { S with tree := (tdelete S.tree s (-1)).2, book := S.book.fire s 2 whn } else { S with tree := (tdelete S.tree s (-1)).2 }
def stEnd (S : StV) (session whn : Int) : StV :=
  let S1 := (towned S.tree session).reverse.foldl (stGone whn) S
  { S1 with book := S1.book.drop session, tab := (S1.tab.close session).2 }
end Go.Orch
namespace Go.Orch
open Go.RowKit Go.Proofs
def TreeV.good (T : TreeV) (n : Nat) : Prop := T.length ≤ 60 ∧ (∀ x ∈ T, x.1.size ≤ 100 ∧ 0 ≤ x.2.serial ∧ x.2.serial ≤ n) ∧ (T.map (·.1)).Nodup
def Tab.good (T : Tab) : Prop := T.ok ∧ ∀ x ∈ T, x.2.ans.size ≤ 400
def BookV.goodE (B : BookV) (n : Nat) : Prop := B.events.length ≤ n ∧ (∀ id, -(n : Int) ≤ B.no id ∧ B.no id ≤ n) ∧ (akeys B.nos).Nodup ∧ B.nos.length ≤ n
def BookV.good (B : BookV) (n : Nat) : Prop := B.watches.length ≤ 40 ∧ B.goodE n
def StV.ok (S : StV) (n : Nat) : Prop := S.tree.good n ∧ S.tab.good ∧ S.book.good n ∧ 0 ≤ S.at_ ∧ S.at_ ≤ n
theorem TreeV.good.mono {T : TreeV} {n m : Nat} (h : T.good n) (hm : n ≤ m) : T.good m := ⟨h.1, fun x hx => ⟨(h.2.1 x hx).1, (h.2.1 x hx).2.1, by have := (h.2.1 x hx).2.2; omega⟩, h.2.2⟩
theorem TreeV.good.wf {T : TreeV} {n : Nat} (h : T.good n) : T.wf := ⟨⟨by have := h.1; omega, fun x hx => by have := (h.2.1 x hx).1; omega⟩, h.2.2⟩
theorem BookV.goodE.mono {B : BookV} {n m : Nat} (h : B.goodE n) (hm : n ≤ m) : B.goodE m := ⟨by have := h.1; omega, fun id => by have := h.2.1 id; omega, h.2.2.1, by have := h.2.2.2; omega⟩
theorem BookV.good.mono {B : BookV} {n m : Nat} (h : B.good n) (hm : n ≤ m) : B.good m := ⟨h.1, h.2.mono hm⟩
theorem StV.ok.mono {S : StV} {n m : Nat} (h : S.ok n) (hm : n ≤ m) : S.ok m := ⟨h.1.mono hm, h.2.1, h.2.2.1.mono hm, h.2.2.2.1, by have := h.2.2.2.2; omega⟩
theorem fireP_goodE {s : ByteArray} {what whn : Int} {x : WatchV} {B : BookV} {n : Nat} (h : B.goodE n) : (fireP s what whn x B).2.goodE (n + 1) := by
  unfold fireP
  split
  · exact h.mono (by omega)
  · obtain ⟨h1, h2, h3, h4⟩ := h
    refine ⟨by simp; omega, fun id => ?_, aput_nodup h3 _ _, Nat.le_trans (aput_len _ _ _) (by omega)⟩
    have a := h2 id
    have b := h2 x.session
    simp only [BookV.no] at *
    by_cases e : x.session = id
    · subst e
      rw [aget_aput]
      simp only [Option.getD_some]
      omega
    · rw [aget_aput_ne e]
      omega
theorem delF_goodE {s : ByteArray} {what whn : Int} : ∀ (xs : List WatchV) (acc : List WatchV × BookV) (n : Nat), acc.2.goodE n → (xs.foldl (delStep (fireP s what whn)) acc).2.goodE (n + xs.length)
  | [], _, _, h => h
  | x :: xs, acc, n, h => by
    have := delF_goodE (s := s) (what := what) (whn := whn) xs (delStep (fireP s what whn) acc x) (n + 1) (fireP_goodE h)
    rw [List.foldl_cons, List.length_cons]
    rw [show n + (xs.length + 1) = n + 1 + xs.length by omega]
    exact this
theorem fire_good {B : BookV} {n : Nat} (h : B.good n) (s : ByteArray) (what whn : Int) : (B.fire s what whn).good (n + 40) := by
  have h1 := delF_len (fireP s what whn) B B.watches
  have h2 := delF_goodE (s := s) (what := what) (whn := whn) B.watches ([], B) n h.2
  have h3 := h.1
  refine ⟨?_, ?_⟩
  · show (delF (fireP s what whn) B.watches B).1.length ≤ 40
    omega
  · have h4 : (delF (fireP s what whn) B.watches B).2.goodE (n + 40) := BookV.goodE.mono h2 (by omega)
    exact h4
theorem good_fireK {B : BookV} {n : Nat} (h : B.good n) (hn : n ≤ 100000000) : fireK B B.watches.length := by
  obtain ⟨h0, h1, h2, h3, h4⟩ := h
  refine ⟨h3, by omega, fun id => ?_⟩
  have := h2 id
  omega
theorem noted_good {B : BookV} {n : Nat} (h : B.good n) (session no : Int) : (B.noted session no).good n := by
  obtain ⟨h0, h1, h2, h3, h4⟩ := h
  exact ⟨h0, Nat.le_trans (List.length_filter_le _ _) h1, h2, h3, h4⟩
theorem aget_adel_ne {k k' : Int} (hne : k ≠ k') : ∀ (m : List (Int × Int)), aget (adel m k) k' = aget m k'
  | [] => rfl
  | (x, v) :: m => by
    simp only [adel]
    by_cases hx : x = k
    · rw [if_pos hx]
      simp only [aget]
      rw [if_neg (by rw [hx]; exact hne)]
    · rw [if_neg hx]
      simp only [aget]
      rw [aget_adel_ne hne m]
theorem aget_none {k : Int} : ∀ (m : List (Int × Int)), k ∉ akeys m → aget m k = none
  | [], _ => rfl
  | (x, v) :: m, h => by
    have h2 : ¬ k = x ∧ k ∉ akeys m := by simpa [akeys] using h
    simp only [aget]
    rw [if_neg (fun e => h2.1 e.symm), aget_none m h2.2]
theorem drop_good {B : BookV} {n : Nat} (h : B.good n) (session : Int) : (B.drop session).good n := by
  obtain ⟨h0, h1, h2, h3, h4⟩ := h
  refine ⟨Nat.le_trans (List.length_filter_le _ _) h0, Nat.le_trans (List.length_filter_le _ _) h1, fun id => ?_, adel_nodup h3 _, Nat.le_trans (adel_len _ _) h4⟩
  have := h2 id
  simp only [BookV.no, BookV.drop] at *
  by_cases e : session = id
  · subst e
    rw [aget_none _ (adel_not _ h3)]
    simp
  · rw [aget_adel_ne e]
    exact this
theorem add_good {B : BookV} {n : Nat} (h : B.good n) (x : WatchV) : (bookAdd B x).2.good n := by
  unfold bookAdd
  split
  · exact h
  split
  · exact h
  split
  · exact h
  split
  · exact h
  split
  · exact h
  · refine ⟨?_, h.2⟩
    have := bsAt_le B.watches x
    simp only [List.length_append, List.length_cons, List.length_take, List.length_drop]
    omega
end Go.Orch
end
section
namespace Go.Orch
open Go.RowKit Go.Proofs
section
variable {α β : Type} [DecidableEq α]
theorem aput_len_mem (k : α) (v : β) : ∀ (m : List (α × β)), k ∈ akeys m → (aput m k v).length = m.length
  | [], h => by simp [akeys] at h
  | (x, u) :: m, h => by
    simp only [aput]
    by_cases hx : x = k
    · rw [if_pos hx]; simp
    · rw [if_neg hx]
      have : k ∈ akeys m := by
        have : k = x ∨ k ∈ akeys m := by simpa [akeys] using h
        rcases this with e | e
        · exact absurd e.symm hx
        · exact e
      simp [aput_len_mem k v m this]
theorem adel_len_mem (k : α) : ∀ (m : List (α × β)), k ∈ akeys m → (adel m k).length + 1 = m.length
  | [], h => by simp [akeys] at h
  | (x, u) :: m, h => by
    simp only [adel]
    by_cases hx : x = k
    · rw [if_pos hx]; simp
    · rw [if_neg hx]
      have : k ∈ akeys m := by
        have : k = x ∨ k ∈ akeys m := by simpa [akeys] using h
        rcases this with e | e
        · exact absurd e.symm hx
        · exact e
      have := adel_len_mem k m this
      simp; omega
theorem akeys_aput_mem {k k' : α} {v : β} : ∀ {m : List (α × β)}, k' ∈ akeys m → k' ∈ akeys (aput m k v)
  | [], h => by simp [akeys] at h
  | (x, u) :: m, h => by
    have h2 : k' = x ∨ k' ∈ akeys m := by simpa [akeys] using h
    simp only [aput]
    by_cases hx : x = k
    · rw [if_pos hx]; simpa [akeys] using h
    · rw [if_neg hx]
      rcases h2 with e | e
      · simp [akeys, e]
      · have := akeys_aput_mem (k := k) (v := v) e
        simp only [akeys] at this ⊢
        simp [this]
theorem aget_isSome_of_mem {k : α} : ∀ {m : List (α × β)}, k ∈ akeys m → (aget m k).isSome = true
  | [], h => by simp [akeys] at h
  | (x, u) :: m, h => by
    have h2 : k = x ∨ k ∈ akeys m := by simpa [akeys] using h
    simp only [aget]
    by_cases hx : x = k
    · rw [if_pos hx]; rfl
    · rw [if_neg hx]
      rcases h2 with e | e
      · exact absurd e.symm hx
      · exact aget_isSome_of_mem e
theorem aget_key {k : α} {v : β} {m : List (α × β)} (h : aget m k = some v) : k ∈ akeys m := List.mem_map_of_mem (f := (·.1)) (aget_in h)
end
theorem aput_good {T : TreeV} {n : Nat} (h : T.good n) (k : ByteArray) (nd : NodeV) (hk : k.size ≤ 100) (hs : 0 ≤ nd.serial ∧ nd.serial ≤ n) (hl : k ∈ akeys T ∨ T.length < 60) : TreeV.good (aput T k nd) n := by
  refine ⟨?_, fun x hx => ?_, aput_nodup h.2.2 _ _⟩
  · rcases hl with hl | hl
    · rw [aput_len_mem _ _ _ hl]; exact h.1
    · have := aput_len k nd T; omega
  · rcases aput_mem hx with rfl | hx
    · exact ⟨hk, hs⟩
    · exact h.2.1 x hx
theorem tget_some {T : TreeV} {s : ByteArray} (h : (tget T s).2 = 0) : aget T s = some (tget T s).1 ∧ pathCheck s = 0 := by
  unfold tget at *
  by_cases hp : pathCheck s = 0
  · rw [if_pos hp] at h ⊢
    cases hg : aget T s with
    | none => rw [hg] at h; simp at h
    | some nd => exact ⟨rfl, hp⟩
  · rw [if_neg hp] at h
    exact absurd h hp
theorem tat_some {T : TreeV} {s : ByteArray} {v : Int} (h : (tat T s v).2 = 0) : aget T s = some (tat T s v).1 ∧ pathCheck s = 0 := by
  unfold tat at *
  split at h
  · simp at h
  · rename_i hc
    rw [if_neg hc]
    exact tget_some h
theorem tset_good {T : TreeV} {n : Nat} (h : T.good n) (s data : ByteArray) (v w : Int) : (tset T s data v w).2.2.good n := by
  unfold tset
  split
  · exact h
  split
  · exact h
  · rename_i h1 h2
    have h3 := (tat_some (by simpa using h1 : (tat T s v).2 = 0)).1
    have hm := h.2.1 _ (aget_in h3)
    exact aput_good h s _ hm.1 hm.2 (.inl (aget_key h3))
theorem pathUp_size (s : ByteArray) : (Go.Proofs.YtpeflgfldbjflaaGreatDoor.pathUp s).1.size ≤ s.size + 1 := by
  unfold Go.Proofs.YtpeflgfldbjflaaGreatDoor.pathUp
  split
  · exact Nat.zero_le _
  split
  · exact Nat.zero_le _
  split
  · show 1 ≤ s.size + 1
    omega
  · simp only [ByteArray.size_extract]
    omega
theorem check_size {s : ByteArray} (h : pathCheck s = 0) : s.size ≤ 60 := by
  unfold pathCheck at h
  split at h
  · rename_i e
    have : s.data.toList.length = 1 := by rw [e]; rfl
    have : s.size = 1 := by simpa using this
    omega
  split at h
  · simp at h
  · omega
theorem wrap_succ {x : Int} {n : Nat} (h0 : 0 ≤ x) (h1 : x ≤ n) (hn : n ≤ 100000000) : 0 ≤ wrap64 (x + 1) ∧ wrap64 (x + 1) ≤ ((n + 1 : Nat) : Int) := by
  unfold wrap64
  omega
theorem tdelete_good {T : TreeV} {n : Nat} (h : T.good n) (s : ByteArray) (v : Int) : (tdelete T s v).2.good n := by
  unfold tdelete
  split
  · exact h
  split
  · exact h
  split
  · exact h
  · rename_i h1 h2 h3
    obtain ⟨h4, h5⟩ := tat_some (by simpa using h1 : (tat T s v).2 = 0)
    have hup := pathUp_size s
    have hsz := check_size h5
    generalize (Go.Proofs.YtpeflgfldbjflaaGreatDoor.pathUp s).1 = up at *
    have hnd : 0 ≤ ((aget T up).getD nodeZ).serial ∧ ((aget T up).getD nodeZ).serial ≤ n := by
      cases hg : aget T up with
      | none => simp [nodeZ]
      | some nd => exact (h.2.1 _ (aget_in hg)).2
    generalize (aget T up).getD nodeZ = nd at *
    have h6 := h.1
    refine ⟨?_, fun x hx => ?_, adel_nodup (aput_nodup h.2.2 _ _) _⟩
    · generalize ({ data := nd.data, version := nd.version, below := wrap64 (nd.below + 1), owner := nd.owner, made := nd.made, set := nd.set, serial := nd.serial } : NodeV) = nd2
      have hk := adel_len_mem s (aput T up nd2) (akeys_aput_mem (aget_key h4))
      have hl := aput_len up nd2 T
      show (adel (aput T up nd2) s).length ≤ 60
      omega
    rcases aput_mem (adel_mem hx) with rfl | hx
    · exact ⟨by simp only; omega, hnd⟩
    · exact h.2.1 x hx
theorem tcreate2_good {T : TreeV} {n : Nat} (h : T.good n) (hn : n ≤ 100000000) {up s data : ByteArray} {owner whn : Int} {serial : Bool} {ab : NodeV} (hab : aget T up = some ab) (hs : serial = true ∨ pathCheck s = 0) : (tcreate2 T up s data owner whn serial ab).2.2.good (n + 1) := by
  unfold tcreate2
  split
  · exact h.mono (by omega)
  split
  · exact h.mono (by omega)
  split
  · exact h.mono (by omega)
  · rename_i h1 h2 h3
    have hm := h.2.1 _ (aget_in hab)
    have hsc : pathCheck s = 0 := by
      rcases hs with hs | hs
      · by_cases e : pathCheck s = 0
        · exact e
        · exact absurd ⟨hs, e⟩ h1
      · exact hs
    have hsz := check_size hsc
    have hw := wrap_succ hm.2.1 hm.2.2 hn
    have g1 : TreeV.good (aput T up { ab with below := wrap64 (ab.below + 1), serial := if serial then wrap64 (ab.serial + 1) else ab.serial }) (n + 1) := by
      refine aput_good (h.mono (by omega)) _ _ hm.1 ?_ (.inl (aget_key hab))
      simp only
      split
      · exact hw
      · have h7 : 0 ≤ ab.serial ∧ ab.serial ≤ n := hm.2
        constructor <;> omega
    unfold tcreated
    refine aput_good g1 _ _ (by omega) ⟨by simp, by simp; omega⟩ (.inr ?_)
    rw [aput_len_mem _ _ _ (aget_key hab)]
    omega
theorem tcreate_good {T : TreeV} {n : Nat} (h : T.good n) (hn : n ≤ 100000000) (s data : ByteArray) (owner whn : Int) (serial : Bool) : (tcreate T s data owner whn serial).2.2.good (n + 1) := by
  unfold tcreate
  split
  · exact h.mono (by omega)
  split
  · exact h.mono (by omega)
  split
  · exact h.mono (by omega)
  · rename_i h1 h2 h3
    split
    · exact h.mono (by omega)
    · rename_i ab hab
      split
      · exact h.mono (by omega)
      · refine tcreate2_good h hn hab ?_
        cases serial with
        | true => exact .inl rfl
        | false => exact .inr (by simpa using h1)
theorem tab_open_good {T : Tab} (h : T.good) (id : Int) : (T.open_ id).2.good := by
  unfold Tab.open_
  split
  · exact h
  split
  · exact h
  split
  · exact h
  · rename_i h1 h2 h3
    refine ⟨⟨?_, fun x hx => ?_, aput_nodup h.1.2.2 _ _⟩, fun x hx => ?_⟩
    · have hl := aput_len id (⟨0, ⟨#[]⟩⟩ : SessV) T
      show (aput T id _).length ≤ 16
      have : ¬ 16 ≤ List.length T := h3
      omega
    · rcases aput_mem hx with rfl | hx
      · have e1 : IntKind.i64.min = -9223372036854775808 := by decide
        have e2 : IntKind.i64.max = 9223372036854775807 := by decide
        simp only [Lit.wf, e1, e2, Bool.and_eq_true, decide_eq_true_eq]
        constructor <;> omega
      · exact h.1.2.1 x hx
    · rcases aput_mem hx with rfl | hx
      · exact Nat.zero_le _
      · exact h.2 x hx
theorem tab_close_good {T : Tab} (h : T.good) (id : Int) : (T.close id).2.good := by
  unfold Tab.close
  split
  · refine ⟨⟨Nat.le_trans (adel_len _ _) h.1.1, fun x hx => h.1.2.1 x (adel_mem hx), adel_nodup h.1.2.2 _⟩, fun x hx => h.2 x (adel_mem hx)⟩
  · exact h
theorem tab_keep_good {T : Tab} (h : T.good) (id req : Int) (ans : ByteArray) : (T.keep id req ans).2.good := by
  unfold Tab.keep
  split
  · exact h
  split
  · exact h
  split
  · exact h
  · rename_i h1 h2 h3
    have hs : (T.seen id req).2.2 = 0 := by simpa using h1
    have hk : id ∈ akeys T := by
      unfold Tab.seen at hs
      cases hg : aget T id with
      | none => rw [hg] at hs; simp at hs
      | some x => exact aget_key hg
    refine ⟨⟨by rw [aput_len_mem _ _ _ hk]; exact h.1.1, fun x hx => ?_, aput_nodup h.1.2.2 _ _⟩, fun x hx => ?_⟩
    · rcases aput_mem hx with rfl | hx
      · obtain ⟨y, hy, e⟩ := List.mem_map.1 hk
        have := h.1.2.1 y hy
        rw [e] at this
        exact this
      · exact h.1.2.1 x hx
    · rcases aput_mem hx with rfl | hx
      · simp only; omega
      · exact h.2 x hx
end Go.Orch
end
