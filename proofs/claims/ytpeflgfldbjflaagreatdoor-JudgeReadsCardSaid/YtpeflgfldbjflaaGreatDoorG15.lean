/- WHAT IS PROVED HERE: Ranging over a map, said with 'Sep'. No program in sight; A row put in order by the library, said with 'Sep'; Package tree: Kids; sess.All, Clone; tree.Paths, Clone; slices.Clone of what is a struct. -/
import Derived.Test.YtpeflgfldbjflaaGreatDoorG12
import Derived.Test.YtpeflgfldbjflaaGreatDoorG02
import Derived.Sort.Grow
import Derived.Test.YtpeflgfldbjflaaGreatDoorG14
import Derived.Shelf.SlMaps.Clone
import Derived.Shelf.SlicesE.Clone
import Derived.Ground.SlmcProg
import Derived.Ground.SlgnProg
import Derived.Test.YtpeflgfldbjflaaGreatDoorG01
set_option linter.unusedVariables false
set_option linter.unusedSimpArgs false
set_option linter.unusedSectionVars false
set_option linter.unnecessarySimpa false
section
namespace Go.Orch
open Go.RowKit
def unseen (es : Array MapEntry) (seen : Array Nat) : List MapEntry := es.toList.filter fun e => !seen.contains e.born
def itAt {α : Type} (K : KK α) (mb r : Nat) (m left : List (α × Value)) : HP := fun h => ∃ (es : Array MapEntry) (clock : Nat) (seen : Array Nat),
  (es.toList.map fun e : MapEntry => (e.key, e.val)) = m.map (fun x => (K.emb x.1, x.2)) ∧ (∀ e ∈ es.toList, e.born < clock) ∧ (es.toList.map (·.born)).Nodup ∧
  ((unseen es seen).map fun e : MapEntry => (e.key, e.val)) = left.map (fun x => (K.emb x.1, x.2)) ∧ sepl [pt mb (.map es clock), pt r (.mapIter (some mb) clock seen clock)] h
theorem unseen_none (es : Array MapEntry) : unseen es #[] = es.toList := by unfold unseen; rw [List.filter_eq_self]; intro x hx; simp
def itLeft (w : World) (mb r : Nat) : Nat := match w.heap[mb]?, w.heap[r]? with
  | some (.map es _), some (.mapIter _ _ seen _) => (unseen es seen).length
  | _, _ => 0
section
variable {α : Type} [DecidableEq α] {K : KK α} {P : Program} {R w : World} {l : List HP}
theorem Sep.itE {mb r : Nat} {m left : List (α × Value)} (H : Sep R w (itAt K mb r m left :: l)) : ∃ (es : Array MapEntry) (clock : Nat) (seen : Array Nat),
    (es.toList.map fun e : MapEntry => (e.key, e.val)) = m.map (fun x => (K.emb x.1, x.2)) ∧ (∀ e ∈ es.toList, e.born < clock) ∧ (es.toList.map (·.born)).Nodup ∧
    ((unseen es seen).map fun e : MapEntry => (e.key, e.val)) = left.map (fun x => (K.emb x.1, x.2)) ∧ Sep R w (pt mb (.map es clock) :: pt r (.mapIter (some mb) clock seen clock) :: l) := by
  obtain ⟨es, H⟩ := H.ex
  obtain ⟨clock, H⟩ := H.ex
  obtain ⟨seen, H⟩ := H.ex
  obtain ⟨h1, H⟩ := H.prop
  obtain ⟨h2, H⟩ := H.prop
  obtain ⟨h3, H⟩ := H.prop
  obtain ⟨h4, H⟩ := H.prop
  exact ⟨es, clock, seen, h1, h2, h3, h4, H.apart⟩
theorem Sep.mkit {mb r : Nat} {m left : List (α × Value)} {es : Array MapEntry} {clock : Nat} {seen : Array Nat}
    (h1 : (es.toList.map fun e : MapEntry => (e.key, e.val)) = m.map (fun x => (K.emb x.1, x.2))) (h2 : ∀ e ∈ es.toList, e.born < clock) (h3 : (es.toList.map (·.born)).Nodup)
    (h4 : ((unseen es seen).map fun e : MapEntry => (e.key, e.val)) = left.map (fun x => (K.emb x.1, x.2))) (H : Sep R w (pt mb (.map es clock) :: pt r (.mapIter (some mb) clock seen clock) :: l)) : Sep R w (itAt K mb r m left :: l) :=
  (Sep.join (l' := [pt mb (.map es clock), pt r (.mapIter (some mb) clock seen clock)]) H).imp fun _ a => ⟨es, clock, seen, h1, h2, h3, h4, a⟩
theorem Sep.itMap {mb r : Nat} {m left : List (α × Value)} (H : Sep R w (itAt K mb r m left :: l)) : Sep R w (mapAt K mb m :: l) := by
  obtain ⟨es, clock, seen, h1, h2, h3, h4, H⟩ := H.itE
  exact Sep.mkmap h1 h2 h3 H.swap.drop
theorem Sep.itCount {mb r : Nat} {m left : List (α × Value)} (H : Sep R w (itAt K mb r m left :: l)) : itLeft w mb r = left.length := by
  obtain ⟨es, clock, seen, h1, h2, h3, h4, H⟩ := H.itE
  have hb := H.block.2
  have hr := H.swap.block.2
  simp only [itLeft, hb, hr]
  have := congrArg List.length h4
  simpa using this
theorem run_range {t kt e : TypeId} (ht : P.underlying t = some (.map kt e)) {b : Nat} {m : List (α × Value)} (H : Sep R w (Orch.mapAt K b m :: l)) :
    ∃ w' r, (Instr.range t (.map (some b))).run P w = .ok (.pointer (some ⟨r, 0, none⟩)) w' ∧ Sep R w' (itAt K b r m m :: l) := by
  obtain ⟨es, clock, h1, h2, h3, H⟩ := H.mapE
  have hb := H.block.2
  refine ⟨w.alloc (.mapIter (some b) clock #[] clock), w.heap.size, ?_, Sep.mkit (seen := #[]) h1 h2 h3 (by rw [unseen_none]; exact h1) (H.alloc _).swap⟩
  simp [Instr.range, run_underlying ht, run_getObj_map hb]
theorem run_getObj_iter {b : Nat} {m : Option Nat} {s : Nat} {seen : Array Nat} {st : Nat} (h : w.heap[b]? = some (.mapIter m s seen st)) : (getObj b).run P w = .ok (.mapIter m s seen st) w := by
  simp [getObj, Sem.run, h]
theorem run_setObj_iter {b : Nat} {m : Option Nat} {s : Nat} {seen : Array Nat} {st : Nat} (h : w.heap[b]? = some (.mapIter m s seen st)) (o : Obj) : (setObj b o).run P w = .ok () { w with heap := w.heap.setIfInBounds b o } := by
  simp [setObj, Sem.run, h]
theorem run_next {mb r : Nat} {m left : List (α × Value)} (H : Sep R w (itAt K mb r m left :: l)) (ty : TypeId) :
    (left = [] ∧ (Instr.next (.pointer (some ⟨r, 0, none⟩)) false ty).run P w = .ok (.tuple #[.bool false]) w) ∨
    (∃ l1 k v l2 w', left = l1 ++ (k, v) :: l2 ∧ (Instr.next (.pointer (some ⟨r, 0, none⟩)) false ty).run P w = .ok (.tuple #[.bool true, K.emb k, v]) w' ∧
      (Instr.entry (.pointer (some ⟨r, 0, none⟩))).run P w' = .ok (.tuple #[K.emb k, v]) w' ∧ Sep R w' (itAt K mb r m (l1 ++ l2) :: l)) := by
  obtain ⟨es, clock, seen, h1, h2, h3, h4, H⟩ := H.itE
  have hb := H.block.2
  have hr := H.swap.block.2
  have hlt := H.swap.lt
  have hne : mb ≠ r := by
    intro e
    subst e
    rw [hb] at hr; cases hr
  have hnoall : ∀ (_ : es.toList ≠ []), (es.all fun x => decide (x.born ≥ clock)) = false := by
    intro hne
    cases hall : (es.all fun x => decide (x.born ≥ clock)) with
    | false => rfl
    | true =>
      exfalso
      obtain ⟨x, xs, hx⟩ := List.exists_cons_of_ne_nil hne
      have hm : x ∈ es.toList := by rw [hx]; simp
      have h5 := h2 x hm
      have := (Array.all_eq_true'.1 hall) x (Array.mem_toList_iff.1 hm)
      simp at this
      omega
  have hguard : (!seen.isEmpty && !es.isEmpty && es.all fun x => decide (x.born ≥ clock)) = false := by
    by_cases he : es.toList = []
    · have : es = #[] := by apply Array.ext'; simpa using he
      subst this; simp
    · rw [hnoall he]; simp
  have hold : ((es.filter fun e => !seen.contains e.born).filter fun e => decide (e.born < clock)) = (unseen es seen).toArray := by
    apply Array.ext'
    simp only [Array.toList_filter, unseen]
    rw [List.filter_filter]
    apply List.filter_congr
    intro x hx
    simp [h2 x hx]
  have hnew : ((es.filter fun e => !seen.contains e.born).filter fun e => decide (e.born ≥ clock)) = #[] := by
    apply Array.ext'
    simp only [Array.toList_filter]
    rw [List.filter_filter]
    simp only [Array.toList_empty, List.filter_eq_nil_iff]
    intro x hx
    have := h2 x hx
    simp
    intro; omega
  cases hu : unseen es seen with
  | nil =>
    left
    rw [hu] at h4 hold
    have hl : left = [] := by simpa using h4.symm
    refine ⟨hl, ?_⟩
    simp only [Instr.next, Sem.run_bind, run_getObj_iter hr, run_getObj_map hb, Result.andThen_ok, hguard, Bool.false_eq_true, if_false, hold, hnew]
    simp [Question.forced]
  | cons x0 xs0 =>
    right
    rw [hu] at hold
    have key : ∃ i w1, i < (x0 :: xs0).length ∧ ((choose (.mapNext (x0 :: xs0).length)).run P w = .ok i w1) ∧ w1.heap = w.heap ∧ w1.os = w.os ∧ w1.tape = w.tape ∧ w1.output = w.output := by
      by_cases hf : (Question.mapNext (x0 :: xs0).length).forced = true
      · exact ⟨0, w, by simp, by rw [run_choose, if_pos hf], rfl, rfl, rfl, rfl⟩
      · refine ⟨_, { w with drawn := w.drawn + 1 }, ?_, by rw [run_choose, if_neg hf], rfl, rfl, rfl, rfl⟩
        simp only [Question.cut]
        exact Nat.mod_lt _ (by simp)
    obtain ⟨i, w1, hi, hch, hw1, ho1, ht1, hp1⟩ := key
    obtain ⟨x, hx⟩ : ∃ x, (x0 :: xs0)[i]? = some x := ⟨(x0 :: xs0)[i], by simp [hi]⟩
    have hsplit : (x0 :: xs0) = (x0 :: xs0).take i ++ x :: (x0 :: xs0).drop (i + 1) := by
      have hxi : (x0 :: xs0)[i] = x := by rw [List.getElem?_eq_getElem hi] at hx; exact Option.some.inj hx
      rw [← hxi, ← List.drop_eq_getElem_cons hi, List.take_append_drop]
    have hmem : x ∈ es.toList := by
      have : x ∈ unseen es seen := by rw [hu]; exact List.mem_of_getElem? hx
      exact (List.mem_filter.1 this).1
    rw [hu, hsplit] at h4
    simp only [List.map_append, List.map_cons] at h4
    obtain ⟨l1, lr, hl, e1, e2⟩ := List.map_eq_append_iff.1 h4.symm
    obtain ⟨⟨k, v⟩, l2, hl2, e3, e4⟩ := List.map_eq_cons_iff.1 e2
    subst hl2
    injection e3 with e5 e6
    refine ⟨l1, k, v, l2, { w1 with heap := w1.heap.setIfInBounds r (.mapIter (some mb) clock (seen.push x.born) clock) }, hl, ?_, ?_, ?_⟩
    · have hr1 : w1.heap[r]? = some (.mapIter (some mb) clock seen clock) := by rw [hw1]; exact hr
      have hcand : (((if ((x0 :: xs0).toArray).isEmpty then #[none] else (#[] : Array (Option MapEntry))) ++ ((x0 :: xs0).toArray ++ #[]).map some)) = ((x0 :: xs0).map some).toArray := by
        simp
      have hsz : (((x0 :: xs0).map some).toArray).size = (x0 :: xs0).length := by simp
      have hget : ((((x0 :: xs0).map some).toArray)[i]?) = some (some x) := by
        simp only [List.getElem?_toArray, List.getElem?_map, hx, Option.map_some]
      simp only [Instr.next, Sem.run_bind, run_getObj_iter hr, run_getObj_map hb, Result.andThen_ok, hguard, Bool.false_eq_true, if_false, Sem.run_pure, hold, hnew, hcand, hsz, hch, hget, run_setObj_iter hr1]
      rw [← e5, ← show v = x.val from e6]
    · have hr2 : ({ w1 with heap := w1.heap.setIfInBounds r (.mapIter (some mb) clock (seen.push x.born) clock) } : World).heap[r]? = some (.mapIter (some mb) clock (seen.push x.born) clock) := by simp [hw1, hlt]
      have hb2 : ({ w1 with heap := w1.heap.setIfInBounds r (.mapIter (some mb) clock (seen.push x.born) clock) } : World).heap[mb]? = some (.map es clock) := by
        simp [hw1, Array.getElem?_setIfInBounds, Ne.symm hne, hb]
      have hfind : es.find? (fun y => y.born == x.born) = some x := by
        rw [← Array.find?_toList]
        obtain ⟨a1, a2, ha⟩ := List.append_of_mem hmem
        rw [ha, List.find?_append]
        have hn : a1.find? (fun y => y.born == x.born) = none := by
          rw [List.find?_eq_none]
          intro y hy
          rw [ha] at h3
          simp only [List.map_append, List.map_cons, List.nodup_append] at h3
          have := h3.2.2 y.born (List.mem_map_of_mem hy) x.born (by simp)
          simpa using this
        rw [hn]; simp
      simp only [Instr.entry, Sem.run_bind, run_getObj_iter hr2, run_getObj_map hb2, Result.andThen_ok, Array.back?_push]
      simp [hfind]
      exact ⟨e5.symm, (show v = x.val from e6).symm⟩
    · have hw' : Sep R w1 (pt mb (.map es clock) :: pt r (.mapIter (some mb) clock seen clock) :: l) := H.same ho1 ht1 hp1 hw1
      have hlt1 : r < w1.heap.size := by rw [hw1]; exact hlt
      refine Sep.mkit (seen := seen.push x.born) h1 h2 h3 ?_ (hw'.swap.turn (w' := { w1 with heap := w1.heap.setIfInBounds r (.mapIter (some mb) clock (seen.push x.born) clock) }) (o' := .mapIter (some mb) clock (seen.push x.born) clock) rfl rfl rfl (by simp) (by simp [hlt1]) fun j hj hne => by simp [Array.getElem?_setIfInBounds, Ne.symm hne]).swap
      have hun : unseen es (seen.push x.born) = (x0 :: xs0).take i ++ (x0 :: xs0).drop (i + 1) := by
        have h5 : unseen es (seen.push x.born) = (unseen es seen).filter fun e => !(e.born == x.born) := by
          unfold unseen
          rw [List.filter_filter]
          apply List.filter_congr
          intro y hy
          simp only [Array.contains_push, Bool.not_or]
          rw [Bool.and_comm]
        rw [h5, hu]
        have hnd : ((x0 :: xs0).map (·.born)).Nodup := by
          rw [← hu]
          exact List.Nodup.sublist (List.Sublist.map _ List.filter_sublist) h3
        have hsp2 : (x0 :: xs0).filter (fun e => !(e.born == x.born)) = ((x0 :: xs0).take i ++ x :: (x0 :: xs0).drop (i + 1)).filter (fun e => !(e.born == x.born)) := by rw [← hsplit]
        rw [hsp2]
        rw [hsplit] at hnd
        simp only [List.map_append, List.map_cons, List.nodup_append, List.nodup_cons] at hnd
        rw [List.filter_append, List.filter_cons]
        simp only [beq_self_eq_true, Bool.not_true, Bool.false_eq_true, if_false]
        congr 1
        · rw [List.filter_eq_self]
          intro y hy
          have := hnd.2.2 y.born (List.mem_map_of_mem hy) x.born (by simp)
          simpa using this
        · rw [List.filter_eq_self]
          intro y hy
          have := hnd.2.1.1
          simp only [List.mem_map, not_exists, not_and] at this
          have := this y hy
          simpa using this
      rw [hun, List.map_append, List.map_append, e1, e4]
end
end Go.Orch
end
section
namespace Go.Orch
open Go.RowKit Go.Sort
section
variable {α : Type} [Inhabited α] {R w : World} {l : List HP} {enc : α → Value}
theorem putCells_mid (pre post : List Value) (d d' : List α) (hl : d'.length = d.length) :
    putCells enc pre.length d'.toArray (pre ++ d.map enc ++ post).toArray = (pre ++ d'.map enc ++ post).toArray := by
  apply Array.ext_getElem?
  intro i
  simp only [putCells, Array.getElem?_mapIdx, List.getElem?_toArray, List.size_toArray]
  by_cases h1 : i < pre.length
  · have e1 : (pre ++ d.map enc ++ post)[i]? = some pre[i] := by simp [List.getElem?_append, h1]
    have e2 : (pre ++ d'.map enc ++ post)[i]? = some pre[i] := by simp [List.getElem?_append, h1]
    rw [e1, e2]
    simp; omega
  · obtain ⟨j, rfl⟩ : ∃ j, i = pre.length + j := ⟨i - pre.length, by omega⟩
    by_cases h2 : j < d.length
    · have e1 : (pre ++ d.map enc ++ post)[pre.length + j]? = some (enc d[j]) := by simp [List.append_assoc, List.getElem?_append, h2]
      have e2 : (pre ++ d'.map enc ++ post)[pre.length + j]? = some (enc (d'[j]'(by omega))) := by
        have : j < d'.length := by omega
        simp [List.append_assoc, List.getElem?_append, this]
      rw [e1, e2]
      have h3 : j < d'.length := by omega
      simp [h3]
    · have e1 : (pre ++ d.map enc ++ post)[pre.length + j]? = post[j - d.length]? := by
        rw [List.append_assoc, List.getElem?_append_right (by omega), List.getElem?_append_right (by simp; omega)]
        simp
      have e2 : (pre ++ d'.map enc ++ post)[pre.length + j]? = post[j - d.length]? := by
        rw [List.append_assoc, List.getElem?_append_right (by omega), List.getElem?_append_right (by simp; omega)]
        simp [hl]
      rw [e1, e2]
      have h3 : ¬ (j < d'.length) := by omega
      cases post[j - d.length]? <;> simp [h3]
theorem Sep.holdsRow {b n cap : Nat} {pre post : List Value} {d : List α} (H : Sep R w (cellsAt b (pre ++ d.map enc ++ post).toArray :: l)) : Holds enc w b pre.length d.toArray := by
  intro j hj
  have hj' : j < d.length := by simpa using hj
  refine ⟨H.c _ ?_, H.fz _⟩
  simp [List.getElem?_append, hj', getElem!_pos]
theorem Sep.putRow {b : Nat} {pre post : List Value} {d d' : List α} (hl : d'.length = d.length) (H : Sep R w (cellsAt b (pre ++ d.map enc ++ post).toArray :: l)) :
    Sep R (Sort.putRow enc w b pre.length d'.toArray) (cellsAt b (pre ++ d'.map enc ++ post).toArray :: l) := by
  obtain ⟨t, H⟩ := H.cellsE
  have hb := H.block.2
  have hlt := H.lt
  refine Sep.mkex t (H.turn rfl rfl rfl (by simp) ?_ ?_)
  · rw [← putCells_mid (enc := enc) pre post d d' hl]
    simp [Sort.putRow, mapBlock, Array.getElem?_modify, hb]
    rfl
  · intro k hk hne
    simp [Sort.putRow, mapBlock, Array.getElem?_modify, Ne.symm hne]
theorem Sep.grow (H : Sep R w l) (os : Array Obj) : Sep R (Sort.grow w os) l :=
  H.kept ⟨rfl, rfl, rfl, by simp [Sort.grow], fun i hi => by simp [Sort.grow, Array.getElem?_append, hi]⟩
theorem Sep.ahead (H : Sep R w l) (n : Nat) : Sep R (Sort.ahead w n) l := H.same rfl rfl rfl rfl
theorem Sep.resort {b off n cap : Nat} {d d' : List α} (hl : d'.length = d.length) (H : Sep R w (rowS (.slice (some ⟨b, off, none⟩) n cap) 1 n (d.map enc) :: l)) (k : Nat) (os : Array Obj) :
    Sep R (Sort.grow (Sort.putRow enc (Sort.ahead w k) b off d'.toArray) os) (rowS (.slice (some ⟨b, off, none⟩) n cap) 1 n (d'.map enc) :: l) := by
  obtain ⟨hx, H⟩ := H.prop
  have hh : ∃ pre post, off = List.length pre ∧ n ≤ cap ∧ cap ≤ maxLen ∧ (cap - n) * 1 ≤ List.length post ∧ Sep R w (cellsAt b (pre ++ d.map enc ++ post).toArray :: l) := by
    obtain ⟨bel, h0, hs0, h1, h2, hd, hs1, hs2, hrow, hrest⟩ := H
    rcases hrow with ⟨he, _⟩ | ⟨b', cap', pre, post, he, hnc, hcm, hpost, hc⟩
    · cases he
    · injection he with he1 he2 he3
      injection he1 with he1
      injection he1 with he4 he5
      subst he4 he5 he3
      exact ⟨pre, post, rfl, hnc, hcm, hpost, bel, h0, hs0, h1, h2, hd, hs1, hs2, hc, hrest⟩
  obtain ⟨pre, post, rfl, hnc, hcm, hpost, H2⟩ := hh
  exact Sep.mkprop (by simpa [hl] using hx) ((((H2.ahead k).putRow hl).grow os).imp fun _ hc => .inr ⟨b, cap, pre, post, rfl, hnc, hcm, hpost, hc⟩)
theorem Sep.rowHolds {b off n cap : Nat} {d : List α} (H : Sep R w (rowS (.slice (some ⟨b, off, none⟩) n cap) 1 n (d.map enc) :: l)) : Holds enc w b off d.toArray ∧ b < w.heap.size ∧ d.length = n := by
  obtain ⟨hx, H⟩ := H.prop
  obtain ⟨bel, h0, hs0, h1, h2, hd, hs1, hs2, hrow, hrest⟩ := H
  rcases hrow with ⟨he, _⟩ | ⟨b', cap', pre, post, he, hnc, hcm, hpost, hc⟩
  · cases he
  · injection he with he1 he2 he3
    injection he1 with he1
    injection he1 with he4 he5
    subst he4 he5 he3
    have H2 : Sep R w (cellsAt b (pre ++ d.map enc ++ post).toArray :: l) := ⟨bel, h0, hs0, h1, h2, hd, hs1, hs2, hc, hrest⟩
    exact ⟨H2.holdsRow (n := 0) (cap := 0), H2.clt, by simpa using hx⟩
theorem Sep.rowCases {v : Value} {sz n : Nat} {xs : List Value} (H : Sep R w (rowS v sz n xs :: l)) : (v = .slice none 0 0 ∧ n = 0 ∧ xs = []) ∨ ∃ b off cap, v = .slice (some ⟨b, off, none⟩) n cap := by
  obtain ⟨hx, H⟩ := H.prop
  obtain ⟨bel, h0, hs0, h1, h2, hd, hs1, hs2, hrow, hrest⟩ := H
  rcases hrow with ⟨he, hn⟩ | ⟨b', cap', pre, post, he, _⟩
  · subst hn
    exact .inl ⟨he, rfl, List.eq_nil_of_length_eq_zero (by simpa using hx)⟩
  · exact .inr ⟨b', _, cap', he⟩
end
end Go.Orch
end
section
namespace Go.Orch
open Go.RowKit Go.Sort Go.Proofs
def TreeV.ok (T : TreeV) : Prop := T.length ≤ 1000 ∧ ∀ x ∈ T, x.1.size ≤ 1000
def kidOf (s : ByteArray) (x : ByteArray) : Option ByteArray := if (Go.Proofs.YtpeflgfldbjflaaGreatDoor.pathUp x).1 = s then some (Go.Proofs.YtpeflgfldbjflaaGreatDoor.pathUp x).2 else none
def kidsOf (T : TreeV) (s : ByteArray) : List ByteArray := T.filterMap fun x => kidOf s x.1
def tkids (T : TreeV) (s : ByteArray) : List ByteArray × Int := if (tget T s).2 = 0 then (sortB (kidsOf T s), 0) else ([], (tget T s).2)
abbrev strS (v : Value) (xs : List ByteArray) : HP := listS Value.string v xs
end Go.Orch
namespace Go.Proofs.YtpeflgfldbjflaaGreatDoor
open Go.RowKit Go.Orch Go.Sort
theorem str_info : (Tryz.prog.info? 9).map (fun i => (i.zero, i.size, i.bytes)) = some (some (.string ⟨#[]⟩), 1, 16) := by kernel_rfl
theorem sortStr_any (R w : World) (l : List HP) (v : Value) (xs : List ByteArray) (hx : xs.length ≤ 1000000000) (H : Sep R w (strS v xs :: l)) :
    Calls Tryz.prog 29 #[v] w fun e w' => e = .returned (.tuple #[]) ∧ Sep R w' (strS v (sortB xs) :: l) := by
  rcases H.rowCases with ⟨rfl, hn, hxs⟩ | ⟨b, off, cap, rfl⟩
  · have : xs = [] := by simpa using hxs
    subst this
    refine (Tryz.slices_Sort_string_none none 0 w).mono ?_
    rintro e w' ⟨rfl, rfl⟩
    exact ⟨rfl, by simpa [sortB] using H⟩
  · unfold strS listS at H
    rw [← encStr_bytes] at H
    obtain ⟨hh, hb, hl⟩ := H.rowHolds
    have hc := Tryz.slices_Sort_string b off cap (xs.map fun s => s.data.toList) w hh hb (by simp; omega)
    rw [hl] at hc
    refine hc.mono ?_
    rintro e w' ⟨rfl, n, os, rfl⟩
    refine ⟨rfl, ?_⟩
    have hml : ((xs.map fun s => s.data.toList).mergeSort leB).length = (xs.map fun s => s.data.toList).length := List.length_mergeSort _
    have H2 := H.resort (enc := encStr) hml n os
    unfold strS listS sortB
    rw [List.length_map, hml, ← encStr_bytesOf, List.length_map]
    exact H2
set_option maxRecDepth 100000 in
set_option maxHeartbeats 1000000 in
theorem tkids_any (R w : World) (l : List HP) (G : GoodR R) (b : Nat) (T : TreeV) (hT : T.ok) (s : ByteArray) (hs : s.size ≤ 9000000000000000000) (H : Sep R w (treeAt b T :: l)) :
    Calls Tryz.prog 11 #[.pointer (some ⟨b, 0, none⟩), .string s] w fun e w' => ∃ v, e = .returned (.tuple #[v, .int .i64 (tkids T s).2]) ∧ Sep R w' (strS v (tkids T s).1 :: treeAt b T :: l) := by
  unfold tkids
  have HP := Lib.hid (tget_any R w l G b T s hs H)
  clear H
  generalize tget T s = q at *
  obtain ⟨n, er⟩ := q
  simp only at HP ⊢
  by_cases h1 : er = 0
  case neg =>
    rw [if_neg h1]
    have hb : (er != 0) = true := by simpa using h1
    clear h1
    go_enter Tryz.func11, Tryz.ntmps11
    go_wp2_with fail
    refine HP.out.mono ?_
    rintro e w1 ⟨rfl, H2⟩
    have H3 := Lib.hid (H2.nilRow 1)
    clear H2
    unfold nodeV
    go_wp2
    go_ret2
    exact ⟨_, rfl, (H3.out.mkc _ _).drop⟩
  subst h1
  rw [if_pos rfl]
  obtain ⟨hT1, hT2⟩ := hT
  have HT := Lib.hid hT2
  clear hT2
  go_enter Tryz.func11, Tryz.ntmps11
  go_wp2_with fail
  refine HP.out.mono ?_
  rintro e w1 ⟨rfl, H2⟩
  obtain ⟨mb, H4⟩ := H2.tree
  obtain ⟨d0, fd, ltb⟩ := H4.c1
  obtain ⟨w2, r, hrange, H5⟩ := run_range (P := Tryz.prog) (t := 79) Tryz.underlying79 ((H4.mkc #[.string n.data, .int .i64 n.version, .int .i64 n.below, .int .i64 n.owner, .int .i64 n.made, .int .i64 n.set, .int .i64 n.serial] 33).drop.swap)
  have H6 := Lib.hid (H5.nilRow 1)
  clear H2 H4 H5
  unfold nodeV
  go_wp2_with fail
  go_loopw [8] (fun v wr => ∃ (done left : List (ByteArray × NodeV)), (done ++ left).Perm T ∧ Sep R wr (strS v (kidsOf done s) :: itAt strK mb r (treeM T) (treeM left) :: cellsAt b #[.map (some mb)] :: l)) (fun _ wr => itLeft wr mb r)
  case atStart => exact ⟨[], T, List.Perm.refl _, H6.out⟩
  case round =>
    obtain ⟨done, left, hperm, H7⟩ := hrel
    have H8 := Lib.hid H7
    have HPm := Lib.hid hperm
    obtain ⟨wo, rfl⟩ : ∃ wo : World, wo = wr := ⟨_, rfl⟩
    rcases run_next (P := Tryz.prog) H7.swap 0 with ⟨hl0, hnext⟩ | ⟨l1, k, kv, l2, w3, hl, hnext, hentry, H9⟩
    · have hl1 : left = [] := by simpa [treeM] using hl0
      subst hl1
      have hlen : (kidsOf done s).length ≤ 1000000000 := by
        have h1 := List.length_filterMap_le (fun x : ByteArray × NodeV => kidOf s x.1) done
        have h2 := HPm.out.length_eq
        simp at h2
        unfold kidsOf
        omega
      have hsort : sortB (kidsOf done s) = sortB (kidsOf T s) := sortB_perm (by have := HPm.out; rw [List.append_nil] at this; exact this.filterMap _)
      have HS := Lib.hid (sortStr_any R wo _ _ _ hlen H8.out)
      have HSo := Lib.hid hsort
      clear H7 hperm hlen hsort hl0
      go_wp2_with fail
      refine Calls.mono HS.out ?_
      rintro e w3 ⟨rfl, H10⟩
      have H11 : Sep R w3 (strS u8 (sortB (kidsOf T s)) :: treeAt b T :: l) := by
        rw [← HSo.out]
        exact H10.swap.itMap.rot3.mktree.swap
      have H12 := Lib.hid H11
      clear H10 H11
      go_wp2
      go_ret2
      exact ⟨_, rfl, H12.out⟩
    · obtain ⟨left1, lr, hle, e1, e2⟩ := List.map_eq_append_iff.1 hl
      obtain ⟨⟨k', nd⟩, left2, hl2, e3, e4⟩ := List.map_eq_cons_iff.1 e2
      injection e3 with e5 e6
      subst e5 hl2 hle e1 e4
      have hks : k'.size ≤ 1000000000 := by
        have : (k', nd) ∈ T := HPm.out.subset (by simp)
        have := HT.out _ this
        simp at this; omega
      have hp2 : ((done ++ [(k', nd)]) ++ (left1 ++ left2)).Perm T := by
        refine List.Perm.trans ?_ HPm.out
        rw [List.append_assoc]
        exact List.Perm.append_left done (by simpa using (List.perm_middle (a := (k', nd)) (l₁ := left1) (l₂ := left2)).symm)
      have HP2 := Lib.hid hp2
      have hms : treeM left1 ++ treeM left2 = treeM (left1 ++ left2) := by simp [treeM]
      have H10 : Sep R w3 (itAt strK mb r (treeM T) (treeM (left1 ++ left2)) :: strS u8 (kidsOf done s) :: cellsAt b #[.map (some mb)] :: l) := by rw [← hms]; exact H9
      have hct : itLeft w3 mb r < itLeft wo mb r := by rw [H10.itCount, H7.swap.itCount]; simp [treeM]
      have hcn : itLeft w3 mb r = (left1 ++ left2).length := by rw [H10.itCount]; simp [treeM]
      have HCT := Lib.hid hct
      have HCN := Lib.hid hcn
      have HU := Lib.hid (up_any R w3 _ k' hks H10.swap)
      have hentry' : (Instr.entry (.pointer (some ⟨r, 0, none⟩))).run Tryz.prog w3 = .ok (.tuple #[.string k', kv]) w3 := hentry
      have hnext' : (Instr.next (.pointer (some ⟨r, 0, none⟩)) false 0).run Tryz.prog wo = .ok (.tuple #[.bool true, .string k', kv]) w3 := hnext
      have hko : kidsOf (done ++ [(k', nd)]) s = kidsOf done s ++ (if (pathUp k').1 = s then [(pathUp k').2] else []) := by
        unfold kidsOf kidOf
        rw [List.filterMap_append]
        congr 1
        simp only [List.filterMap_cons, List.filterMap_nil]
        by_cases hu : (pathUp k').1 = s
        · rw [if_pos hu, if_pos hu]
        · rw [if_neg hu, if_neg hu]
      have HKO := Lib.hid hko
      generalize pathUp k' = pu at *
      obtain ⟨up, last⟩ := pu
      simp only at HU HKO
      clear H7 hperm hl H9 H10 hp2 hms e2 hct hcn hko hnext hentry
      by_cases hu : up = s
      · have hu1 : (up.toList == s.toList) = true := by simp [hu]
        have hkk : kidsOf (done ++ [(k', nd)]) s = kidsOf done s ++ [last] := by rw [HKO.out, if_pos hu]
        have HKK := Lib.hid hkk
        have hlen : (kidsOf done s).length ≤ 1000 := by
          have h1 := List.length_filterMap_le (fun x : ByteArray × NodeV => kidOf s x.1) done
          have h2 := HPm.out.length_eq
          simp at h2
          unfold kidsOf
          omega
        have HLn := Lib.hid hlen
        clear hkk hlen hu
        go_wp2_with fail
        refine Calls.mono HU.out ?_
        rintro e w4 ⟨rfl, H11⟩
        have H12 := Lib.hid H11
        clear H11
        go_wp2_with (at_builtin; refine Hid.out ?_)
        refine Lib.hid (wpList_append_list (enc := Value.string) (news := [last]) rfl _ _ 25 25 9 rfl Tryz.underlying25 Tryz.underlying25 (.inr ⟨_, rfl⟩) str_info rfl rfl rfl (Src.one1 last rfl rfl (H12.out.mkc _ _)) (H12.out.mkc _ _).swap ?c1 ?c2 ?_)
        case c1 => have := HLn.out; unfold maxLen; simp; omega
        case c2 => have := HLn.out; simp; omega
        intro v' w5 H13
        have hc4 : itLeft w5 mb r < itLeft wo mb r := by
          rw [H13.swap.drop.swap.itCount]
          have := HCT.out
          rw [HCN.out] at this
          simpa [treeM] using this
        have HC4 := Lib.hid hc4
        have H14 := Lib.hid H13.swap.drop
        clear H13 hc4
        go_wp2_with fail
        go_roundw
        case rel => exact ⟨done ++ [(k', nd)], left1 ++ left2, HP2.out, by rw [HKK.out]; exact H14.out⟩
        case measure => exact HC4.out
      · have hu1 : (up.toList == s.toList) = false := by
          rw [ByteArray.toList_eq, ByteArray.toList_eq]
          simp only [beq_eq_false_iff_ne]
          intro h
          exact hu (by cases up; cases s; simp at h; simp [h])
        have hkk : kidsOf (done ++ [(k', nd)]) s = kidsOf done s := by rw [HKO.out, if_neg hu, List.append_nil]
        have HKK := Lib.hid hkk
        clear hkk hu
        go_wp2_with fail
        refine Calls.mono HU.out ?_
        rintro e w4 ⟨rfl, H11⟩
        have hc4 : itLeft w4 mb r < itLeft wo mb r := by
          rw [H11.swap.itCount]
          have := HCT.out
          rw [HCN.out] at this
          simpa [treeM] using this
        have HC4 := Lib.hid hc4
        have H12 := Lib.hid H11
        clear H11 hc4
        go_wp2_with fail
        go_roundw
        case rel => exact ⟨done ++ [(k', nd)], left1 ++ left2, HP2.out, by rw [HKK.out]; exact H12.out⟩
        case measure => exact HC4.out
end Go.Proofs.YtpeflgfldbjflaaGreatDoor
end
section
namespace Go.Orch
open Go.RowKit
def Tab.ok (T : Tab) : Prop := T.length ≤ 16 ∧ (∀ x ∈ T, (Lit.int .i64 x.1).wf = true) ∧ (T.map (·.1)).Nodup
def TreeV.wf (T : TreeV) : Prop := T.ok ∧ (T.map (·.1)).Nodup
theorem Sep.mapclone {α : Type} [DecidableEq α] {K : KK α} {R w : World} {l : List HP} {b : Nat} {m : List (α × Value)} (H : Sep R w (mapAt K b m :: l)) :
    ∃ es clock, w.heap[b]? = some (.map es clock) ∧ Sep R (w.alloc (.map es clock)) (mapAt K w.heap.size m :: mapAt K b m :: l) := by
  obtain ⟨es, clock, h1, h2, h3, H1⟩ := H.mapE
  exact ⟨es, clock, H1.block.2, ((H1.alloc (.map es clock)).mkmap h1 h2 h3).swap.mkmap h1 h2 h3 |>.swap⟩
end Go.Orch
namespace Go.Proofs
open Go.RowKit Go.Maps Go.Sort Go.Shelf Go.Orch
namespace YtpeflgfldbjflaaGreatDoor
theorem cloneN_any (R w : World) (l : List HP) (b : Nat) (m : List (ByteArray × Value)) (H : Sep R w (mapAt strK b m :: l)) :
    Calls Tryz.prog 72 #[.map (some b)] w fun e w' => ∃ b', e = .returned (.map (some b')) ∧ Sep R w' (mapAt strK b' m :: mapAt strK b m :: l) := by
  obtain ⟨es, clock, hb, H1⟩ := H.mapclone
  refine Calls.mono (AnyW.maps_Clone Tryz.cloneN b es clock w hb) ?_
  rintro e w' ⟨rfl, rfl⟩
  exact ⟨_, rfl, H1⟩
theorem cloneS_any (R w : World) (l : List HP) (b : Nat) (m : List (Int × Value)) (H : Sep R w (mapAt intK b m :: l)) :
    Calls Tryz.prog 73 #[.map (some b)] w fun e w' => ∃ b', e = .returned (.map (some b')) ∧ Sep R w' (mapAt intK b' m :: mapAt intK b m :: l) := by
  obtain ⟨es, clock, hb, H1⟩ := H.mapclone
  refine Calls.mono (AnyW.maps_Clone Tryz.cloneS b es clock w hb) ?_
  rintro e w' ⟨rfl, rfl⟩
  exact ⟨_, rfl, H1⟩
set_option maxHeartbeats 400000 in
theorem sessAll_any (R w : World) (l : List HP) (b : Nat) (T : Tab) (hT : T.ok) (H : Sep R w (tabAt b T :: l)) :
    Calls Tryz.prog 82 #[.pointer (some ⟨b, 0, none⟩)] w fun e w' => ∃ v, e = .returned v ∧ Sep R w' (listS (Value.int .i64) v (Orch.sortI (T.map (·.1))) :: tabAt b T :: l) := by
  obtain ⟨mb, H1⟩ := H.tab
  have c0 : w.cell? ⟨b, 0, none⟩ = some (.map (some mb)) := H1.c 0 rfl
  have hk := Lib.hid (keysI_any (some mb) w)
  have hs := sortedI_any R w _ mb (tabM T) (by intro x hx; simp only [tabM, List.mem_map] at hx; obtain ⟨y, hy, rfl⟩ := hx; exact hT.2.1 y hy) (by have := hT.1; simp only [tabM, List.length_map]; omega) (by simpa [tabM, List.map_map, Function.comp_def] using hT.2.2) H1.swap
  rw [show (tabM T).map (·.1) = T.map (·.1) by simp [tabM, List.map_map, Function.comp_def]] at hs
  have HS := Lib.hid hs
  clear hs H H1
  go_enter Tryz.func82, Tryz.ntmps82
  go_wp2_with fail
  refine hk.out.mono ?_
  rintro e w1 ⟨rfl, rfl⟩
  go_wp2_with fail
  refine HS.out.mono ?_
  rintro e w1 ⟨v, rfl, H1⟩
  go_wp2
  go_ret
  refine ⟨v, rfl, ((H1.front 1 rfl).front 2 rfl).mktab.swap⟩
set_option maxHeartbeats 400000 in
theorem sessClone_any (R w : World) (l : List HP) (b : Nat) (T : Tab) (H : Sep R w (tabAt b T :: l)) :
    Calls Tryz.prog 47 #[.pointer (some ⟨b, 0, none⟩)] w fun e w' => ∃ b', e = .returned (.pointer (some ⟨b', 0, none⟩)) ∧ Sep R w' (tabAt b' T :: tabAt b T :: l) := by
  obtain ⟨mb, H1⟩ := H.tab
  have c0 : w.cell? ⟨b, 0, none⟩ = some (.map (some mb)) := H1.c 0 rfl
  have HS := Lib.hid (cloneS_any R w _ mb (tabM T) H1.swap)
  clear H H1
  go_enter Tryz.func47, Tryz.ntmps47
  go_wp2_with fail
  refine HS.out.mono ?_
  rintro e w1 ⟨b', rfl, H1⟩
  have H2 := Lib.hid H1
  clear H1
  go_wp2
  go_ret
  exact ⟨_, rfl, (((H2.out.mkc #[.map (some b')] _).mktab.front 1 rfl).front 2 rfl).mktab.swap⟩
set_option maxHeartbeats 400000 in
theorem treePaths_any (R w : World) (l : List HP) (b : Nat) (T : TreeV) (hT : T.wf) (H : Sep R w (treeAt b T :: l)) :
    Calls Tryz.prog 122 #[.pointer (some ⟨b, 0, none⟩)] w fun e w' => ∃ v, e = .returned v ∧ Sep R w' (strS v (sortB (T.map (·.1))) :: treeAt b T :: l) := by
  obtain ⟨mb, H1⟩ := H.tree
  have c0 : w.cell? ⟨b, 0, none⟩ = some (.map (some mb)) := H1.c 0 rfl
  have hk := Lib.hid (keysN_any (some mb) w)
  have hml : (1000000 : Nat) ≤ maxLen := by decide
  have hs := sortedN_any R w _ mb (treeM T) (by intro x hx; simp only [treeM, List.mem_map] at hx; obtain ⟨y, hy, rfl⟩ := hx; have := hT.1.2 y hy; simp only; omega) (by have := hT.1.1; simp only [treeM, List.length_map]; omega) (by simpa [treeM, List.map_map, Function.comp_def] using hT.2) H1.swap
  rw [show (treeM T).map (·.1) = T.map (·.1) by simp [treeM, List.map_map, Function.comp_def]] at hs
  have HS := Lib.hid hs
  clear hs H H1
  go_enter Tryz.func122, Tryz.ntmps122
  go_wp2_with fail
  refine hk.out.mono ?_
  rintro e w1 ⟨rfl, rfl⟩
  go_wp2_with fail
  refine HS.out.mono ?_
  rintro e w1 ⟨v, rfl, H1⟩
  go_wp2
  go_ret
  refine ⟨v, rfl, ((H1.front 1 rfl).front 2 rfl).mktree.swap⟩
set_option maxHeartbeats 400000 in
theorem treeClone_any (R w : World) (l : List HP) (b : Nat) (T : TreeV) (H : Sep R w (treeAt b T :: l)) :
    Calls Tryz.prog 46 #[.pointer (some ⟨b, 0, none⟩)] w fun e w' => ∃ b', e = .returned (.pointer (some ⟨b', 0, none⟩)) ∧ Sep R w' (treeAt b' T :: treeAt b T :: l) := by
  obtain ⟨mb, H1⟩ := H.tree
  have c0 : w.cell? ⟨b, 0, none⟩ = some (.map (some mb)) := H1.c 0 rfl
  have HS := Lib.hid (cloneN_any R w _ mb (treeM T) H1.swap)
  clear H H1
  go_enter Tryz.func46, Tryz.ntmps46
  go_wp2_with fail
  refine HS.out.mono ?_
  rintro e w1 ⟨b', rfl, H1⟩
  have H2 := Lib.hid H1
  clear H1
  go_wp2
  go_ret
  exact ⟨_, rfl, (((H2.out.mkc #[.map (some b')] _).mktree.front 1 rfl).front 2 rfl).mktree.swap⟩
end YtpeflgfldbjflaaGreatDoor
end Go.Proofs
end
