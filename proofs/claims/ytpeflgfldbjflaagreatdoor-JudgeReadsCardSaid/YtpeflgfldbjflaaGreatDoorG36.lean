/- WHAT IS PROVED HERE: Package judge: the value, New, Wrong, Told, Known, bad; Package judge: slices.Contains over events; Package judge: what hear and Commit come to, in plain Lean. -/
import Derived.Test.YtpeflgfldbjflaaGreatDoorG35
import Derived.Shelf.SlicesQ.Contains
import Derived.Test.YtpeflgfldbjflaaGreatDoorG01
set_option linter.unusedVariables false
set_option linter.unusedSimpArgs false
set_option linter.unusedSectionVars false
set_option linter.unnecessarySimpa false
section
namespace Go.Orch
open Go.RowKit Go.Proofs
structure JuV where
  texts : List (Int × ByteArray)
  states : List StV
  events : List (Int × List EventV)
  told : Int
  wrong : Int
def ptrV (b : Nat) : Value := .pointer (some ⟨b, 0, none⟩)
def textM (m : List (Int × ByteArray)) : List (Int × Value) := m.map fun x => (x.1, .string x.2)
def evM (es : List (Int × Value × List EventV)) : List (Int × Value) := es.map fun x => (x.1, x.2.1)
def evRows (es : List (Int × Value × List EventV)) : List HP := es.map fun x => eventS x.2.1 x.2.2
def juCells (tb eb : Nat) (sv : Value) (J : JuV) : Array Value := #[.map (some tb), sv, .map (some eb), .int .i64 J.told, .int .i64 J.wrong]
def juAt (b : Nat) (J : JuV) : HP := fun h => ∃ (tb eb : Nat) (sv : Value) (bs : List Nat) (es : List (Int × Value × List EventV)), (es.map (fun x => (x.1, x.2.2)) = J.events ∧ bs.length = J.states.length) ∧
  sepl (cellsAt b (juCells tb eb sv J) :: mapAt intK tb (textM J.texts) :: listS ptrV sv bs :: mapAt intK eb (evM es) :: (evRows es ++ List.zipWith stAt bs J.states)) h
theorem Sep.ju {R w : World} {l : List HP} {b : Nat} {J : JuV} (H : Orch.Sep R w (juAt b J :: l)) : ∃ (tb eb : Nat) (sv : Value) (bs : List Nat) (es : List (Int × Value × List EventV)), es.map (fun x => (x.1, x.2.2)) = J.events ∧ bs.length = J.states.length ∧
    Orch.Sep R w (cellsAt b (juCells tb eb sv J) :: mapAt intK tb (textM J.texts) :: listS ptrV sv bs :: mapAt intK eb (evM es) :: (evRows es ++ (List.zipWith stAt bs J.states ++ l))) := by
  obtain ⟨tb, H⟩ := H.ex
  obtain ⟨eb, H⟩ := H.ex
  obtain ⟨sv, H⟩ := H.ex
  obtain ⟨bs, H⟩ := H.ex
  obtain ⟨es, H⟩ := H.ex
  obtain ⟨⟨h1, h2⟩, H⟩ := H.prop
  have H := H.apart
  rw [List.cons_append, List.cons_append, List.cons_append, List.cons_append, List.append_assoc] at H
  exact ⟨tb, eb, sv, bs, es, h1, h2, H⟩
theorem Sep.mkju {R w : World} {l : List HP} {b tb eb : Nat} {sv : Value} {bs : List Nat} {es : List (Int × Value × List EventV)} {J : JuV} (h1 : es.map (fun x => (x.1, x.2.2)) = J.events) (h2 : bs.length = J.states.length)
    (H : Orch.Sep R w (cellsAt b (juCells tb eb sv J) :: mapAt intK tb (textM J.texts) :: listS ptrV sv bs :: mapAt intK eb (evM es) :: (evRows es ++ (List.zipWith stAt bs J.states ++ l)))) : Orch.Sep R w (juAt b J :: l) :=
  Sep.mkex tb (Sep.mkex eb (Sep.mkex sv (Sep.mkex bs (Sep.mkex es (Sep.mkprop ⟨h1, h2⟩ (Sep.join (by rw [List.cons_append, List.cons_append, List.cons_append, List.cons_append, List.append_assoc]; exact H)))))))
def juZ : JuV := ⟨[], [stZ], [], 0, 0⟩
end Go.Orch
namespace Go.Proofs.YtpeflgfldbjflaaGreatDoor
open Go.RowKit Go.Orch Go.Shelf
theorem juNew_any (R w : World) (l : List HP) (H : Orch.Sep R w l) :
    Calls Tryz.prog 8 #[] w fun e w' => ∃ b, e = .returned (.pointer (some ⟨b, 0, none⟩)) ∧ Orch.Sep R w' (juAt b juZ :: l) := by
  have H1 := Lib.hid ((H.alloc (.map #[] 0)).mkmap (K := intK) (m := textM []) (es := #[]) rfl (by simp) (by simp))
  clear H
  have hmm := @run_makeMap Tryz.prog
  go_enter Tryz.func8, Tryz.ntmps8
  go_wp2_with fail
  refine Calls.mono (stNew_any R _ _ H1.out) ?_
  rintro e w1 ⟨sb, rfl, H2⟩
  have H3 := Lib.hid H2
  clear H2
  go_wp2
  go_ret
  refine ⟨_, rfl, ?_⟩
  have H4 : Orch.Sep R _ (listS ptrV (.slice (some ⟨w1.heap.size, 0, none⟩) 1 1) [sb] :: _) := (H3.out.mkc #[.pointer (some ⟨sb, 0, none⟩)] 36).imp (B := listS ptrV (.slice (some ⟨w1.heap.size, 0, none⟩) 1 1) [sb]) (fun h hh => ⟨rfl, Or.inr ⟨w1.heap.size, 1, [], [], rfl, Nat.le_refl _, by decide, by simp, hh⟩⟩)
  have H5 := ((H4.alloc (.map #[] 0)).mkmap (K := intK) (m := evM []) (es := #[]) rfl (by simp) (by simp)).mkc #[.map (some w.heap.size), .slice (some ⟨w1.heap.size, 0, none⟩) 1 1, .map (some (w1.heap.size + 1)), .int .i64 0, .int .i64 0] 73
  simp only [World.size_alloc] at H5
  exact Sep.mkju (J := juZ) (bs := [sb]) (es := []) rfl rfl ((Sep.f3 (Sep.f4 (Sep.f2 (Sep.f1 (H5))))))
theorem juWrong_any (R w : World) (l : List HP) (b : Nat) (J : JuV) (H : Orch.Sep R w (juAt b J :: l)) :
    Calls Tryz.prog 13 #[.pointer (some ⟨b, 0, none⟩)] w fun e w' => e = .returned (.int .i64 J.wrong) ∧ Orch.Sep R w' (juAt b J :: l) := by
  have HJ := Lib.hid H
  obtain ⟨tb, eb, sv, bs, es, h1, h2, H1⟩ := H.ju
  have c4 : w.cell? ⟨b, 4, none⟩ = some (.int .i64 J.wrong) := H1.c 4 rfl
  clear H H1 h1 h2
  go_enter Tryz.func13, Tryz.ntmps13
  go_wp2
  go_ret
  exact ⟨rfl, HJ.out⟩
theorem juTold_any (R w : World) (l : List HP) (b : Nat) (J : JuV) (H : Orch.Sep R w (juAt b J :: l)) :
    Calls Tryz.prog 17 #[.pointer (some ⟨b, 0, none⟩)] w fun e w' => e = .returned (.int .i64 J.told) ∧ Orch.Sep R w' (juAt b J :: l) := by
  have HJ := Lib.hid H
  obtain ⟨tb, eb, sv, bs, es, h1, h2, H1⟩ := H.ju
  have c3 : w.cell? ⟨b, 3, none⟩ = some (.int .i64 J.told) := H1.c 3 rfl
  clear H H1 h1 h2
  go_enter Tryz.func17, Tryz.ntmps17
  go_wp2
  go_ret
  exact ⟨rfl, HJ.out⟩
theorem juKnown_any (R w : World) (l : List HP) (b : Nat) (J : JuV) (hl : J.states.length ≤ 1000000) (H : Orch.Sep R w (juAt b J :: l)) :
    Calls Tryz.prog 18 #[.pointer (some ⟨b, 0, none⟩)] w fun e w' => e = .returned (.int .i64 ((J.states.length : Int) - 1)) ∧ Orch.Sep R w' (juAt b J :: l) := by
  have HJ := Lib.hid H
  obtain ⟨tb, eb, sv, bs, es, h1, h2, H1⟩ := H.ju
  rw [← h2]
  rw [← h2] at hl
  obtain ⟨p, c, rfl⟩ := ((Sep.f2 (H1))).listSlice
  have c1 : w.cell? ⟨b, 1, none⟩ = some (.slice p bs.length c) := H1.c 1 rfl
  clear H H1 h1 h2
  go_enter Tryz.func18, Tryz.ntmps18
  go_wp2
  go_ret
  refine ⟨?_, HJ.out⟩
  first
  | rfl
  | (congr 2; simp; omega)
def bad_ (J : JuV) (is : Bool) : JuV := if is then { J with wrong := 6 } else J
theorem juBad_any (R w : World) (l : List HP) (b : Nat) (J : JuV) (is : Bool) (H : Orch.Sep R w (juAt b J :: l)) :
    Calls Tryz.prog 25 #[.pointer (some ⟨b, 0, none⟩), .bool is] w fun e w' => e = .returned (.bool !is) ∧ Orch.Sep R w' (juAt b (bad_ J is) :: l) := by
  obtain ⟨tb, eb, sv, bs, es, h1, h2, H1⟩ := H.ju
  obtain ⟨c0, c1, c2, c3, c4, fz, lt⟩ := H1.c5
  have HJ := Lib.hid H
  have HK : Hid (Orch.Sep R (w.setCell ⟨b, 4, none⟩ (.int .i64 6)) (juAt b { J with wrong := 6 } :: l)) := Lib.hid (Sep.mkju (J := { J with wrong := 6 }) h1 h2 (H1.st 4 (.int .i64 6)))
  clear H H1 h1 h2
  cases is
  · go_enter Tryz.func25, Tryz.ntmps25
    go_wp2
    go_ret
    exact ⟨rfl, HJ.out⟩
  · go_enter Tryz.func25, Tryz.ntmps25
    go_wp2
    go_ret
    exact ⟨rfl, HK.out⟩
end Go.Proofs.YtpeflgfldbjflaaGreatDoor
end
section
namespace Go.Proofs
open Go.RowKit Go.Shelf Go.Orch
namespace YtpeflgfldbjflaaGreatDoor
instance : Inhabited EventV := ⟨⟨0, 0, ⟨#[]⟩, 0, 0⟩⟩
theorem eqlEvent : EqlAt Tryz.prog 110 (fun x => .agg (eventC x).toArray) (fun x y => decide (x = y)) := by
  refine ⟨fun x y w => ?_, GuardAt.agg _ (by kernel_rfl)⟩
  have u1 := Tryz.underlying108
  have u2 := Tryz.underlying9
  have u3 := Tryz.underlying3
  have hS : Tryz.prog.underlying 110 = some (.struct (Tryz.prog.fieldsOf 110)) := by kernel_rfl
  have hp : Tryz.prog.stoodInHeld 110 = false := by kernel_rfl
  obtain ⟨a1, a2, a3, a4, a5⟩ := x
  obtain ⟨b1, b2, b3, b4, b5⟩ := y
  simp only [eventC]
  rw [run_eql_struct, show (10000 : Nat) = 9999 + 1 from rfl, run_equalIn_agg w 9999 110 _ _ hS hp]
  simp only [Program.fieldsOf, Tryz.underlying110]
  have e2 := tl_beq1 a3 b3
  go_simp
  by_cases h1 : a1 = b1 <;> by_cases h2 : a2 = b2 <;> by_cases h3 : a3 = b3 <;> by_cases h4 : a4 = b4 <;> by_cases h5 : a5 = b5 <;> simp [h1, h2, h3, h4, h5]
theorem any_mem (x : EventV) : ∀ xs : List EventV, (xs.any fun y => decide (x = y)) = decide (x ∈ xs)
  | [] => by simp
  | y :: ys => by rw [List.any_cons, any_mem x ys]; simp
theorem contE_some (b off c : Nat) (xs : List EventV) (x : EventV) (hx : xs.length ≤ 1000000000) (w : World) (h : ∀ j, j < xs.length → ∀ i v, (eventC xs[j]!)[i]? = some v → w.cell? ⟨b, off + j * 5 + i, none⟩ = some v) :
    Calls Tryz.prog 53 #[.slice (some ⟨b, off, none⟩) xs.length c, .agg (eventC x).toArray] w fun e w' => e = .returned (.bool (decide (x ∈ xs))) ∧ Below w.heap.size w w' := by
  have := AnyQ.slices_Contains Tryz.containsE 5 Tryz.isAgg110 Tryz.sizeOf110 eventC (fun _ => rfl) (fun x y => decide (x = y)) eqlEvent b off xs.length c xs x w (Nat.le_refl _) (by omega) h
  rw [List.take_length] at this
  refine this.mono ?_
  rintro e w' ⟨rfl, hb⟩
  exact ⟨by rw [any_mem], hb⟩
theorem idxE_nil (x : EventV) (w : World) :
    Calls Tryz.prog 84 #[.slice none 0 0, .agg (eventC x).toArray] w fun e w' => e = .returned (.int .i64 (-1)) ∧ Below w.heap.size w w' := by
  simp only [eventC]
  go_enter Tryz.func84, Tryz.ntmps84
  go_wp2_with fail
  refine wp_loop_rounds 1 ?_
  rw [rounds_succ]
  go_wp2
  go_ret
  exact ⟨rfl, (Below.refl _ _).alloc (Nat.le_refl _) _⟩
theorem contE_nil (x : EventV) (w : World) :
    Calls Tryz.prog 53 #[.slice none 0 0, .agg (eventC x).toArray] w fun e w' => e = .returned (.bool false) ∧ Below w.heap.size w w' := by
  have hI := fun w => idxE_nil x w
  simp only [eventC] at hI ⊢
  go_enter Tryz.func53, Tryz.ntmps53
  go_wp2_with fail
  refine (hI _).mono ?_
  rintro e w' ⟨rfl, hb⟩
  go_wp2
  go_ret
  exact ⟨rfl, ((Below.refl _ _).alloc (Nat.le_refl _) _).trans (hb.mono (by simp))⟩
theorem contE_any (R w : World) (l : List HP) (v : Value) (xs : List EventV) (x : EventV) (hx : xs.length ≤ 1000000000) (H : Orch.Sep R w (eventS v xs :: l)) :
    Calls Tryz.prog 53 #[v, .agg (eventC x).toArray] w fun e w' => e = .returned (.bool (decide (x ∈ xs))) ∧ Orch.Sep R w' (eventS v xs :: l) := by
  rcases H.recOpen with ⟨rfl, rfl, H1⟩ | ⟨b, cap, pre, post, rfl, h1, h2, h3, h4, H1⟩
  · refine (contE_nil x w).mono ?_
    rintro e w' ⟨rfl, hb⟩
    exact ⟨by simp, H.kept hb⟩
  · refine (contE_some b pre.length cap xs x hx w (fun j hj i v hv => H1.elem (sz := 5) (fun _ => rfl) j hj i (by simpa [hj] using hv))).mono ?_
    rintro e w' ⟨rfl, hb⟩
    exact ⟨rfl, H.kept hb⟩
end YtpeflgfldbjflaaGreatDoor
end Go.Proofs
end
section
namespace Go.Orch
open Go.RowKit
abbrev EvM := List (Int × List EventV)
def hearOne (E : EvM) (id : Int) (e : EventV) : EvM :=
  if e ∈ (aget E id).getD [] then E else aput E id ((aget E id).getD [] ++ [e])
def hearAll (E : EvM) (id : Int) (es : List EventV) : EvM := es.foldl (fun E e => hearOne E id e) E
def hear_ (E : EvM) (S : StV) : EvM := (sortI (S.tab.map (·.1))).foldl (fun E id => hearAll E id (S.book.eventsOf id)) E
def juLast (J : JuV) : StV := J.states.getLastD stZ
def juStep (J : JuV) : Option JuV := (aget J.texts (J.states.length : Int)).map fun t =>
  { J with states := J.states ++ [(stApply (juLast J) t).2], events := hear_ J.events (stApply (juLast J) t).2 }
def juRun : Nat → JuV → JuV
  | 0, J => J
  | f + 1, J => match juStep J with
    | none => J
    | some J' => juRun f J'
def juCommit (J : JuV) (i : Int) (text : ByteArray) : Bool × JuV := match aget J.texts i with
  | some t => (!decide (t ≠ text), Go.Proofs.YtpeflgfldbjflaaGreatDoor.bad_ J (decide (t ≠ text)))
  | none => (true, juRun (J.texts.length + 2) { J with texts := aput J.texts i text })
end Go.Orch
namespace Go.Orch
def evL (es : List (Int × Value × List EventV)) : EvM := es.map fun x => (x.1, x.2.2)
theorem ev_some (id : Int) (ys : List EventV) : ∀ es : List (Int × Value × List EventV), aget (evL es) id = some ys →
    ∃ e1 v e2, es = e1 ++ (id, v, ys) :: e2 ∧ aget (evM es) id = some v ∧ ∀ v' ys', aput (evM es) id v' = evM (e1 ++ (id, v', ys') :: e2) ∧ aput (evL es) id ys' = evL (e1 ++ (id, v', ys') :: e2)
  | [], h => by simp [evL, aget] at h
  | (k, v, zs) :: es, h => by
    by_cases hk : k = id
    · subst hk
      have : zs = ys := by simpa [evL, aget] using h
      subst this
      exact ⟨[], v, es, rfl, by simp [evM, aget], fun v' ys' => ⟨by simp [evM, aput], by simp [evL, aput]⟩⟩
    · have h' : aget (evL es) id = some ys := by simpa [evL, aget, hk] using h
      obtain ⟨e1, v0, e2, he, hg, hp⟩ := ev_some id ys es h'
      refine ⟨(k, v, zs) :: e1, v0, e2, by rw [he]; rfl, by simpa [evM, aget, hk] using hg, fun v' ys' => ?_⟩
      have := hp v' ys'
      exact ⟨by simpa [evM, aput, hk] using this.1, by simpa [evL, aput, hk] using this.2⟩
theorem ev_none (id : Int) : ∀ es : List (Int × Value × List EventV), aget (evL es) id = none →
    aget (evM es) id = none ∧ ∀ v' ys', aput (evM es) id v' = evM (es ++ [(id, v', ys')]) ∧ aput (evL es) id ys' = evL (es ++ [(id, v', ys')])
  | [], h => ⟨rfl, fun v' ys' => ⟨by simp [evM, aput], by simp [evL, aput]⟩⟩
  | (k, v, zs) :: es, h => by
    by_cases hk : k = id
    · subst hk
      simp [evL, aget] at h
    · have h' : aget (evL es) id = none := by simpa [evL, aget, hk] using h
      obtain ⟨hg, hp⟩ := ev_none id es h'
      refine ⟨by simpa [evM, aget, hk] using hg, fun v' ys' => ?_⟩
      have := hp v' ys'
      exact ⟨by simpa [evM, aput, hk] using this.1, by simpa [evL, aput, hk] using this.2⟩
end Go.Orch
namespace Go.Orch
open Go.RowKit
theorem evRows_perm (e1 e2 : List (Int × Value × List EventV)) (id : Int) (v : Value) (ys : List EventV) (l : List HP) : (evRows (e1 ++ (id, v, ys) :: e2) ++ l).Perm (eventS v ys :: (evRows (e1 ++ e2) ++ l)) := by
  simp only [evRows, List.map_append, List.map_cons, List.append_assoc, List.cons_append]
  exact List.perm_middle
theorem Sep.evTake {R w : World} {e1 e2 : List (Int × Value × List EventV)} {id : Int} {v : Value} {ys : List EventV} {l : List HP} (H : Orch.Sep R w (evRows (e1 ++ (id, v, ys) :: e2) ++ l)) : Orch.Sep R w (eventS v ys :: (evRows (e1 ++ e2) ++ l)) := Sep.perm H (evRows_perm e1 e2 id v ys l)
theorem Sep.evPut {R w : World} {e1 e2 : List (Int × Value × List EventV)} {id : Int} {v : Value} {ys : List EventV} {l : List HP} (H : Orch.Sep R w (eventS v ys :: (evRows (e1 ++ e2) ++ l))) : Orch.Sep R w (evRows (e1 ++ (id, v, ys) :: e2) ++ l) := Sep.perm H (evRows_perm e1 e2 id v ys l).symm
end Go.Orch
namespace Go.Orch
open Go.RowKit
theorem st_perm (bs : List Nat) (Ss : List StV) (l : List HP) (k : Nat) (hk : k < bs.length) (hk2 : k < Ss.length) : (List.zipWith stAt bs Ss ++ l).Perm (stAt bs[k] Ss[k] :: ((List.zipWith stAt bs Ss).eraseIdx k ++ l)) := by
  have h : (List.zipWith stAt bs Ss)[k]? = some (stAt bs[k] Ss[k]) := by
    rw [List.getElem?_eq_getElem (by simp; omega), List.getElem_zipWith]
  exact (perm_eraseIdx h).append_right l
theorem Sep.stTake {R w : World} {bs : List Nat} {Ss : List StV} {l : List HP} (k : Nat) (hk : k < bs.length) (hk2 : k < Ss.length) (H : Orch.Sep R w (List.zipWith stAt bs Ss ++ l)) : Orch.Sep R w (stAt bs[k] Ss[k] :: ((List.zipWith stAt bs Ss).eraseIdx k ++ l)) := Sep.perm H (st_perm bs Ss l k hk hk2)
theorem Sep.stPut {R w : World} {bs : List Nat} {Ss : List StV} {l : List HP} (k : Nat) (hk : k < bs.length) (hk2 : k < Ss.length) (H : Orch.Sep R w (stAt bs[k] Ss[k] :: ((List.zipWith stAt bs Ss).eraseIdx k ++ l))) : Orch.Sep R w (List.zipWith stAt bs Ss ++ l) := Sep.perm H (st_perm bs Ss l k hk hk2).symm
theorem Sep.stMore {R w : World} {bs : List Nat} {Ss : List StV} {l : List HP} {b : Nat} {S : StV} (hl : bs.length = Ss.length) (H : Orch.Sep R w (stAt b S :: (List.zipWith stAt bs Ss ++ l))) : Orch.Sep R w (List.zipWith stAt (bs ++ [b]) (Ss ++ [S]) ++ l) := by
  rw [List.zipWith_append hl]
  simp only [List.zipWith_cons_cons, List.zipWith_nil_right, List.append_assoc, List.cons_append, List.nil_append]
  exact Sep.perm H List.perm_middle.symm
end Go.Orch
end
