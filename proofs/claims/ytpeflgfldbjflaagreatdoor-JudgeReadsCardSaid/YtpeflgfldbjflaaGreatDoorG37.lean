/- WHAT IS PROVED HERE: Package judge: hear. -/
import Derived.Test.YtpeflgfldbjflaaGreatDoorG36
set_option linter.unusedVariables false
set_option linter.unusedSimpArgs false
set_option linter.unusedSectionVars false
set_option linter.unnecessarySimpa false
section
namespace Go.Orch
open Go.RowKit
def evsLe (E : EvM) (N : Nat) : Prop := ∀ x ∈ E, x.2.length ≤ N
theorem aput_le {E : EvM} {N : Nat} (h : evsLe E N) (id : Int) (ys : List EventV) (hy : ys.length ≤ N) : evsLe (aput E id ys) N := by
  induction E with
  | nil => intro x hx; simp [aput] at hx; subst hx; exact hy
  | cons e E ih =>
    intro x hx
    unfold aput at hx
    split at hx
    · rcases List.mem_cons.1 hx with rfl | hx
      · exact hy
      · exact h x (List.mem_cons_of_mem _ hx)
    · rcases List.mem_cons.1 hx with rfl | hx
      · exact h _ List.mem_cons_self
      · exact ih (fun y hy => h y (List.mem_cons_of_mem _ hy)) x hx
theorem evsLe.get {E : EvM} {N : Nat} (h : evsLe E N) (id : Int) : ((aget E id).getD []).length ≤ N := by
  cases hg : aget E id with
  | none => simp
  | some ys => exact h _ (aget_in hg)
theorem hearOne_le {E : EvM} {N : Nat} (h : evsLe E N) (id : Int) (e : EventV) : evsLe (hearOne E id e) (N + 1) := by
  unfold hearOne
  split
  · exact fun x hx => by have := h x hx; omega
  · exact aput_le (fun x hx => by have := h x hx; omega) id _ (by have := h.get id; simp; omega)
theorem hearAll_le (id : Int) : ∀ (es : List EventV) {E : EvM} {N : Nat}, evsLe E N → evsLe (hearAll E id es) (N + es.length)
  | [], E, N, h => h
  | e :: es, E, N, h => by
    have := hearAll_le id es (hearOne_le h id e)
    rw [show N + (e :: es).length = N + 1 + es.length by simp; omega]
    exact this
end Go.Orch
namespace Go.Orch
open Go.RowKit
theorem hp_perm4 (X l : List HP) (A B C D : HP) : (A :: B :: C :: D :: (X ++ l)).Perm (X ++ (A :: B :: C :: D :: l)) := by
  have := (List.perm_append_comm (l₁ := [A, B, C, D]) (l₂ := X)).append_right l
  simpa [List.append_assoc] using this
theorem Sep.evAt {R w : World} {l : List HP} (id : Int) (ev : List (Int × Value × List EventV)) (H : Orch.Sep R w (evRows ev ++ l)) : ∃ (rv : Value) (ers : List (Int × Value × List EventV)), (aget (evM ev) id).getD (.slice none 0 0) = rv ∧ Orch.Sep R w (eventS rv ((aget (evL ev) id).getD []) :: (evRows ers ++ l)) ∧
    (∀ w' l', Orch.Sep R w' (eventS rv ((aget (evL ev) id).getD []) :: (evRows ers ++ l')) → Orch.Sep R w' (evRows ev ++ l')) ∧
    (∀ rv' ys', ∃ ev', evM ev' = aput (evM ev) id rv' ∧ evL ev' = aput (evL ev) id ys' ∧ ∀ w' l', Orch.Sep R w' (eventS rv' ys' :: (evRows ers ++ l')) → Orch.Sep R w' (evRows ev' ++ l')) := by
  cases h : aget (evL ev) id with
  | some ys =>
    obtain ⟨e1, v, e2, rfl, hg, hp⟩ := ev_some id ys ev h
    exact ⟨v, e1 ++ e2, by rw [hg]; rfl, Sep.evTake H, fun _ _ H => Sep.evPut H, fun rv' ys' => ⟨e1 ++ (id, rv', ys') :: e2, (hp rv' ys').1.symm, (hp rv' ys').2.symm, fun _ _ H => Sep.evPut H⟩⟩
  | none =>
    obtain ⟨hg, hp⟩ := ev_none id ev h
    refine ⟨.slice none 0 0, ev, by rw [hg]; rfl, Sep.nilRec H, fun _ _ H => Sep.drop H, fun rv' ys' => ⟨ev ++ [(id, rv', ys')], (hp rv' ys').1.symm, (hp rv' ys').2.symm, fun _ l' H => ?_⟩⟩
    refine Sep.perm H ?_
    simp only [evRows, List.map_append, List.map_cons, List.map_nil, List.append_assoc, List.cons_append, List.nil_append]
    exact List.perm_middle.symm
theorem Sep.juRow {R w : World} {l : List HP} {b : Nat} {J : JuV} (id : Int) (H : Orch.Sep R w (juAt b J :: l)) : ∃ (tb eb : Nat) (sv rv : Value) (ev : List (Int × Value × List EventV)) (L : List HP), (aget (evM ev) id).getD (.slice none 0 0) = rv ∧
    Orch.Sep R w (cellsAt b (juCells tb eb sv J) :: mapAt intK eb (evM ev) :: eventS rv ((aget J.events id).getD []) :: L) ∧
    (∀ w', Orch.Sep R w' (cellsAt b (juCells tb eb sv J) :: mapAt intK eb (evM ev) :: eventS rv ((aget J.events id).getD []) :: L) → Orch.Sep R w' (juAt b J :: l)) ∧
    (∀ rv' ys' w', Orch.Sep R w' (cellsAt b (juCells tb eb sv J) :: mapAt intK eb (aput (evM ev) id rv') :: eventS rv' ys' :: L) → Orch.Sep R w' (juAt b { J with events := aput J.events id ys' } :: l)) := by
  obtain ⟨tb, eb, sv, bs, ev, h1, h2, H1⟩ := H.ju
  obtain ⟨rv, ers, hg, H2, hc, hp⟩ := Sep.evAt id ev (Sep.perm H1 (hp_perm4 _ _ _ _ _ _))
  have hE : evL ev = J.events := h1
  rw [hE] at H2 hc hp
  have p : ∀ (E A B C D : HP) (M : List HP), (E :: (evRows ers ++ (A :: B :: C :: D :: M))).Perm (A :: D :: E :: (evRows ers ++ (B :: C :: M))) := fun E A B C D M => by
    refine (List.Perm.cons E ((hp_perm4 (evRows ers) M A B C D).symm)).trans ?_
    have q := (List.perm_append_comm (l₁ := [B, C]) (l₂ := evRows ers)).append_right M
    have q2 : (B :: C :: (evRows ers ++ M)).Perm (evRows ers ++ (B :: C :: M)) := by simpa [List.append_assoc] using q
    refine (List.Perm.swap A E _).trans (List.Perm.cons A ?_)
    refine List.Perm.trans ?_ (List.Perm.cons D (List.Perm.cons E q2))
    refine List.Perm.trans (List.Perm.cons E ((List.Perm.cons B (List.Perm.swap D C _)).trans (List.Perm.swap D B _))) (List.Perm.swap D E _)
  refine ⟨tb, eb, sv, rv, ev, evRows ers ++ (mapAt intK tb (textM J.texts) :: listS ptrV sv bs :: (List.zipWith stAt bs J.states ++ l)), hg, Sep.perm H2 (p _ _ _ _ _ _), fun w' H' => ?_, fun rv' ys' w' H' => ?_⟩
  · exact Sep.mkju h1 h2 (Sep.perm (hc _ _ (Sep.perm H' (p _ _ _ _ _ _).symm)) (hp_perm4 _ _ _ _ _ _).symm)
  · obtain ⟨ev', e1, e2, hput⟩ := hp rv' ys'
    rw [← e1] at H'
    exact Sep.mkju (J := { J with events := aput J.events id ys' }) e2 h2 (Sep.perm (hput _ _ (Sep.perm H' (p _ _ _ _ _ _).symm)) (hp_perm4 _ _ _ _ _ _).symm)
end Go.Orch
end
