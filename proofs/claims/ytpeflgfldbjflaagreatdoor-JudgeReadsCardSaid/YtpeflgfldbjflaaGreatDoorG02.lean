/- WHAT IS PROVED HERE: Separation for worlds: 'Sep R w l': the world w is the world R below R's heap, and l is a list of assertions that hold of blocks apart from each other, all of them made since R. No program in sight; Operations that make or turn memory, said with 'Sep'. No program in sight; Plain facts on numbers and bytes. No program in sight. -/
import Derived.WalkKit
import Derived.Deep.Quiet
import Derived.Lib.ConvBytes
import Derived.Lib.Hide
import Derived.Laws.AppendOwn
import Derived.StillTailTactics
set_option linter.unusedVariables false
set_option linter.unusedSimpArgs false
set_option linter.unusedSectionVars false
set_option linter.unnecessarySimpa false
section
namespace Go.Orch
open Go.RowKit
abbrev Part := Nat → Option Obj
abbrev HP := Part → Prop
def star (A B : HP) : HP := fun h => ∃ h1 h2 : Part, (∀ b, h1 b = none ∨ h2 b = none) ∧ (∀ b o, h1 b = some o → h b = some o) ∧ (∀ b o, h2 b = some o → h b = some o) ∧ A h1 ∧ B h2
def sepl : List HP → HP
  | [] => fun _ => True
  | A :: l => star A (sepl l)
def pt (b : Nat) (o : Obj) : HP := fun h => h b = some o
def cellsAt (b : Nat) (cs : Array Value) : HP := fun h => ∃ t, pt b (.cells cs t (0, 0)) h
structure Sep (R w : World) (l : List HP) : Prop where
  below : Below R.heap.size R w
  own : ∃ h : Part, (∀ b o, h b = some o → R.heap.size ≤ b ∧ w.heap[b]? = some o) ∧ sepl l h
theorem star_mono {A A' B B' : HP} (ha : ∀ h, A h → A' h) (hb : ∀ h, B h → B' h) {h : Part} (H : star A B h) : star A' B' h := by
  obtain ⟨h1, h2, d, s1, s2, a, b⟩ := H
  exact ⟨h1, h2, d, s1, s2, ha _ a, hb _ b⟩
theorem star_comm {A B : HP} {h : Part} (H : star A B h) : star B A h := by
  obtain ⟨h1, h2, d, s1, s2, a, b⟩ := H
  exact ⟨h2, h1, fun x => (d x).symm, s2, s1, b, a⟩
theorem star_assoc {A B C : HP} {h : Part} (H : star A (star B C) h) : star (star A B) C h := by
  obtain ⟨h1, h2, d, s1, s2, a, h3, h4, d', s3, s4, b, c⟩ := H
  refine ⟨fun x => (h1 x).or (h3 x), h4, fun x => ?_, fun x o hx => ?_, fun x o hx => s2 _ _ (s4 _ _ hx), ⟨h1, h3, fun x => ?_, fun x o hx => ?_, fun x o hx => ?_, a, b⟩, c⟩
  · rcases d x with e | e
    · rcases d' x with e' | e'
      · left; simp [e, e']
      · right; exact e'
    · cases h4x : h4 x with
      | none => right; rfl
      | some o => rw [s4 _ _ h4x] at e; cases e
  · dsimp only at hx
    cases h1x : h1 x with
    | none => rw [h1x] at hx; exact s2 _ _ (s3 _ _ (by simpa using hx))
    | some o' => rw [h1x] at hx; rw [← show o' = o by simpa using hx]; exact s1 _ _ h1x
  · rcases d x with e | e
    · left; exact e
    · right
      cases h3x : h3 x with
      | none => rfl
      | some o => rw [s3 _ _ h3x] at e; cases e
  · simp [hx]
  · rcases d x with e | e
    · simp [e, hx]
    · rw [s3 _ _ hx] at e; cases e
theorem star_assoc' {A B C : HP} {h : Part} (H : star (star A B) C h) : star A (star B C) h := by
  have h1 := star_comm (star_mono (fun _ x => star_comm x) (fun _ x => x) H)
  exact star_mono (fun _ x => x) (fun _ x => star_comm x) (star_comm (star_assoc h1))
theorem sepl_swap {A B : HP} {l : List HP} {h : Part} (H : sepl (A :: B :: l) h) : sepl (B :: A :: l) h := by
  have h1 : star (star A B) (sepl l) h := star_assoc H
  exact star_assoc' (star_mono (fun _ x => star_comm x) (fun _ x => x) h1)
theorem sepl_perm {l l' : List HP} (p : l.Perm l') : ∀ {h : Part}, sepl l h → sepl l' h := by
  induction p with
  | nil => exact fun H => H
  | cons A _ ih => exact fun H => star_mono (fun _ x => x) (fun _ x => ih x) H
  | swap A B l => exact fun H => sepl_swap H
  | trans _ _ ih1 ih2 => exact fun H => ih2 (ih1 H)
theorem sepl_append {l1 l2 : List HP} : ∀ {h : Part}, star (sepl l1) (sepl l2) h ↔ sepl (l1 ++ l2) h := by
  induction l1 with
  | nil =>
    intro h
    constructor
    · rintro ⟨h1, h2, d, s1, s2, tr, b⟩
      show sepl l2 h
      clear d s1 tr h1
      induction l2 generalizing h h2 with
      | nil => trivial
      | cons A l ih =>
        obtain ⟨h3, h4, d, s3, s4, a, b⟩ := b
        exact ⟨h3, h4, d, fun x o hx => s2 _ _ (s3 _ _ hx), fun x o hx => s2 _ _ (s4 _ _ hx), a, b⟩
    · intro H
      exact ⟨fun _ => none, h, fun _ => .inl rfl, fun _ _ hx => by simp at hx, fun _ _ hx => hx, trivial, H⟩
  | cons A l ih =>
    intro h
    constructor
    · intro H
      exact star_mono (fun _ x => x) (fun _ x => ih.1 x) (star_assoc' H)
    · intro H
      exact star_assoc (star_mono (fun _ x => x) (fun _ x => ih.2 x) H)
section
variable {R w : World} {l l' : List HP} {A B C : HP}
theorem Sep.mono (H : Sep R w l) (hi : ∀ h, sepl l h → sepl l' h) : Sep R w l' :=
  ⟨H.below, let ⟨h, s, a⟩ := H.own; ⟨h, s, hi _ a⟩⟩
theorem Sep.perm (H : Sep R w l) (p : l.Perm l') : Sep R w l' := H.mono fun _ => sepl_perm p
theorem Sep.imp (H : Sep R w (A :: l)) (hi : ∀ h, A h → B h) : Sep R w (B :: l) := H.mono fun _ => star_mono hi (fun _ x => x)
theorem Sep.drop (H : Sep R w (A :: l)) : Sep R w l := H.mono fun h x => by
  obtain ⟨h1, h2, d, s1, s2, a, b⟩ := x
  exact (sepl_append (l1 := []) (l2 := l)).1 ⟨h1, h2, d, s1, s2, trivial, b⟩
theorem Sep.apart (H : Sep R w (sepl l' :: l)) : Sep R w (l' ++ l) := H.mono fun _ x => sepl_append.1 x
theorem Sep.join (H : Sep R w (l' ++ l)) : Sep R w (sepl l' :: l) := H.mono fun _ x => sepl_append.2 x
theorem Sep.ex {α : Type} {F : α → HP} (H : Sep R w ((fun h => ∃ x, F x h) :: l)) : ∃ x, Sep R w (F x :: l) := by
  obtain ⟨bel, h, s, h1, h2, d, s1, s2, ⟨x, a⟩, b⟩ := H
  exact ⟨x, bel, h, s, h1, h2, d, s1, s2, a, b⟩
theorem Sep.mkex {α : Type} {F : α → HP} (x : α) (H : Sep R w (F x :: l)) : Sep R w ((fun h => ∃ x, F x h) :: l) := H.imp fun _ a => ⟨x, a⟩
theorem Sep.prop {p : Prop} (H : Sep R w ((fun h => p ∧ A h) :: l)) : p ∧ Sep R w (A :: l) := by
  obtain ⟨bel, h, s, h1, h2, d, s1, s2, ⟨x, a⟩, b⟩ := H
  exact ⟨x, bel, h, s, h1, h2, d, s1, s2, a, b⟩
theorem Sep.mkprop {p : Prop} (hp : p) (H : Sep R w (A :: l)) : Sep R w ((fun h => p ∧ A h) :: l) := H.imp fun _ a => ⟨hp, a⟩
theorem Sep.swap (H : Sep R w (A :: B :: l)) : Sep R w (B :: A :: l) := H.mono fun _ => sepl_swap
theorem Sep.rot3 (H : Sep R w (A :: B :: C :: l)) : Sep R w (C :: A :: B :: l) :=
  H.perm ((List.Perm.cons A (List.Perm.swap C B l)).trans (List.Perm.swap C A (B :: l)))
theorem Sep.facts (H : Sep R w (A :: l)) : ∃ h : Part, A h ∧ ∀ b o, h b = some o → R.heap.size ≤ b ∧ w.heap[b]? = some o := by
  obtain ⟨bel, h, s, h1, h2, d, s1, s2, a, b⟩ := H
  exact ⟨h1, a, fun x o hx => s _ _ (s1 _ _ hx)⟩
theorem Sep.block {b : Nat} {o : Obj} (H : Sep R w (pt b o :: l)) : R.heap.size ≤ b ∧ w.heap[b]? = some o := by
  obtain ⟨h, a, s⟩ := H.facts
  exact s _ _ a
theorem perm_eraseIdx {α : Type} : ∀ {l : List α} {i : Nat} {a : α}, l[i]? = some a → l.Perm (a :: l.eraseIdx i)
  | x :: l, 0, a, h => by simp at h; subst h; exact .refl _
  | x :: l, i + 1, a, h => by
    have := perm_eraseIdx (l := l) (i := i) (a := a) (by simpa using h)
    exact (List.Perm.cons x this).trans (List.Perm.swap a x _)
theorem perm_set {α : Type} : ∀ {l : List α} {i : Nat} {a b : α}, l[i]? = some a → (b :: l.eraseIdx i).Perm (l.set i b)
  | x :: l, 0, a, b, h => by simp
  | x :: l, i + 1, a, b, h => by
    have := perm_set (l := l) (i := i) (a := a) (b := b) (by simpa using h)
    exact (List.Perm.swap x b _).trans (List.Perm.cons x this)
theorem Sep.front (H : Sep R w l) (i : Nat) (h : l[i]? = some A) : Sep R w (A :: l.eraseIdx i) := H.perm (perm_eraseIdx h)
theorem Sep.back (i : Nat) (h : l[i]? = some A) (H : Sep R w (B :: l.eraseIdx i)) : Sep R w (l.set i B) := H.perm (perm_set h)
theorem Sep.last {l : List HP} (H : Sep R w (A :: l)) : Sep R w (l ++ [A]) := H.perm (List.perm_append_comm (l₁ := [A]) (l₂ := l))
end
section
variable {R w w' : World} {l : List HP}
theorem Sep.nil (R : World) : Sep R R [] := ⟨Below.refl _ _, fun _ => none, fun _ _ hx => by simp at hx, trivial⟩
theorem Sep.turn {b : Nat} {o o' : Obj} (H : Sep R w (pt b o :: l)) (hos : w'.os = w.os) (ht : w'.tape = w.tape) (hu : w'.output = w.output) (hz : w.heap.size ≤ w'.heap.size)
    (hb : w'.heap[b]? = some o') (hk : ∀ k, k < w.heap.size → k ≠ b → w'.heap[k]? = w.heap[k]?) : Sep R w' (pt b o' :: l) := by
  have hRb := H.block.1
  obtain ⟨bel, h, s, h1, h2, d, s1, s2, a, c⟩ := H
  refine ⟨⟨hos.trans bel.os, ht.trans bel.tape, hu.trans bel.output, Nat.le_trans bel.size hz, fun k hkR => (hk k (Nat.lt_of_lt_of_le hkR bel.size) (by omega)).trans (bel.block k hkR)⟩,
    fun x => if x = b then some o' else h2 x, fun x o'' hx => ?_, fun x => if x = b then some o' else none, h2, fun x => ?_, fun x o'' hx => ?_, fun x o'' hx => ?_, by simp [pt], c⟩
  · by_cases e : x = b
    · subst e; simp at hx; subst hx; exact ⟨hRb, hb⟩
    · simp [e] at hx
      have := s _ _ (s2 _ _ hx)
      refine ⟨this.1, (hk x ?_ e).trans this.2⟩
      exact (Array.getElem?_eq_some_iff.1 this.2).1
  · by_cases e : x = b
    · right
      subst e
      rcases d x with e' | e'
      · rw [show h1 x = some o from a] at e'; cases e'
      · exact e'
    · left; simp [e]
  · by_cases e : x = b
    · subst e; simp at hx ⊢; exact hx
    · simp [e] at hx
  · by_cases e : x = b
    · subst e
      rcases d x with e' | e'
      · rw [show h1 x = some o from a] at e'; cases e'
      · rw [e'] at hx; cases hx
    · simp [e, hx]
theorem Sep.alloc (H : Sep R w l) (o : Obj) : Sep R (w.alloc o) (pt w.heap.size o :: l) := by
  obtain ⟨bel, h, s, c⟩ := H
  have hlt : ∀ x o', h x = some o' → x < w.heap.size := fun x o' hx => (Array.getElem?_eq_some_iff.1 (s _ _ hx).2).1
  refine ⟨bel.alloc bel.size o, fun x => if x = w.heap.size then some o else h x, fun x o' hx => ?_, fun x => if x = w.heap.size then some o else none, h, fun x => ?_, fun x o' hx => ?_, fun x o' hx => ?_, by simp [pt], c⟩
  · by_cases e : x = w.heap.size
    · subst e; simp at hx; subst hx; exact ⟨bel.size, heap_alloc_new w o⟩
    · simp [e] at hx
      exact ⟨(s _ _ hx).1, (Below.heap_alloc w o x (hlt _ _ hx)).trans (s _ _ hx).2⟩
  · by_cases e : x = w.heap.size
    · right
      subst e
      cases hx : h w.heap.size with
      | none => rfl
      | some o' => exact absurd (hlt _ _ hx) (by omega)
    · left; simp [e]
  · by_cases e : x = w.heap.size
    · subst e; simp at hx ⊢; exact hx
    · simp [e] at hx
  · by_cases e : x = w.heap.size
    · exact absurd (hlt _ _ hx) (by omega)
    · simp [e, hx]
theorem Sep.same (H : Sep R w l) (hos : w'.os = w.os) (ht : w'.tape = w.tape) (hu : w'.output = w.output) (hh : w'.heap = w.heap) : Sep R w' l := by
  obtain ⟨bel, h, s, c⟩ := H
  exact ⟨⟨hos.trans bel.os, ht.trans bel.tape, hu.trans bel.output, by rw [hh]; exact bel.size, fun k hk => by rw [hh]; exact bel.block k hk⟩, h, fun x o hx => by rw [hh]; exact s _ _ hx, c⟩
theorem Sep.kept (H : Sep R w l) (hb : Below w.heap.size w w') : Sep R w' l := by
  obtain ⟨bel, h, s, c⟩ := H
  refine ⟨bel.trans (hb.mono bel.size), h, fun x o hx => ⟨(s _ _ hx).1, ?_⟩, c⟩
  have := (s _ _ hx).2
  rw [hb.block x (Array.getElem?_eq_some_iff.1 this).1]
  exact this
theorem Sep.drew (H : Sep R w l) : Sep R w.drew l := H.same rfl rfl rfl rfl
theorem Sep.drewN (H : Sep R w l) (n : Nat) : Sep R (w.drewN n) l := H.same rfl rfl rfl rfl
theorem Sep.lt {b : Nat} {o : Obj} (H : Sep R w (pt b o :: l)) : b < w.heap.size := (Array.getElem?_eq_some_iff.1 H.block.2).1
end
section
variable {R w : World} {l : List HP} {b : Nat} {cs : Array Value}
theorem Sep.cellsE (H : Sep R w (cellsAt b cs :: l)) : ∃ t, Sep R w (pt b (.cells cs t (0, 0)) :: l) := H.ex
theorem Sep.c (H : Sep R w (Orch.cellsAt b cs :: l)) (i : Nat) {v : Value} (h : cs[i]? = some v) : w.cell? ⟨b, i, none⟩ = some v := by
  obtain ⟨t, H⟩ := H.cellsE
  rw [cell_of_row w b i cs t (0, 0) H.block.2, h]
theorem Sep.fz (H : Sep R w (Orch.cellsAt b cs :: l)) : ∀ i, w.frozen? ⟨b, i, none⟩ = false := fun i => by
  obtain ⟨t, H⟩ := H.cellsE
  exact frozen_of_row w b i cs t H.block.2
theorem Sep.clt (H : Sep R w (Orch.cellsAt b cs :: l)) : b < w.heap.size := by
  obtain ⟨t, H⟩ := H.cellsE
  exact H.lt
theorem Sep.cge (H : Sep R w (Orch.cellsAt b cs :: l)) : R.heap.size ≤ b := by
  obtain ⟨t, H⟩ := H.cellsE
  exact H.block.1
theorem Sep.st (H : Sep R w (Orch.cellsAt b cs :: l)) (i : Nat) (v : Value) : Sep R (w.setCell ⟨b, i, none⟩ v) (Orch.cellsAt b (cs.setIfInBounds i v) :: l) := by
  obtain ⟨t, H⟩ := H.cellsE
  refine Sep.mkex t (H.turn rfl rfl rfl (by simp) (heap_setCell_same w b i cs t v H.block.2) fun k hk hne => heap_setCell_other w _ k v hne)
theorem Sep.mkc (H : Sep R w l) (cs : Array Value) (t : TypeId) : Sep R (w.alloc (.cells cs t)) (Orch.cellsAt w.heap.size cs :: l) := Sep.mkex t (H.alloc (.cells cs t))
theorem Sep.c1 {v0 : Value} (H : Sep R w (Orch.cellsAt b #[v0] :: l)) : w.cell? ⟨b, 0, none⟩ = some v0 ∧ (∀ i, w.frozen? ⟨b, i, none⟩ = false) ∧ b < w.heap.size := ⟨H.c 0 rfl, H.fz, H.clt⟩
theorem Sep.c2 {v0 v1 : Value} (H : Sep R w (Orch.cellsAt b #[v0, v1] :: l)) : w.cell? ⟨b, 0, none⟩ = some v0 ∧ w.cell? ⟨b, 1, none⟩ = some v1 ∧ (∀ i, w.frozen? ⟨b, i, none⟩ = false) ∧ b < w.heap.size := ⟨H.c 0 rfl, H.c 1 rfl, H.fz, H.clt⟩
theorem Sep.c3 {v0 v1 v2 : Value} (H : Sep R w (Orch.cellsAt b #[v0, v1, v2] :: l)) : w.cell? ⟨b, 0, none⟩ = some v0 ∧ w.cell? ⟨b, 1, none⟩ = some v1 ∧ w.cell? ⟨b, 2, none⟩ = some v2 ∧ (∀ i, w.frozen? ⟨b, i, none⟩ = false) ∧ b < w.heap.size := ⟨H.c 0 rfl, H.c 1 rfl, H.c 2 rfl, H.fz, H.clt⟩
theorem Sep.c4 {v0 v1 v2 v3 : Value} (H : Sep R w (Orch.cellsAt b #[v0, v1, v2, v3] :: l)) : w.cell? ⟨b, 0, none⟩ = some v0 ∧ w.cell? ⟨b, 1, none⟩ = some v1 ∧ w.cell? ⟨b, 2, none⟩ = some v2 ∧ w.cell? ⟨b, 3, none⟩ = some v3 ∧ (∀ i, w.frozen? ⟨b, i, none⟩ = false) ∧ b < w.heap.size := ⟨H.c 0 rfl, H.c 1 rfl, H.c 2 rfl, H.c 3 rfl, H.fz, H.clt⟩
theorem Sep.c5 {v0 v1 v2 v3 v4 : Value} (H : Sep R w (Orch.cellsAt b #[v0, v1, v2, v3, v4] :: l)) : w.cell? ⟨b, 0, none⟩ = some v0 ∧ w.cell? ⟨b, 1, none⟩ = some v1 ∧ w.cell? ⟨b, 2, none⟩ = some v2 ∧ w.cell? ⟨b, 3, none⟩ = some v3 ∧ w.cell? ⟨b, 4, none⟩ = some v4 ∧ (∀ i, w.frozen? ⟨b, i, none⟩ = false) ∧ b < w.heap.size := ⟨H.c 0 rfl, H.c 1 rfl, H.c 2 rfl, H.c 3 rfl, H.c 4 rfl, H.fz, H.clt⟩
theorem Sep.c6 {v0 v1 v2 v3 v4 v5 : Value} (H : Sep R w (Orch.cellsAt b #[v0, v1, v2, v3, v4, v5] :: l)) : w.cell? ⟨b, 0, none⟩ = some v0 ∧ w.cell? ⟨b, 1, none⟩ = some v1 ∧ w.cell? ⟨b, 2, none⟩ = some v2 ∧ w.cell? ⟨b, 3, none⟩ = some v3 ∧ w.cell? ⟨b, 4, none⟩ = some v4 ∧ w.cell? ⟨b, 5, none⟩ = some v5 ∧ (∀ i, w.frozen? ⟨b, i, none⟩ = false) ∧ b < w.heap.size := ⟨H.c 0 rfl, H.c 1 rfl, H.c 2 rfl, H.c 3 rfl, H.c 4 rfl, H.c 5 rfl, H.fz, H.clt⟩
theorem Sep.c7 {v0 v1 v2 v3 v4 v5 v6 : Value} (H : Sep R w (Orch.cellsAt b #[v0, v1, v2, v3, v4, v5, v6] :: l)) : w.cell? ⟨b, 0, none⟩ = some v0 ∧ w.cell? ⟨b, 1, none⟩ = some v1 ∧ w.cell? ⟨b, 2, none⟩ = some v2 ∧ w.cell? ⟨b, 3, none⟩ = some v3 ∧ w.cell? ⟨b, 4, none⟩ = some v4 ∧ w.cell? ⟨b, 5, none⟩ = some v5 ∧ w.cell? ⟨b, 6, none⟩ = some v6 ∧ (∀ i, w.frozen? ⟨b, i, none⟩ = false) ∧ b < w.heap.size := ⟨H.c 0 rfl, H.c 1 rfl, H.c 2 rfl, H.c 3 rfl, H.c 4 rfl, H.c 5 rfl, H.c 6 rfl, H.fz, H.clt⟩
theorem Sep.c8 {v0 v1 v2 v3 v4 v5 v6 v7 : Value} (H : Sep R w (Orch.cellsAt b #[v0, v1, v2, v3, v4, v5, v6, v7] :: l)) : w.cell? ⟨b, 0, none⟩ = some v0 ∧ w.cell? ⟨b, 1, none⟩ = some v1 ∧ w.cell? ⟨b, 2, none⟩ = some v2 ∧ w.cell? ⟨b, 3, none⟩ = some v3 ∧ w.cell? ⟨b, 4, none⟩ = some v4 ∧ w.cell? ⟨b, 5, none⟩ = some v5 ∧ w.cell? ⟨b, 6, none⟩ = some v6 ∧ w.cell? ⟨b, 7, none⟩ = some v7 ∧ (∀ i, w.frozen? ⟨b, i, none⟩ = false) ∧ b < w.heap.size := ⟨H.c 0 rfl, H.c 1 rfl, H.c 2 rfl, H.c 3 rfl, H.c 4 rfl, H.c 5 rfl, H.c 6 rfl, H.c 7 rfl, H.fz, H.clt⟩
theorem Sep.c9 {v0 v1 v2 v3 v4 v5 v6 v7 v8 : Value} (H : Sep R w (Orch.cellsAt b #[v0, v1, v2, v3, v4, v5, v6, v7, v8] :: l)) : w.cell? ⟨b, 0, none⟩ = some v0 ∧ w.cell? ⟨b, 1, none⟩ = some v1 ∧ w.cell? ⟨b, 2, none⟩ = some v2 ∧ w.cell? ⟨b, 3, none⟩ = some v3 ∧ w.cell? ⟨b, 4, none⟩ = some v4 ∧ w.cell? ⟨b, 5, none⟩ = some v5 ∧ w.cell? ⟨b, 6, none⟩ = some v6 ∧ w.cell? ⟨b, 7, none⟩ = some v7 ∧ w.cell? ⟨b, 8, none⟩ = some v8 ∧ (∀ i, w.frozen? ⟨b, i, none⟩ = false) ∧ b < w.heap.size := ⟨H.c 0 rfl, H.c 1 rfl, H.c 2 rfl, H.c 3 rfl, H.c 4 rfl, H.c 5 rfl, H.c 6 rfl, H.c 7 rfl, H.c 8 rfl, H.fz, H.clt⟩
end
section
variable {R w : World} {l : List HP}
theorem Sep.f1 {A0 A1 : HP} (H : Sep R w (A0 :: A1 :: l)) : Sep R w (A1 :: A0 :: l) := H.front 1 rfl
theorem Sep.f2 {A0 A1 A2 : HP} (H : Sep R w (A0 :: A1 :: A2 :: l)) : Sep R w (A2 :: A0 :: A1 :: l) := H.front 2 rfl
theorem Sep.f3 {A0 A1 A2 A3 : HP} (H : Sep R w (A0 :: A1 :: A2 :: A3 :: l)) : Sep R w (A3 :: A0 :: A1 :: A2 :: l) := H.front 3 rfl
theorem Sep.f4 {A0 A1 A2 A3 A4 : HP} (H : Sep R w (A0 :: A1 :: A2 :: A3 :: A4 :: l)) : Sep R w (A4 :: A0 :: A1 :: A2 :: A3 :: l) := H.front 4 rfl
theorem Sep.f5 {A0 A1 A2 A3 A4 A5 : HP} (H : Sep R w (A0 :: A1 :: A2 :: A3 :: A4 :: A5 :: l)) : Sep R w (A5 :: A0 :: A1 :: A2 :: A3 :: A4 :: l) := H.front 5 rfl
theorem Sep.f6 {A0 A1 A2 A3 A4 A5 A6 : HP} (H : Sep R w (A0 :: A1 :: A2 :: A3 :: A4 :: A5 :: A6 :: l)) : Sep R w (A6 :: A0 :: A1 :: A2 :: A3 :: A4 :: A5 :: l) := H.front 6 rfl
theorem Sep.f7 {A0 A1 A2 A3 A4 A5 A6 A7 : HP} (H : Sep R w (A0 :: A1 :: A2 :: A3 :: A4 :: A5 :: A6 :: A7 :: l)) : Sep R w (A7 :: A0 :: A1 :: A2 :: A3 :: A4 :: A5 :: A6 :: l) := H.front 7 rfl
theorem Sep.f8 {A0 A1 A2 A3 A4 A5 A6 A7 A8 : HP} (H : Sep R w (A0 :: A1 :: A2 :: A3 :: A4 :: A5 :: A6 :: A7 :: A8 :: l)) : Sep R w (A8 :: A0 :: A1 :: A2 :: A3 :: A4 :: A5 :: A6 :: A7 :: l) := H.front 8 rfl
theorem Sep.f9 {A0 A1 A2 A3 A4 A5 A6 A7 A8 A9 : HP} (H : Sep R w (A0 :: A1 :: A2 :: A3 :: A4 :: A5 :: A6 :: A7 :: A8 :: A9 :: l)) : Sep R w (A9 :: A0 :: A1 :: A2 :: A3 :: A4 :: A5 :: A6 :: A7 :: A8 :: l) := H.front 9 rfl
theorem Sep.f10 {A0 A1 A2 A3 A4 A5 A6 A7 A8 A9 A10 : HP} (H : Sep R w (A0 :: A1 :: A2 :: A3 :: A4 :: A5 :: A6 :: A7 :: A8 :: A9 :: A10 :: l)) : Sep R w (A10 :: A0 :: A1 :: A2 :: A3 :: A4 :: A5 :: A6 :: A7 :: A8 :: A9 :: l) := H.front 10 rfl
theorem Sep.f11 {A0 A1 A2 A3 A4 A5 A6 A7 A8 A9 A10 A11 : HP} (H : Sep R w (A0 :: A1 :: A2 :: A3 :: A4 :: A5 :: A6 :: A7 :: A8 :: A9 :: A10 :: A11 :: l)) : Sep R w (A11 :: A0 :: A1 :: A2 :: A3 :: A4 :: A5 :: A6 :: A7 :: A8 :: A9 :: A10 :: l) := H.front 11 rfl
theorem Sep.f12 {A0 A1 A2 A3 A4 A5 A6 A7 A8 A9 A10 A11 A12 : HP} (H : Sep R w (A0 :: A1 :: A2 :: A3 :: A4 :: A5 :: A6 :: A7 :: A8 :: A9 :: A10 :: A11 :: A12 :: l)) : Sep R w (A12 :: A0 :: A1 :: A2 :: A3 :: A4 :: A5 :: A6 :: A7 :: A8 :: A9 :: A10 :: A11 :: l) := H.front 12 rfl
theorem Sep.f13 {A0 A1 A2 A3 A4 A5 A6 A7 A8 A9 A10 A11 A12 A13 : HP} (H : Sep R w (A0 :: A1 :: A2 :: A3 :: A4 :: A5 :: A6 :: A7 :: A8 :: A9 :: A10 :: A11 :: A12 :: A13 :: l)) : Sep R w (A13 :: A0 :: A1 :: A2 :: A3 :: A4 :: A5 :: A6 :: A7 :: A8 :: A9 :: A10 :: A11 :: A12 :: l) := H.front 13 rfl
end
end Go.Orch
end
section
namespace Go.Orch
open Go.RowKit
theorem conv_bytes {P : Program} {R w : World} {l : List HP} (src dst e : TypeId) (s : ByteArray) {u : TypeDesc}
    (hs : P.underlying src = some u) (hd : P.underlying dst = some (.slice e)) (he : P.underlying e = some (.int .u8)) (H : Sep R w l) :
    ∃ w2 nb cap, (convert src dst (.string s)).run P w = .ok (.slice (some ⟨nb, 0, none⟩) s.size cap) w2 ∧
      (∀ j, j < s.size → w2.cell? ⟨nb, j, none⟩ = some (.int .u8 (s.data.toList.getD j 0).toNat)) ∧ Sep R w2 l :=
  ⟨_, _, _, Lib.run_convert_string_bytes w src dst e s hs hd he, fun j hj => Lib.bytesWorld_cell w e s j hj, by
    have hlt : ∀ x o, w.heap[x]? = some o → x < w.heap.size := fun x o h => (Array.getElem?_eq_some_iff.1 h).1
    obtain ⟨bel, h, hh, a⟩ := H
    refine ⟨⟨bel.os, bel.tape, bel.output, ?_, fun k hk => ?_⟩, h, fun x o hx => ⟨(hh _ _ hx).1, ?_⟩, a⟩
    · have := bel.size
      rw [Lib.bytesWorld_size]; omega
    · rw [Lib.bytesWorld_at_old w e s k (Nat.lt_of_lt_of_le hk bel.size)]; exact bel.block k hk
    · rw [Lib.bytesWorld_at_old w e s x (hlt _ _ (hh _ _ hx).2)]; exact (hh _ _ hx).2⟩
def rowS (v : Value) (sz n : Nat) (xs : List Value) : HP := fun h => xs.length = n * sz ∧
  ((v = .slice none 0 0 ∧ n = 0) ∨ ∃ b cap pre post, v = .slice (some ⟨b, List.length pre, none⟩) n cap ∧ n ≤ cap ∧ cap ≤ maxLen ∧ (cap - n) * sz ≤ List.length post ∧ cellsAt b (pre ++ xs ++ post).toArray h)
structure Src (P : Program) (w : World) (x : Value) (sz m : Nat) (news : List Value) : Prop where
  len : ∀ w', (Builtin.lenOf x).run P w' = .ok m w'
  now : (Builtin.firstCells sz m x).run P w = .ok news.toArray w
  later : (Builtin.firstCells sz m x).run P w.drew = .ok news.toArray w.drew
  size : news.length = m * sz
  one : ∀ u ∈ news, u.oneCell' = true
theorem Src.cells {P : Program} {w : World} {sz m : Nat} (b o c : Nat) (news : List Value) (hl : news.length = m * sz) (h : ∀ j v, news[j]? = some v → w.cell? ⟨b, o + j, none⟩ = some v) (h1 : ∀ u ∈ news, u.oneCell' = true) :
    Src P w (.slice (some ⟨b, o, none⟩) m c) sz m news :=
  ⟨fun _ => rfl, run_firstCells_some w sz m _ m c news hl (by simpa [Addr.add_lit] using h), run_firstCells_some w.drew sz m _ m c news hl (by simpa [Addr.add_lit] using h), hl, h1⟩
theorem Src.nil {P : Program} {w : World} {sz c : Nat} : Src P w (.slice none 0 c) sz 0 [] :=
  ⟨fun _ => rfl, run_firstCells_none w sz 0 0 c, run_firstCells_none w.drew sz 0 0 c, by simp, by simp⟩
theorem Src.string {P : Program} {w : World} (s : ByteArray) : Src P w (.string s) 1 s.size (s.data.toList.map fun b => .int .u8 b.toNat) := by
  have e : ((s.extract 0 s.size).data.map fun b : UInt8 => Value.int .u8 b.toNat) = (s.data.toList.map fun b : UInt8 => Value.int .u8 b.toNat).toArray := by
    rw [show s.extract 0 s.size = s from by simp]
    apply Array.ext'
    simp
  refine ⟨fun _ => rfl, ?_, ?_, by simp, by intro u hu; simp at hu; obtain ⟨a, _, rfl⟩ := hu; rfl⟩
  · show Result.ok _ _ = _
    rw [e]
  · show Result.ok _ _ = _
    rw [e]
section
variable {P : Program} {w : World} (t u ty e : TypeId) (i : TypeInfo) (z : Value) (ht : P.underlying t = some (.slice e)) {du : TypeDesc} (hu : P.underlying u = some du) (hdu : du = .string ∨ ∃ e', du = .slice e')
    (hi : P.info? e = some i) (hz : i.zero = some z) {x : Value} {n m : Nat} {xs news : List Value} (S : Src P w x i.size m news)
include ht hu hdu hi hz S
theorem append_nothing (hm : m = 0) : (Builtin.append_ #[t, u] ty #[.slice none 0 0, x]).run P w = .ok (.slice none 0 0) w := by
  subst hm
  have h1 := S.len
  have h2 := S.now
  rcases hdu with rfl | ⟨e', rfl⟩ <;> simp [Builtin.append_, run_underlying ht, run_underlying hu, sizeOf, typeInfo, hi, h1, h2]
theorem append_new (hm : 0 < m) (h63 : (m : Int) ≤ 9223372036854775807) (h48 : Builtin.nextslicecap m 0 * i.bytes ≤ 281474976710656) : (Builtin.append_ #[t, u] ty #[.slice none 0 0, x]).run P w =
    .ok (.slice (some ⟨w.heap.size, 0, none⟩) m (grownCap w m 0 e)) (w.drew.alloc (.cells (news.toArray ++ Builtin.zeroCells z.cells (grownCap w m 0 e - m)) e)) := by
  have h1 := S.len
  have h2 := S.later
  have hn : m ≠ 0 := by omega
  have h63' : ¬ (9223372036854775807 < (m : Int)) := by omega
  have h48' : ¬ (281474976710656 < Builtin.nextslicecap m 0 * i.bytes) := by omega
  rcases hdu with rfl | ⟨e', rfl⟩ <;> simp [Builtin.append_, run_underlying ht, run_underlying hu, sizeOf, typeInfo, zeroValue, hi, hz, h1, hn, h63', h48', Question.forced, run_firstCells_none, h2, newRow, grownCap]
theorem append_grown (a : Addr) (cap : Nat) (hx : xs.length = n * i.size) (hxs : ∀ j v, xs[j]? = some v → w.cell? (a.add j) = some v) (hm : cap < n + m) (h63 : ((n + m : Nat) : Int) ≤ 9223372036854775807) (h48 : Builtin.nextslicecap (n + m) cap * i.bytes ≤ 281474976710656) :
    (Builtin.append_ #[t, u] ty #[.slice (some a) n cap, x]).run P w =
    .ok (.slice (some ⟨w.heap.size, 0, none⟩) (n + m) (grownCap w (n + m) cap e)) (w.drew.alloc (.cells (xs.toArray ++ news.toArray ++ Builtin.zeroCells z.cells (grownCap w (n + m) cap e - (n + m))) e)) := by
  have h1 := S.len
  have h2 := S.later
  have hn : ¬ (n + m ≤ cap) := by omega
  have h63' : ¬ (9223372036854775807 < ((n : Int) + (m : Int))) := by omega
  have h48' : ¬ (281474976710656 < Builtin.nextslicecap (n + m) cap * i.bytes) := by omega
  have hfo := run_firstCells_some (P := P) w.drew i.size n a n cap xs hx (by simpa using hxs)
  rcases hdu with rfl | ⟨e', rfl⟩ <;> simp [Builtin.append_, run_underlying ht, run_underlying hu, sizeOf, typeInfo, zeroValue, hi, hz, h1, hn, h63', h48', Question.forced, hfo, h2, newRow, grownCap]
  all_goals (congr 2; apply Array.ext'; simp)
omit hz in
theorem append_placed (b o cap : Nat) {t' : TypeId} {cur : Array Value} (hb : w.heap[b]? = some (.cells cur t' (0, 0))) (hroom : n + m ≤ cap) (hfit : o + n * i.size + news.length ≤ cur.size) :
    (Builtin.append_ #[t, u] ty #[.slice (some ⟨b, o, none⟩) n cap, x]).run P w =
    .ok (.slice (some ⟨b, o, none⟩) (n + m) cap) (w.setRow b (cur.toList.take (o + n * i.size) ++ news ++ cur.toList.drop (o + n * i.size + news.length)).toArray) := by
  have h1 := S.len
  have h2 := S.now
  have hst := run_storeCells_at P b (o + n * i.size) t' news 0 _ w hb (by simpa using hfit) S.one
  simp only [Nat.add_zero] at hst
  rcases hdu with rfl | ⟨e', rfl⟩ <;> simp [Builtin.append_, run_underlying ht, run_underlying hu, sizeOf, typeInfo, hi, h1, hroom, h2, Addr.add_lit, hst]
end
theorem run_append {P : Program} {R w : World} {l : List HP} (t u ty e : TypeId) (i : TypeInfo) (z : Value) (ht : P.underlying t = some (.slice e)) {du : TypeDesc} (hu : P.underlying u = some du) (hdu : du = .string ∨ ∃ e', du = .slice e')
    (hi : P.info? e = some i) (hz : i.zero = some z) {sz bytes : Nat} (hsize : i.size = sz) (hby : i.bytes = bytes) (hzs : z.cells.size = sz)
    {v x : Value} {n m : Nat} {xs news : List Value} (S : Src P w x sz m news) (H : Sep R w (rowS v sz n xs :: l))
    (h63 : n + m ≤ maxLen) (hbytes : (n + m) * bytes ≤ 140737488355328) :
    ∃ v' w', (Builtin.append_ #[t, u] ty #[v, x]).run P w = .ok v' w' ∧ Sep R w' (rowS v' sz (n + m) (xs ++ news) :: l) := by
  subst hsize
  subst hby
  obtain ⟨hx, H⟩ := H.prop
  have hlen : (xs ++ news).length = (n + m) * i.size := by rw [List.length_append, hx, S.size, Nat.add_mul]
  have h63' : ((n + m : Nat) : Int) ≤ 9223372036854775807 := by simp only [maxLen] at h63; omega
  have mkrow : ∀ (old : Nat) (H2 : Sep R w l), old < n + m → Sep R (w.drew.alloc (.cells (xs.toArray ++ news.toArray ++ Builtin.zeroCells z.cells (grownCap w (n + m) old e - (n + m))) e))
      (rowS (.slice (some ⟨w.heap.size, 0, none⟩) (n + m) (grownCap w (n + m) old e)) i.size (n + m) (xs ++ news) :: l) := by
    intro old H2 ho
    have hge := grownCap_ge w (n + m) old e
    have hcm : grownCap w (n + m) old e ≤ maxLen := grownCap_le_maxLen w (n + m) old e h63
    have H3 := H2.drew.mkc (xs.toArray ++ news.toArray ++ Builtin.zeroCells z.cells (grownCap w (n + m) old e - (n + m))) e
    refine Sep.mkprop hlen (H3.imp fun h hh => .inr ⟨w.heap.size, _, [], (Builtin.zeroCells z.cells (grownCap w (n + m) old e - (n + m))).toList, rfl, hge, hcm, ?_, ?_⟩)
    · simp [size_zeroCells, hzs]
    · have e1 : (xs.toArray ++ news.toArray ++ Builtin.zeroCells z.cells (grownCap w (n + m) old e - (n + m))) = (([] : List Value) ++ (xs ++ news) ++ (Builtin.zeroCells z.cells (grownCap w (n + m) old e - (n + m))).toList).toArray := by
        apply Array.ext'; simp
      rw [← e1]
      exact hh
  obtain ⟨bel, h0, hs0, h1, h2, hd, hs1, hs2, hrow, hrest⟩ := H
  have hup : sepl l h0 := (sepl_append (l1 := []) (l2 := l)).1 ⟨h1, h2, hd, hs1, hs2, trivial, hrest⟩
  have H0 : Sep R w l := ⟨bel, h0, hs0, hup⟩
  rcases hrow with ⟨rfl, rfl⟩ | ⟨b, cap, pre, post, rfl, hnc, hcm, hpost, t', hb⟩
  · have hxs : xs = [] := List.eq_nil_of_length_eq_zero (by simpa using hx)
    subst hxs
    by_cases hm : m = 0
    · subst hm
      have hn : news = [] := List.eq_nil_of_length_eq_zero (by simpa using S.size)
      subst hn
      exact ⟨.slice none 0 0, w, append_nothing t u ty e i z ht hu hdu hi hz S rfl,
        Sep.mkprop (by simp) ⟨bel, h0, hs0, fun _ => none, h0, fun _ => .inl rfl, fun _ _ hx => by simp at hx, fun _ _ hx => hx, .inl ⟨rfl, rfl⟩, hup⟩⟩
    · have h48' : Builtin.nextslicecap m 0 * i.bytes ≤ 281474976710656 := growslice_fits (by omega) (by simpa using hbytes)
      refine ⟨_, _, append_new t u ty e i z ht hu hdu hi hz S (by omega) (by simpa using h63') h48', ?_⟩
      have := mkrow 0 H0 (by omega)
      simpa using this
  · have hbw : w.heap[b]? = some (.cells (pre ++ xs ++ post).toArray t' (0, 0)) := (hs0 _ _ (hs1 _ _ hb)).2
    by_cases hroom : n + m ≤ cap
    · have hfit : pre.length + n * i.size + news.length ≤ (pre ++ xs ++ post).toArray.size := by
        simp only [List.size_toArray, List.length_append, hx, S.size]
        have : m * i.size ≤ (cap - n) * i.size := Nat.mul_le_mul_right _ (by omega)
        omega
      refine ⟨.slice (some ⟨b, pre.length, none⟩) (n + m) cap, _, append_placed t u ty e i ht hu hdu hi S b pre.length cap hbw hroom hfit, ?_⟩
      have Hpt : Sep R w (pt b (.cells (pre ++ xs ++ post).toArray t' (0, 0)) :: l) := ⟨bel, h0, hs0, h1, h2, hd, hs1, hs2, hb, hrest⟩
      have H5 := Hpt.turn (w' := w.setRow b ((pre ++ xs ++ post).toArray.toList.take (pre.length + n * i.size) ++ news ++ (pre ++ xs ++ post).toArray.toList.drop (pre.length + n * i.size + news.length)).toArray) rfl rfl rfl (by simp)
        (setRow_heap w b _ _ t' (0, 0) hbw) (fun k _ hne => setRow_other w b k _ hne)
      refine Sep.mkprop hlen (H5.imp fun h hh => .inr ⟨b, cap, pre, post.drop news.length, rfl, hroom, hcm, ?_, t', ?_⟩)
      · rw [List.length_drop, S.size]
        have : (cap - n) * i.size = (cap - (n + m)) * i.size + m * i.size := by rw [← Nat.add_mul]; congr 1; omega
        omega
      · have e1 : (pre ++ xs ++ post).toArray.toList.take (pre.length + n * i.size) = pre ++ xs := by
          have : pre.length + n * i.size = (pre ++ xs).length := by simp [hx]
          rw [this]; exact List.take_left
        have e2 : (pre ++ xs ++ post).toArray.toList.drop (pre.length + n * i.size + news.length) = post.drop news.length := by
          have : pre.length + n * i.size = (pre ++ xs).length := by simp [hx]
          rw [this, ← List.drop_drop]; simp
        rw [e1, e2] at hh
        simpa [List.append_assoc] using hh
    · have holds : ∀ j u, xs[j]? = some u → w.cell? ((⟨b, pre.length, none⟩ : Addr).add j) = some u := by
        intro j u hj
        rw [Addr.add_lit, cell_of_row w b _ _ t' (0, 0) hbw]
        have hjl : j < xs.length := (List.getElem?_eq_some_iff.1 hj).1
        simp [List.getElem?_append, hjl, (List.getElem?_eq_some_iff.1 hj).2]
      have h48' : Builtin.nextslicecap (n + m) cap * i.bytes ≤ 281474976710656 := growslice_fits (by omega) hbytes
      exact ⟨_, _, append_grown t u ty e i z ht hu hdu hi hz S _ cap hx holds (by omega) h63' h48', mkrow cap H0 (by omega)⟩
theorem wpList_append {P : Program} {R w : World} {l : List HP} {ops : Array Oper} {rest : List Oper} {o : Oper} {a : Act} {Q : Exit → Act → World → Prop} (hgd : o.guard = none) (s x : Operand) (t u e : TypeId)
    (ho : o.op = .call { callee := .builtin .append, args := #[s, x], argTypes := #[t, u] })
    (ht : P.underlying t = some (.slice e)) {du : TypeDesc} (hu : P.underlying u = some du) (hdu : du = .string ∨ ∃ e', du = .slice e')
    {z : Value} {sz bytes : Nat} (hi : (P.info? e).map (fun i => (i.zero, i.size, i.bytes)) = some (some z, sz, bytes)) (hzs : z.cells.size = sz)
    {v xv : Value} {n m : Nat} {xs news : List Value} (hs : a.eval s = v) (hx : a.eval x = xv) (S : Src P w xv sz m news) (H : Sep R w (rowS v sz n xs :: l))
    (h63 : n + m ≤ maxLen) (hbytes : (n + m) * bytes ≤ 140737488355328)
    (h : ∀ v' w', Sep R w' (rowS v' sz (n + m) (xs ++ news) :: l) → wpList P ops Q rest (a.put o.dst v') w') : wpList P ops Q (o :: rest) a w := by
  refine wpList_plain hgd fun K hK => ?_
  obtain ⟨i, hi1, hi2⟩ : ∃ i, P.info? e = some i ∧ (i.zero, i.size, i.bytes) = (some z, sz, bytes) := by
    cases h : P.info? e with
    | none => simp [h] at hi
    | some i => exact ⟨i, rfl, by simpa [h] using hi⟩
  injection hi2 with h1 h2
  injection h2 with h2 h3
  obtain ⟨v', w', hr, H'⟩ := run_append t u o.type e i z ht hu hdu hi1 h1 h2 h3 hzs S H h63 hbytes
  unfold Oper.wp execOp
  simp only [ho, resolve, invoke, builtin, Sem.run_bind, Sem.run_pure, Result.andThen_ok, List.map_toArray, List.map_cons, List.map_nil, hs, hx, hr]
  exact hK _ _ (h v' w' H')
def byteV (b : UInt8) : Value := .int .u8 b.toNat
def bytesS (v : Value) (xs : List UInt8) : HP := rowS v 1 xs.length (xs.map byteV)
def intV (n : Int) : Value := .int .i64 n
theorem wpList_append_bytes {P : Program} {R w : World} {l : List HP} {ops : Array Oper} {rest : List Oper} {o : Oper} {a : Act} {Q : Exit → Act → World → Prop} (hgd : o.guard = none) (s x : Operand) (t u e : TypeId)
    (ho : o.op = .call { callee := .builtin .append, args := #[s, x], argTypes := #[t, u] })
    (ht : P.underlying t = some (.slice e)) {du : TypeDesc} (hu : P.underlying u = some du) (hdu : du = .string ∨ ∃ e', du = .slice e')
    (hi : (P.info? e).map (fun i => (i.zero, i.size, i.bytes)) = some (some (.int .u8 0), 1, 1))
    {v xv : Value} {xs news : List UInt8} {m : Nat} (hs : a.eval s = v) (hx : a.eval x = xv) (S : Src P w xv 1 m (news.map byteV)) (H : Sep R w (bytesS v xs :: l))
    (hb : xs.length + news.length ≤ 140737488355328)
    (h : ∀ v' w', Sep R w' (bytesS v' (xs ++ news) :: l) → wpList P ops Q rest (a.put o.dst v') w') : wpList P ops Q (o :: rest) a w := by
  have hm : m = news.length := by have := S.size; simpa using this.symm
  subst hm
  refine wpList_append hgd s x t u e ho ht hu hdu hi rfl hs hx S H (by unfold maxLen; omega) (by omega) fun v' w' H' => h v' w' ?_
  unfold bytesS
  rw [List.length_append, List.map_append]
  exact H'
theorem Src.byte1 {P : Program} {R w : World} {l : List HP} {b c : Nat} {n : Int} (y : UInt8) (hy : n = y.toNat) (H : Sep R w (cellsAt b #[.int .u8 n] :: l)) : Src P w (.slice (some ⟨b, 0, none⟩) 1 c) 1 1 ([y].map byteV) := by
  subst hy
  refine Src.cells b 0 c _ rfl (fun j v hv => ?_) (by simp [byteV, Value.oneCell'])
  have := H.c j (v := v) (by simpa [byteV] using hv)
  simpa using this
theorem Src.byte2 {P : Program} {R w : World} {l : List HP} {b c : Nat} {n n' : Int} (y y' : UInt8) (hy : n = y.toNat) (hy' : n' = y'.toNat) (H : Sep R w (cellsAt b #[.int .u8 n, .int .u8 n'] :: l)) : Src P w (.slice (some ⟨b, 0, none⟩) 2 c) 1 2 ([y, y'].map byteV) := by
  subst hy
  subst hy'
  refine Src.cells b 0 c _ rfl (fun j v hv => ?_) (by simp [byteV, Value.oneCell'])
  have := H.c j (v := v) (by simpa [byteV] using hv)
  simpa using this
theorem wp_still_tail {P : Program} {w : World} {id : Nat} {Q : Exit → Act → World → Prop} {a : Act} {l : List Oper} (n : Nat) (hm : P.follows .mixedOrders = true) (hB : Region.lexTailB .any l.toArray n = true)
    (h : wpStill P l.toArray w.drew (fun a' => wpList P l.toArray Q (l.drop n) a' w.drew) (l.take n) a) : (Code.region id l.toArray true).wp P Q a w := wp_region_still_tail n hm hB h
theorem Sep.free {R w : World} {l : List HP} {A : HP} (hA : ∀ h, A h) (H : Sep R w l) : Sep R w (A :: l) := by
  obtain ⟨bel, h0, hs0, c⟩ := H
  exact ⟨bel, h0, hs0, fun _ => none, h0, fun _ => .inl rfl, fun _ _ hx => by simp at hx, fun _ _ hx => hx, hA _, c⟩
theorem Sep.nilRow {R w : World} {l : List HP} (sz : Nat) (H : Sep R w l) : Sep R w (rowS (.slice none 0 0) sz 0 [] :: l) := Sep.free (fun _ => ⟨by simp, .inl ⟨rfl, rfl⟩⟩) H
def listS {α : Type} (enc : α → Value) (v : Value) (xs : List α) : HP := rowS v 1 xs.length (xs.map enc)
def recS {α : Type} (sz : Nat) (enc : α → List Value) (v : Value) (xs : List α) : HP := rowS v sz xs.length (xs.flatMap enc)
theorem Sep.nilList {α : Type} {enc : α → Value} {R w : World} {l : List HP} (H : Sep R w l) : Sep R w (listS enc (.slice none 0 0) [] :: l) := H.nilRow 1
theorem Sep.nilRec {α : Type} {sz : Nat} {enc : α → List Value} {R w : World} {l : List HP} (H : Sep R w l) : Sep R w (recS sz enc (.slice none 0 0) [] :: l) := H.nilRow sz
theorem wpList_append_list {α : Type} {enc : α → Value} {P : Program} {R w : World} {l : List HP} {ops : Array Oper} {rest : List Oper} {o : Oper} {a : Act} {Q : Exit → Act → World → Prop} (hgd : o.guard = none) (s x : Operand) (t u e : TypeId)
    (ho : o.op = .call { callee := .builtin .append, args := #[s, x], argTypes := #[t, u] })
    (ht : P.underlying t = some (.slice e)) {du : TypeDesc} (hu : P.underlying u = some du) (hdu : du = .string ∨ ∃ e', du = .slice e')
    {z : Value} {bytes : Nat} (hi : (P.info? e).map (fun i => (i.zero, i.size, i.bytes)) = some (some z, 1, bytes)) (hzs : z.cells.size = 1)
    {v xv : Value} {xs news : List α} {m : Nat} (hs : a.eval s = v) (hx : a.eval x = xv) (S : Src P w xv 1 m (news.map enc)) (H : Sep R w (listS enc v xs :: l))
    (h63 : xs.length + news.length ≤ maxLen) (hb : (xs.length + news.length) * bytes ≤ 140737488355328)
    (h : ∀ v' w', Sep R w' (listS enc v' (xs ++ news) :: l) → wpList P ops Q rest (a.put o.dst v') w') : wpList P ops Q (o :: rest) a w := by
  have hm : m = news.length := by have := S.size; simpa using this.symm
  subst hm
  refine wpList_append hgd s x t u e ho ht hu hdu hi hzs hs hx S H h63 hb fun v' w' H' => h v' w' ?_
  unfold listS
  rw [List.length_append, List.map_append]
  exact H'
theorem wpList_append_rec {α : Type} {sz : Nat} {enc : α → List Value} (hsz : 0 < sz) (henc : ∀ a, (enc a).length = sz) {P : Program} {R w : World} {l : List HP} {ops : Array Oper} {rest : List Oper} {o : Oper} {a : Act} {Q : Exit → Act → World → Prop} (hgd : o.guard = none) (s x : Operand) (t u e : TypeId)
    (ho : o.op = .call { callee := .builtin .append, args := #[s, x], argTypes := #[t, u] })
    (ht : P.underlying t = some (.slice e)) {du : TypeDesc} (hu : P.underlying u = some du) (hdu : du = .string ∨ ∃ e', du = .slice e')
    {z : Value} {bytes : Nat} (hi : (P.info? e).map (fun i => (i.zero, i.size, i.bytes)) = some (some z, sz, bytes)) (hzs : z.cells.size = sz)
    {v xv : Value} {xs news : List α} {m : Nat} (hs : a.eval s = v) (hx : a.eval x = xv) (S : Src P w xv sz m (news.flatMap enc)) (H : Sep R w (recS sz enc v xs :: l))
    (h63 : xs.length + news.length ≤ maxLen) (hb : (xs.length + news.length) * bytes ≤ 140737488355328)
    (h : ∀ v' w', Sep R w' (recS sz enc v' (xs ++ news) :: l) → wpList P ops Q rest (a.put o.dst v') w') : wpList P ops Q (o :: rest) a w := by
  have hfl : ∀ l : List α, (l.flatMap enc).length = l.length * sz := by
    intro l
    induction l with
    | nil => simp
    | cons x l ih => simp [ih, henc, Nat.add_mul]; omega
  have hm : m = news.length := by
    have := S.size
    rw [hfl] at this
    exact (Nat.eq_of_mul_eq_mul_right hsz this).symm
  subst hm
  refine wpList_append hgd s x t u e ho ht hu hdu hi hzs hs hx S H h63 hb fun v' w' H' => h v' w' ?_
  unfold recS
  rw [List.length_append, List.flatMap_append]
  exact H'
theorem Src.one1 {α : Type} {enc : α → Value} {P : Program} {R w : World} {l : List HP} {b c : Nat} (y : α) {v : Value} (hy : enc y = v) (h1 : v.oneCell' = true) (H : Sep R w (cellsAt b #[v] :: l)) : Src P w (.slice (some ⟨b, 0, none⟩) 1 c) 1 1 ([y].map enc) := by
  subst hy
  refine Src.cells b 0 c _ rfl (fun j v hv => ?_) (by simpa using h1)
  have := H.c j (v := v) (by simpa using hv)
  simpa using this
end Go.Orch
end
section
namespace Go.Orch
open Go.RowKit
theorem wraps_i64 (n : Int) (h₀ : 0 ≤ n) (h₁ : n < 2 ^ 63) : IntKind.i64.wrap n = n := by rw [IntKind.wrap_i64]; omega
theorem or_byte (x : Int) (c : Nat) (h0 : 0 ≤ x) (h1 : x < 36028797018963968) (hc : c < 256) : bits .or .i64 (x * 256) (wrap64 (c : Int)) = x * 256 + c := by
  have e : wrap64 (c : Int) = c := by unfold wrap64; omega
  rw [e]
  have h1' : x * 256 < 9223372036854775808 := by omega
  have h2 : (c : Int) < 9223372036854775808 := by omega
  have h3 : (c : Int) < 256 := by omega
  have h4 : x * 256 % 256 = 0 := by omega
  have h5 : 0 ≤ x * 256 := by omega
  exact bits_join .i64 63 (by decide) wraps_i64 8 (x * 256) c h5 h4 h1' (Int.natCast_nonneg c) h3 h2
def beN (l : List UInt8) : Nat := l.foldl (fun x c => x * 256 + c.toNat) 0
theorem beN_snoc (l : List UInt8) (c : UInt8) : beN (l ++ [c]) = beN l * 256 + c.toNat := by simp [beN, List.foldl_append]
theorem beN_lt (l : List UInt8) : beN l < 256 ^ l.length := by
  have h : ∀ (l : List UInt8), beN l < 256 ^ l.length := by
    intro l
    induction h : l.length generalizing l with
    | zero => have : l = [] := List.eq_nil_of_length_eq_zero h; subst this; simp [beN]
    | succ n ih =>
      have hne : l ≠ [] := by intro e; subst e; simp at h
      obtain ⟨l', c, rfl⟩ : ∃ l' c, l = l' ++ [c] := ⟨l.dropLast, l.getLast hne, (List.dropLast_concat_getLast hne).symm⟩
      rw [beN_snoc]
      have h' := ih l' (by simpa using h)
      have hc := c.toNat_lt
      rw [Nat.pow_succ]
      omega
  exact h l
theorem take_snoc (l : List UInt8) (k : Nat) (h : k < l.length) : l.take (k + 1) = l.take k ++ [l[k]] := by
  rw [List.take_succ_eq_append_getElem h]
theorem be2 (t : ByteArray) (h : t.size = 2) : ∃ (h0 : 0 < t.size) (h1 : 1 < t.size) (k : Nat), k = beN t.data.toList ∧ k < 65536 ∧ bits .or .i64 (wrap64 (wrap64 ((t[0]).toNat : Int) * 256)) (wrap64 ((t[1]).toNat : Int)) = (k : Int) := by
  refine ⟨by omega, by omega, _, rfl, ?_, ?_⟩
  · have := beN_lt t.data.toList
    have e : t.data.toList.length = 2 := by simpa using h
    rw [e] at this
    omega
  · have c0 := (t[0]'(by omega)).toNat_lt
    have c1 := (t[1]'(by omega)).toNat_lt
    have e1 : wrap64 (wrap64 ((t[0]'(by omega)).toNat : Int) * 256) = ((t[0]'(by omega)).toNat : Int) * 256 := by unfold wrap64; omega
    rw [e1, or_byte _ _ (by omega) (by omega) c1]
    have hl : t.data.toList = [t[0]'(by omega), t[1]'(by omega)] := by
      apply List.ext_getElem
      · simpa using h
      · intro i h1 h2
        have hi : i < 2 := by simpa using h2
        match i, hi with
        | 0, _ => rfl
        | 1, _ => rfl
    rw [hl]
    simp [beN]
theorem be1 (t : ByteArray) (h : t.size = 1) : ∃ (h0 : 0 < t.size), t.data.toList = [t[0]] := by
  refine ⟨by omega, ?_⟩
  apply List.ext_getElem
  · simpa using h
  · intro i h1 h2
    have hi : i < 1 := by simpa using h2
    match i, hi with
    | 0, _ => rfl
theorem str_nil {s : ByteArray} (h : s.data.toList = []) : s.toList = [] ∧ s.toList.isEmpty = true ∧ (!s.toList.isEmpty) = false := by rw [ByteArray.toList_eq, h]; simp
theorem str_ne {s : ByteArray} (h : ¬ s.data.toList = []) : ¬ s.toList = [] ∧ s.toList.isEmpty = false ∧ (!s.toList.isEmpty) = true := by
  rw [ByteArray.toList_eq]; refine ⟨h, ?_, ?_⟩ <;> simp_all
theorem str_pos {s : ByteArray} (h : 0 < s.size) : ¬ s.data.toList = [] := by
  intro e
  have : s.data.toList.length = 0 := by rw [e]; rfl
  rw [ByteArray.size] at h
  simp at this
  simp [this] at h
end Go.Orch
end
