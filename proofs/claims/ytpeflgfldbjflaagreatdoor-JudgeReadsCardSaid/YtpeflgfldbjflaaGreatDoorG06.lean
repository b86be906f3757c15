/- WHAT IS PROVED HERE: Rows of elements of several cells: reading one, storing one, clearing a tail; a filter with a state. No program in sight; Package op: its values, as plain Lean; rows that are only read; Package op: Right. -/
import Derived.Test.YtpeflgfldbjflaaGreatDoorG02
import Derived.Laws.IdiomCopy
import Derived.Lib.SliceRun
import Derived.Test.YtpeflgfldbjflaaGreatDoorG05
import Derived.Laws.Cover1
import Derived.Shelf.SlicesQ.IndexFunc
import Derived.Shelf.SlicesQ.Equal
import Derived.Laws.StructEq
import Derived.Ground.SlgfProg
import Derived.Ground.SlgqProg
import Derived.Test.YtpeflgfldbjflaaGreatDoorG01
set_option linter.unusedVariables false
set_option linter.unusedSimpArgs false
set_option linter.unusedSectionVars false
set_option linter.unnecessarySimpa false
section
namespace Go.Orch
open Go.RowKit
section
variable {R w : World} {l : List HP} {α : Type} {enc : α → List Value} {sz : Nat}
def rowE (b : Nat) (pre : List Value) (enc : α → List Value) (ys : List α) (post : List Value) : HP := cellsAt b (pre ++ ys.flatMap enc ++ post).toArray
theorem Sep.setCells {b : Nat} (B : List Value) : ∀ (vs : List Value) (A old : List Value) (w : World), old.length = vs.length → Sep R w (cellsAt b (A ++ old ++ B).toArray :: l) → Sep R (w.setCells b A.length vs) (cellsAt b (A ++ vs ++ B).toArray :: l)
  | [], A, old, w, h, H => by
    have : old = [] := by simpa using h
    subst this
    exact H
  | v :: vs, A, [], w, h, H => by simp at h
  | v :: vs, A, o :: old, w, h, H => by
    have H1 := H.st A.length v
    have e : (A ++ o :: old ++ B).toArray.setIfInBounds A.length v = ((A ++ [v]) ++ old ++ B).toArray := by
      simp [List.set_append]
    rw [e] at H1
    have H2 := Sep.setCells B vs (A ++ [v]) old _ (by simpa using h) H1
    simpa [World.setCells] using H2
theorem flatMap_len (hk : ∀ x, (enc x).length = sz) (ys : List α) : (ys.flatMap enc).length = ys.length * sz := by
  induction ys with
  | nil => simp
  | cons y ys ih => simp [List.flatMap_cons, hk, ih, Nat.add_mul]; omega
theorem flatMap_get (hk : ∀ x, (enc x).length = sz) : ∀ (ys : List α) (j : Nat) (hj : j < ys.length) (k : Nat), k < sz → (ys.flatMap enc)[j * sz + k]? = (enc ys[j])[k]?
  | [], j, hj, _, _ => by simp at hj
  | y :: ys, 0, _, k, hk2 => by
    simp only [List.flatMap_cons, Nat.zero_mul, Nat.zero_add, List.getElem_cons_zero]
    rw [List.getElem?_append_left (by rw [hk]; exact hk2)]
  | y :: ys, j + 1, hj, k, hk2 => by
    have h1 : (j + 1) * sz + k = (enc y).length + (j * sz + k) := by rw [hk, Nat.add_mul]; omega
    rw [List.flatMap_cons, h1, List.getElem?_append_right (by omega), Nat.add_sub_cancel_left]
    simpa using flatMap_get hk ys j (by simpa using hj) k hk2
theorem flatMap_split (ys : List α) (j : Nat) (hj : j < ys.length) (x : α) : (ys.set j x).flatMap enc = (ys.take j).flatMap enc ++ enc x ++ (ys.drop (j + 1)).flatMap enc := by
  have : ys.set j x = ys.take j ++ [x] ++ ys.drop (j + 1) := by rw [List.set_eq_take_append_cons_drop]; simp [hj]
  rw [this]
  simp [List.flatMap_append]
theorem Sep.elem {b : Nat} {pre post : List Value} {ys : List α} (hk : ∀ x, (enc x).length = sz) (H : Sep R w (rowE b pre enc ys post :: l)) (j : Nat) (hj : j < ys.length) (k : Nat) {v : Value} (hv : (enc ys[j])[k]? = some v) : w.cell? ⟨b, pre.length + j * sz + k, none⟩ = some v := by
  have hk2 : k < sz := by rw [← hk ys[j]]; exact (List.getElem?_eq_some_iff.1 hv).1
  refine H.c _ ?_
  have hlt : j * sz + k < (ys.flatMap enc).length := by
    rw [flatMap_len hk]
    calc j * sz + k < j * sz + sz := by omega
      _ = (j + 1) * sz := by rw [Nat.add_mul]; omega
      _ ≤ ys.length * sz := Nat.mul_le_mul_right _ hj
  rw [List.getElem?_toArray, List.append_assoc, Nat.add_assoc, List.getElem?_append_right (by omega), Nat.add_sub_cancel_left, List.getElem?_append_left hlt, flatMap_get hk ys j hj k hk2, hv]
theorem Sep.setElem {b : Nat} {pre post : List Value} {ys : List α} (hk : ∀ x, (enc x).length = sz) (H : Sep R w (rowE b pre enc ys post :: l)) (j : Nat) (hj : j < ys.length) (x : α) : Sep R (w.setCells b (pre.length + j * sz) (enc x)) (rowE b pre enc (ys.set j x) post :: l) := by
  have e1 : pre ++ ys.flatMap enc ++ post = (pre ++ (ys.take j).flatMap enc) ++ enc ys[j] ++ ((ys.drop (j + 1)).flatMap enc ++ post) := by
    have := flatMap_split (enc := enc) ys j hj ys[j]
    rw [List.set_getElem_self] at this
    rw [this]
    simp
  have e2 : pre ++ (ys.set j x).flatMap enc ++ post = (pre ++ (ys.take j).flatMap enc) ++ enc x ++ ((ys.drop (j + 1)).flatMap enc ++ post) := by
    rw [flatMap_split ys j hj x]
    simp
  unfold rowE at H ⊢
  rw [e1] at H
  rw [e2]
  have h3 : (pre ++ (ys.take j).flatMap enc).length = pre.length + j * sz := by rw [List.length_append, flatMap_len hk, List.length_take, Nat.min_eq_left (by omega)]
  rw [← h3]
  exact H.setCells _ _ _ _ _ (by rw [hk, hk])
theorem Sep.recOpen {v : Value} {xs : List α} (H : Sep R w (recS sz enc v xs :: l)) : (v = .slice none 0 0 ∧ xs = [] ∧ Sep R w l) ∨ ∃ b cap pre post, v = .slice (some ⟨b, List.length pre, none⟩) xs.length cap ∧ xs.length ≤ cap ∧ cap ≤ maxLen ∧ (cap - xs.length) * sz ≤ List.length post ∧ (xs.flatMap enc).length = xs.length * sz ∧ Sep R w (rowE b pre enc xs post :: l) := by
  obtain ⟨hx, H0⟩ := Sep.prop (p := (xs.flatMap enc).length = xs.length * sz) H
  obtain ⟨bel, h0, hs0, h1, h2, hd, hs1, hs2, hrow, hrest⟩ := H0
  rcases hrow with ⟨he, hn⟩ | ⟨b', cap', pre, post, he, hnc, hcm, hpost, hc⟩
  · exact .inl ⟨he, List.eq_nil_of_length_eq_zero hn, H.drop⟩
  · exact .inr ⟨b', cap', pre, post, he, hnc, hcm, hpost, hx, ⟨bel, h0, hs0, h1, h2, hd, hs1, hs2, hc, hrest⟩⟩
theorem Sep.recClose {b cap n : Nat} {pre post : List Value} {xs : List α} (hn : n = xs.length) (h1 : n ≤ cap) (h2 : cap ≤ maxLen) (h3 : (cap - n) * sz ≤ post.length) (h4 : (xs.flatMap enc).length = xs.length * sz) (H : Sep R w (rowE b pre enc xs post :: l)) : Sep R w (recS sz enc (.slice (some ⟨b, pre.length, none⟩) n cap) xs :: l) := by
  subst hn
  exact Sep.mkprop h4 (H.imp fun _ hc => .inr ⟨b, cap, pre, post, rfl, h1, h2, h3, hc⟩)
theorem Sep.someCell {b : Nat} {pre post : List Value} {ys : List α} (hk : ∀ x, (enc x).length = sz) (H : Sep R w (rowE b pre enc ys post :: l)) (i : Nat) (hi : i < pre.length + ys.length * sz + post.length) : (w.cell? ⟨b, i, none⟩).isSome = true := by
  have h : i < (pre ++ ys.flatMap enc ++ post).toArray.size := by simp only [List.size_toArray, List.length_append, flatMap_len hk]; omega
  rw [H.c i (Array.getElem?_eq_getElem h)]
  rfl
theorem Sep.tail {b i : Nat} {pre post vs : List Value} {ys : List α} (hk : ∀ x, (enc x).length = sz) (hi : i ≤ ys.length) (hv : vs.length = (ys.length - i) * sz) (H : Sep R w (rowE b pre enc ys post :: l)) : Sep R (w.setCells b (pre.length + i * sz) vs) (rowE b pre enc (ys.take i) (vs ++ post) :: l) := by
  have e1 : pre ++ ys.flatMap enc ++ post = (pre ++ (ys.take i).flatMap enc) ++ (ys.drop i).flatMap enc ++ post := by
    have : ys.flatMap enc = (ys.take i).flatMap enc ++ (ys.drop i).flatMap enc := by rw [← List.flatMap_append, List.take_append_drop]
    rw [this]
    simp
  unfold rowE at H ⊢
  rw [e1] at H
  have h3 : (pre ++ (ys.take i).flatMap enc).length = pre.length + i * sz := by rw [List.length_append, flatMap_len hk, List.length_take, Nat.min_eq_left (by omega)]
  rw [← h3, ← List.append_assoc]
  exact H.setCells _ _ _ _ _ (by rw [flatMap_len hk, List.length_drop, hv])
end
theorem run_clear_k {P : Program} (w : World) (t e : TypeId) (z : Value) (ht : P.underlying t = some (.slice e)) (hv : ∀ w, (zeroValue e).run P w = .ok z w) (h1 : ∀ v ∈ z.cells.toList, v.oneCell' = true) (b o n c : Nat) (hn : 0 < n)
    (hc : ∀ j, j < n * z.cells.size → (w.cell? ⟨b, o + j, none⟩).isSome = true) (hf : ∀ j, w.frozen? ⟨b, o + j, none⟩ = false) :
    ∃ vs, vs.length = n * z.cells.size ∧ ∀ ty, (Builtin.clear_ #[t] ty #[.slice (some ⟨b, o, none⟩) n c]).run P w = .ok (.tuple #[]) (w.setCells b o vs) := by
  have hl : (Builtin.zeroCells z.cells n).toList.length = n * z.cells.size := by simp [Builtin.zeroCells]
  have hm : ∀ v ∈ (Builtin.zeroCells z.cells n).toList, v.oneCell' = true := by
    intro v hv
    simp only [Builtin.zeroCells, Array.toList_map, Array.toList_range, List.mem_map, List.mem_range] at hv
    obtain ⟨i, hi, rfl⟩ := hv
    have hz : 0 < z.cells.size := by
      rcases Nat.eq_zero_or_pos z.cells.size with h | h
      · rw [h] at hi; simp at hi
      · exact h
    have : i % z.cells.size < z.cells.size := Nat.mod_lt _ hz
    rw [getElem!_pos z.cells _ this]
    exact h1 _ (by simp)
  have hst := run_storeCells_cells (P := P) b o (Builtin.zeroCells z.cells n).toList 0 w (by rw [hl]; simpa using hc) (by intro j _; simpa using hf j) hm
  simp only [Nat.add_zero] at hst
  refine ⟨_, hl, fun ty => ?_⟩
  obtain ⟨m, rfl⟩ : ∃ m, n = m + 1 := ⟨n - 1, by omega⟩
  simp [Builtin.clear_, run_underlying ht, hv, hst]
section
variable {α σ : Type}
def delStep (p : α → σ → Bool × σ) (acc : List α × σ) (x : α) : List α × σ := ((if (p x acc.2).1 then acc.1 else acc.1 ++ [x]), (p x acc.2).2)
def delF (p : α → σ → Bool × σ) (xs : List α) (s : σ) : List α × σ := xs.foldl (delStep p) ([], s)
theorem delF_snoc (p : α → σ → Bool × σ) (xs : List α) (x : α) (s : σ) : delF p (xs ++ [x]) s = delStep p (delF p xs s) x := by simp [delF]
theorem delF_take (p : α → σ → Bool × σ) (xs : List α) (s : σ) (j : Nat) (hj : j < xs.length) : delF p (xs.take (j + 1)) s = delStep p (delF p (xs.take j) s) xs[j] := by
  rw [← List.take_concat_get hj, List.concat_eq_append]
  exact delF_snoc p _ _ s
theorem delF_len (p : α → σ → Bool × σ) (s : σ) : ∀ xs : List α, (delF p xs s).1.length ≤ xs.length := by
  intro xs
  suffices h : ∀ (xs : List α) (acc : List α × σ), (xs.foldl (delStep p) acc).1.length ≤ acc.1.length + xs.length by have := h xs ([], s); unfold delF; simp only [List.length_nil, Nat.zero_add] at this; exact this
  intro xs
  induction xs with
  | nil => intro acc; simp
  | cons x xs ih =>
    intro acc
    have := ih (delStep p acc x)
    have h2 : (delStep p acc x).1.length ≤ acc.1.length + 1 := by unfold delStep; split <;> simp
    simp only [List.foldl_cons, List.length_cons]
    omega
end
theorem Sep.rowSlice {R w : World} {l : List HP} {v : Value} {sz n : Nat} {xs : List Value} (H : Sep R w (rowS v sz n xs :: l)) : ∃ p c, v = .slice p n c := by
  obtain ⟨hx, H⟩ := H.prop
  obtain ⟨bel, h0, hs0, h1, h2, hd, hs1, hs2, hrow, hrest⟩ := H
  rcases hrow with ⟨he, hn⟩ | ⟨b', cap', pre, post, he, _⟩
  · subst hn; exact ⟨_, _, he⟩
  · exact ⟨_, _, he⟩
theorem Sep.recSlice {α : Type} {enc : α → List Value} {R w : World} {l : List HP} {v : Value} {sz : Nat} {xs : List α} (H : Sep R w (recS sz enc v xs :: l)) : ∃ p c, v = .slice p xs.length c := H.rowSlice
theorem Sep.listSlice {α : Type} {enc : α → Value} {R w : World} {l : List HP} {v : Value} {xs : List α} (H : Sep R w (listS enc v xs :: l)) : ∃ p c, v = .slice p xs.length c := H.rowSlice
theorem tl_beq1 (a b : ByteArray) : (a.toList == b.toList) = decide (a = b) := by
  rw [ByteArray.toList_eq, ByteArray.toList_eq]
  by_cases h : a = b
  · subst h; simp
  · have h2 : ¬ a.data.toList = b.data.toList := fun e => h (ByteArray.ext (Array.toList_inj.1 e))
    rw [beq_eq_false_iff_ne.2 h2, decide_eq_false h]
end Go.Orch
end
section
namespace Go.Orch
open Go.RowKit
abbrev most : Int := 281474976710655
structure OpV where
  does : Int
  path : ByteArray
  data : ByteArray
  version : Int
  serial : Bool
  own : Bool
deriving DecidableEq, Inhabited
def opC (o : OpV) : List Value := [.int .i64 o.does, .string o.path, .string o.data, .int .i64 o.version, .bool o.serial, .bool o.own]
structure CmdV where
  kind : Int
  session : Int
  req : Int
  noted : Int
  ops : List OpV
  path : ByteArray
  kids : Bool
  once : Bool
deriving DecidableEq, Inhabited
def cmdC (c : CmdV) (v : Value) : List Value := [.int .i64 c.kind, .int .i64 c.session, .int .i64 c.req, .int .i64 c.noted, v, .string c.path, .bool c.kids, .bool c.once]
structure OutV where
  path : ByteArray
  version : Int
deriving DecidableEq, Inhabited
def outC (o : OutV) : List Value := [.string o.path, .int .i64 o.version]
structure ResV where
  e : Int
  at_ : Int
  outs : List OutV
  when : Int
deriving DecidableEq, Inhabited
def resC (r : ResV) (v : Value) : List Value := [.int .i64 r.e, .int .i64 r.at_, v, .int .i64 r.when]
def cmdZ : CmdV := ⟨0, 0, 0, 0, [], ⟨#[]⟩, false, false⟩
def resZ : ResV := ⟨0, 0, [], 0⟩
abbrev opS (v : Value) (xs : List OpV) : HP := recS 6 opC v xs
abbrev outS (v : Value) (xs : List OutV) : HP := recS 2 outC v xs
def OpV.right (o : OpV) : Bool := decide (1 ≤ o.does) && (decide (o.does ≤ 4) && (decide (o.path.size ≤ 60) && (decide (o.data.size ≤ 61) && (decide (-1 ≤ o.version) && decide (o.version < most)))))
def CmdV.right (c : CmdV) : Bool := decide (0 ≤ c.kind) && (decide (c.kind ≤ 5) && (decide (0 ≤ min (min c.session c.req) c.noted) && (decide (max (max c.session c.req) c.noted ≤ most) && (decide (c.ops.length ≤ 4) && (!(c.ops.any fun o => !o.right) && decide (c.path.size ≤ 60))))))
def opB (o : OpV) : List UInt8 := numB [o.does, o.version + 1] ++ textB [o.path, o.data] ++ flagB [o.serial, o.own]
def CmdV.lay (c : CmdV) : List UInt8 := numB [c.kind, c.session, c.req, c.noted, c.ops.length] ++ c.ops.flatMap opB ++ textB [c.path] ++ flagB [c.kids, c.once]
def bytesOfB (l : List UInt8) : ByteArray := ⟨l.toArray⟩
def CmdV.bytes (c : CmdV) : ByteArray × Int := if c.right = false then (⟨#[]⟩, 1) else if 488 < c.lay.length then (⟨#[]⟩, 3) else (bytesOfB c.lay, 0)
def outB (o : OutV) : List UInt8 := textB [o.path] ++ numB [o.version]
def ResV.lay (r : ResV) : List UInt8 := numB [r.e, r.at_, r.when, r.outs.length] ++ r.outs.flatMap outB
def ResV.bytes (r : ResV) : ByteArray := bytesOfB r.lay
def RowIn {α : Type} (w : World) (enc : α → List Value) (v : Value) (xs : List α) : Prop :=
  ∃ p c, v = .slice p xs.length c ∧ (xs = [] ∨ ∃ b off, p = some ⟨b, off, none⟩ ∧ ∀ j u, (xs.flatMap enc)[j]? = some u → w.cell? ⟨b, off + j, none⟩ = some u)
theorem cell_lt {w : World} {b i : Nat} {u : Value} (h : w.cell? ⟨b, i, none⟩ = some u) : b < w.heap.size := by
  by_cases hb : b < w.heap.size
  · exact hb
  · exfalso
    have h1 : w.heap[b]? = none := Array.getElem?_eq_none (Nat.le_of_not_lt hb)
    simp [World.cell?, h1] at h
theorem RowIn.kept {α : Type} {w w' : World} {enc : α → List Value} {v : Value} {xs : List α} (h : RowIn w enc v xs) (hb : Below w.heap.size w w') : RowIn w' enc v xs := by
  obtain ⟨p, c, rfl, h⟩ := h
  refine ⟨p, c, rfl, ?_⟩
  rcases h with h | ⟨b, off, rfl, h⟩
  · exact .inl h
  · refine .inr ⟨b, off, rfl, fun j u hj => ?_⟩
    have := h j u hj
    rw [hb.cell (p := ⟨b, off + j, none⟩) (cell_lt this)]
    exact this
theorem Sep.rowIn {α : Type} {enc : α → List Value} {sz : Nat} {R w : World} {l : List HP} {v : Value} {xs : List α} (H : Sep R w (recS sz enc v xs :: l)) : RowIn w enc v xs := by
  rcases H.recOpen with ⟨rfl, rfl, _⟩ | ⟨b, cap, pre, post, rfl, _, _, _, _, H1⟩
  · exact ⟨_, _, rfl, .inl rfl⟩
  · refine ⟨_, _, rfl, .inr ⟨b, pre.length, rfl, fun j u hj => ?_⟩⟩
    refine H1.c _ ?_
    have hlt : j < (xs.flatMap enc).length := (List.getElem?_eq_some_iff.1 hj).1
    rw [List.getElem?_toArray, List.append_assoc, List.getElem?_append_right (by omega), Nat.add_sub_cancel_left, List.getElem?_append_left hlt, hj]
theorem row_elem {α : Type} {w : World} {enc : α → List Value} {k b off : Nat} {xs : List α} (hk : ∀ x, (enc x).length = k) (h : ∀ j u, (xs.flatMap enc)[j]? = some u → w.cell? ⟨b, off + j, none⟩ = some u)
    (j : Nat) (hj : j < xs.length) (i : Nat) (u : Value) (hu : (enc xs[j])[i]? = some u) : w.cell? ⟨b, off + j * k + i, none⟩ = some u := by
  have hi : i < k := by rw [← hk xs[j]]; exact (List.getElem?_eq_some_iff.1 hu).1
  rw [Nat.add_assoc]
  refine h _ _ ?_
  rw [flatMap_get hk xs j hj i hi]
  exact hu
theorem step_append_rec {α : Type} {sz : Nat} {enc : α → List Value} (hsz : 0 < sz) (henc : ∀ a, (enc a).length = sz) {P : Program} {R w : World} {l : List HP} {ops : Array Oper} {o : Oper} {a : Act} {K : Act → World → Prop} {Q : Exit → Act → World → Prop} {E : Prop} (hgd : o.guard = none) (s x : Operand) (t u e : TypeId)
    (ho : o.op = .call { callee := .builtin .append, args := #[s, x], argTypes := #[t, u] })
    (ht : P.underlying t = some (.slice e)) {du : TypeDesc} (hu : P.underlying u = some du) (hdu : du = .string ∨ ∃ e', du = .slice e')
    {z : Value} {bytes : Nat} (hi : (P.info? e).map (fun i => (i.zero, i.size, i.bytes)) = some (some z, sz, bytes)) (hzs : z.cells.size = sz)
    {v xv : Value} {xs news : List α} {m : Nat} (hs : a.eval s = v) (hx : a.eval x = xv) (S : Src P w xv sz m (news.flatMap enc)) (H : Sep R w (recS sz enc v xs :: l))
    (h63 : xs.length + news.length ≤ maxLen) (hb : (xs.length + news.length) * bytes ≤ 140737488355328)
    (h : ∀ p c w', Sep R w' (recS sz enc (.slice p (xs ++ news).length c) (xs ++ news) :: l) → K (a.put o.dst (.slice p (xs ++ news).length c)) w') :
    if Region.wanted o (yielded ops a.tmps) = true then Oper.wp P o a w K Q else E := by
  have hw : Region.wanted o (yielded ops a.tmps) = true := by simp [Region.wanted, hgd]
  rw [if_pos hw]
  have hm : m = news.length := by
    have := S.size
    rw [flatMap_len henc] at this
    exact (Nat.eq_of_mul_eq_mul_right hsz this).symm
  subst hm
  obtain ⟨i, hi1, hi2⟩ : ∃ i, P.info? e = some i ∧ (i.zero, i.size, i.bytes) = (some z, sz, bytes) := by
    cases h : P.info? e with
    | none => simp [h] at hi
    | some i => exact ⟨i, rfl, by simpa [h] using hi⟩
  injection hi2 with h1 h2
  injection h2 with h2 h3
  obtain ⟨v', w', hrun, H2⟩ := run_append (P := P) t u o.type e i z ht hu hdu hi1 h1 h2 h3 hzs S H h63 hb
  have H3 : Sep R w' (recS sz enc v' (xs ++ news) :: l) := by
    unfold recS
    rw [List.length_append, List.flatMap_append]
    exact H2
  obtain ⟨p, c, rfl⟩ := H3.recSlice
  unfold Oper.wp
  simp [execOp, ho, resolve, invoke, builtin, hs, hx, hrun, Result.andThen]
  rw [Oper.upon_value]
  simpa using h p c w' H3
theorem run_min3 {P : Program} (x y z : Int) (ts : Array TypeId) (t : TypeId) (w : World) : (Builtin.min_ ts t #[.int .i64 x, .int .i64 y, .int .i64 z]).run P w = .ok (.int .i64 (min (min x y) z)) w := by
  rw [run_min_int3]
  congr 2
  split <;> split <;> omega
theorem run_max3 {P : Program} (x y z : Int) (ts : Array TypeId) (t : TypeId) (w : World) : (Builtin.max_ ts t #[.int .i64 x, .int .i64 y, .int .i64 z]).run P w = .ok (.int .i64 (max (max x y) z)) w := by
  rw [run_max_int3]
  congr 2
  split <;> split <;> omega
theorem Sep.self (w : World) : Sep w w [] := Sep.nil w
end Go.Orch
end
section
namespace Go.Proofs
open Go.RowKit Go.Shelf Go.Orch
namespace YtpeflgfldbjflaaGreatDoor
set_option maxRecDepth 100000 in
set_option maxHeartbeats 1000000 in
theorem opRight_any (o : OpV) (w : World) : Calls Tryz.prog 65 #[.agg (opC o).toArray] w fun e w' => e = .returned (.bool o.right) ∧ Below w.heap.size w w' := by
  obtain ⟨a1, a2, a3, a4, a5, a6⟩ := o
  show Calls Tryz.prog 65 #[.agg #[.int .i64 a1, .string a2, .string a3, .int .i64 a4, .bool a5, .bool a6]] w _
  unfold OpV.right most
  simp only
  by_cases h1 : 1 ≤ a1
  case neg =>
    have e1 : decide (1 ≤ a1) = false := by simpa using h1
    rw [e1, Bool.false_and]
    go_enter Tryz.func65, Tryz.ntmps65
    go_wp2
    go_ret
    exact ⟨rfl, (Below.refl _ _).alloc (Nat.le_refl _) _⟩
  have e1 : decide (1 ≤ a1) = true := by simpa using h1
  rw [e1, Bool.true_and]
  by_cases h2 : a1 ≤ 4
  case neg =>
    have e2 : decide (a1 ≤ 4) = false := by simpa using h2
    rw [e2, Bool.false_and]
    go_enter Tryz.func65, Tryz.ntmps65
    go_wp2
    go_ret
    exact ⟨rfl, (Below.refl _ _).alloc (Nat.le_refl _) _⟩
  have e2 : decide (a1 ≤ 4) = true := by simpa using h2
  rw [e2, Bool.true_and]
  by_cases h3 : a2.size ≤ 60
  case neg =>
    have e3 : decide (a2.size ≤ 60) = false := by simpa using h3
    rw [e3, Bool.false_and]
    go_enter Tryz.func65, Tryz.ntmps65
    go_wp2
    go_ret
    exact ⟨rfl, (Below.refl _ _).alloc (Nat.le_refl _) _⟩
  have e3 : decide (a2.size ≤ 60) = true := by simpa using h3
  rw [e3, Bool.true_and]
  by_cases h4 : a3.size ≤ 61
  case neg =>
    have e4 : decide (a3.size ≤ 61) = false := by simpa using h4
    rw [e4, Bool.false_and]
    go_enter Tryz.func65, Tryz.ntmps65
    go_wp2
    go_ret
    exact ⟨rfl, (Below.refl _ _).alloc (Nat.le_refl _) _⟩
  have e4 : decide (a3.size ≤ 61) = true := by simpa using h4
  rw [e4, Bool.true_and]
  by_cases h5 : -1 ≤ a4
  case neg =>
    have e5 : decide (-1 ≤ a4) = false := by simpa using h5
    rw [e5, Bool.false_and]
    go_enter Tryz.func65, Tryz.ntmps65
    go_wp2
    go_ret
    exact ⟨rfl, (Below.refl _ _).alloc (Nat.le_refl _) _⟩
  have e5 : decide (-1 ≤ a4) = true := by simpa using h5
  rw [e5, Bool.true_and]
  go_enter Tryz.func65, Tryz.ntmps65
  go_wp2
  go_ret
  exact ⟨rfl, (Below.refl _ _).alloc (Nat.le_refl _) _⟩
theorem opRight1_any (o : OpV) (w : World) : Calls Tryz.prog 64 #[.agg (opC o).toArray] w fun e w' => e = .returned (.bool (!o.right)) ∧ Below w.heap.size w w' := by
  have HR := Lib.hid (fun w => opRight_any o w)
  generalize o.right = r at *
  obtain ⟨a1, a2, a3, a4, a5, a6⟩ := o
  have HR2 : Hid (∀ w, Calls Tryz.prog 65 #[.agg #[.int .i64 a1, .string a2, .string a3, .int .i64 a4, .bool a5, .bool a6]] w fun e w' => e = .returned (.bool r) ∧ Below w.heap.size w w') := Lib.hid HR.out
  clear HR
  show Calls Tryz.prog 64 #[.agg #[.int .i64 a1, .string a2, .string a3, .int .i64 a4, .bool a5, .bool a6]] w _
  go_enter Tryz.func64, Tryz.ntmps64
  go_wp2_with fail
  refine Calls.mono (HR2.out _) ?_
  rintro e w1 ⟨rfl, hb⟩
  have HB := Lib.hid hb
  clear hb
  go_wp2
  go_ret
  exact ⟨rfl, ((Below.refl _ _).alloc (Nat.le_refl _) _).trans (HB.out.mono (by simp))⟩
theorem idxOp_nil (p : Option Addr) (c : Nat) (fv : Value) (w : World) :
    Calls Tryz.prog 99 #[.slice p 0 c, fv] w fun e w' => e = .returned (.int .i64 (-1)) ∧ w' = w := by
  go_enter Tryz.func99, Tryz.ntmps99
  go_wp2_with fail
  refine wp_loop_rounds 1 ?_
  rw [rounds_succ]
  go_wp2
  go_ret
  exact ⟨rfl, rfl⟩
theorem containsOp_nil (p : Option Addr) (c : Nat) (fv : Value) (w : World) :
    Calls Tryz.prog 63 #[.slice p 0 c, fv] w fun e w' => e = .returned (.bool false) ∧ w' = w := by
  have h := Lib.hid (idxOp_nil p c fv w)
  go_enter Tryz.func63, Tryz.ntmps63
  go_wp2_with fail
  refine h.out.mono ?_
  rintro e w1 ⟨rfl, rfl⟩
  go_wp2
  go_ret
  exact ⟨rfl, rfl⟩
theorem opsWrong_any (w : World) (v : Value) (xs : List OpV) (hx : xs.length ≤ 1000000) (h : RowIn w opC v xs) :
    Calls Tryz.prog 63 #[v, .func (.func 64) #[] #[]] w fun e w' => e = .returned (.bool (xs.any fun o => !o.right)) ∧ Below w.heap.size w w' := by
  obtain ⟨p, c, rfl, h⟩ := h
  by_cases hz : xs = []
  · subst hz
    refine (containsOp_nil p c _ w).mono ?_
    rintro e w' ⟨rfl, rfl⟩
    exact ⟨rfl, Below.refl _ _⟩
  · rcases h with h | ⟨b, off, rfl, h⟩
    · exact absurd h hz
    · have hpos : 0 < xs.length := List.length_pos_iff.2 hz
      have h0 := row_elem (k := 6) (enc := opC) (fun _ => rfl) h 0 hpos 0 _ rfl
      have := AnyQ.slices_ContainsFunc Tryz.containsOp 6 Tryz.isAgg91 Tryz.sizeOf91 opC (fun _ => rfl) (fun o => !o.right) 64 #[] (enters_of Tryz.func64 (by kernel_rfl) rfl) b off xs.length c xs w
        (fun W x hb => (opRight1_any x W).mono fun e w' he => ⟨he.1, hb.trans (he.2.mono hb.size)⟩) (Nat.le_refl _) (by omega) (cell_lt h0) (fun j hj i v hv => row_elem (k := 6) (fun _ => rfl) h j hj i v (by simpa [hj] using hv))
      rw [List.take_length] at this
      exact this
set_option maxRecDepth 100000 in
set_option maxHeartbeats 2000000 in
theorem cmdRight_any (c : CmdV) (v : Value) (w : World) (hl : c.ops.length ≤ 1000000) (h : RowIn w opC v c.ops) : Calls Tryz.prog 36 #[.agg (cmdC c v).toArray] w fun e w' => e = .returned (.bool c.right) ∧ Below w.heap.size w w' := by
  have HW := Lib.hid (fun W (hb : Below w.heap.size w W) => opsWrong_any W v c.ops hl (h.kept hb))
  obtain ⟨p, k, rfl, h⟩ := h
  clear h
  obtain ⟨a1, a2, a3, a4, ops, a6, a7, a8⟩ := c
  show Calls Tryz.prog 36 #[.agg #[.int .i64 a1, .int .i64 a2, .int .i64 a3, .int .i64 a4, .slice p ops.length k, .string a6, .bool a7, .bool a8]] w _
  unfold CmdV.right most
  simp only at HW ⊢
  obtain ⟨mi, hmi⟩ : ∃ mi, mi = min (min a2 a3) a4 := ⟨_, rfl⟩
  obtain ⟨ma, hma⟩ : ∃ ma, ma = max (max a2 a3) a4 := ⟨_, rfl⟩
  have hrmin : ∀ ts t (W : World), (Builtin.min_ ts t #[.int .i64 a2, .int .i64 a3, .int .i64 a4]).run Tryz.prog W = .ok (.int .i64 mi) W := fun ts t W => by rw [hmi]; exact run_min3 a2 a3 a4 ts t W
  have hrmax : ∀ ts t (W : World), (Builtin.max_ ts t #[.int .i64 a2, .int .i64 a3, .int .i64 a4]).run Tryz.prog W = .ok (.int .i64 ma) W := fun ts t W => by rw [hma]; exact run_max3 a2 a3 a4 ts t W
  rw [← hmi, ← hma]
  clear hmi hma
  by_cases h1 : 0 ≤ a1
  case neg =>
    have e1 : decide (0 ≤ a1) = false := by simpa using h1
    rw [e1, Bool.false_and]
    go_enter Tryz.func36, Tryz.ntmps36
    go_wp2
    go_ret
    exact ⟨rfl, (Below.refl _ _).alloc (Nat.le_refl _) _⟩
  have e1 : decide (0 ≤ a1) = true := by simpa using h1
  rw [e1, Bool.true_and]
  by_cases h2 : a1 ≤ 5
  case neg =>
    have e2 : decide (a1 ≤ 5) = false := by simpa using h2
    rw [e2, Bool.false_and]
    go_enter Tryz.func36, Tryz.ntmps36
    go_wp2
    go_ret
    exact ⟨rfl, (Below.refl _ _).alloc (Nat.le_refl _) _⟩
  have e2 : decide (a1 ≤ 5) = true := by simpa using h2
  rw [e2, Bool.true_and]
  by_cases h3 : 0 ≤ mi
  case neg =>
    have e3 : decide (0 ≤ mi) = false := by simpa using h3
    rw [e3, Bool.false_and]
    go_enter Tryz.func36, Tryz.ntmps36
    go_wp2
    go_ret
    exact ⟨rfl, (Below.refl _ _).alloc (Nat.le_refl _) _⟩
  have e3 : decide (0 ≤ mi) = true := by simpa using h3
  rw [e3, Bool.true_and]
  by_cases h4 : ma ≤ 281474976710655
  case neg =>
    have e4 : decide (ma ≤ 281474976710655) = false := by simpa using h4
    rw [e4, Bool.false_and]
    go_enter Tryz.func36, Tryz.ntmps36
    go_wp2
    go_ret
    exact ⟨rfl, (Below.refl _ _).alloc (Nat.le_refl _) _⟩
  have e4 : decide (ma ≤ 281474976710655) = true := by simpa using h4
  rw [e4, Bool.true_and]
  by_cases h5 : ops.length ≤ 4
  case neg =>
    have e5 : decide (ops.length ≤ 4) = false := by simpa using h5
    have e5i : decide ((ops.length : Int) ≤ 4) = false := by simp; omega
    have h5i : ¬ (ops.length : Int) ≤ 4 := by omega
    rw [e5, Bool.false_and]
    go_enter Tryz.func36, Tryz.ntmps36
    go_wp2
    go_ret
    exact ⟨rfl, (Below.refl _ _).alloc (Nat.le_refl _) _⟩
  have e5 : decide (ops.length ≤ 4) = true := by simpa using h5
  rw [e5, Bool.true_and]
  generalize (ops.any fun o => !o.right) = r at *
  have HW2 := Lib.hid (HW.out _ ((Below.refl _ _).alloc (Nat.le_refl _) (.cells #[.int .i64 a1, .int .i64 a2, .int .i64 a3, .int .i64 a4, .slice p ops.length k, .string a6, .bool a7, .bool a8] 57)))
  clear HW
  by_cases h6 : a6.size ≤ 60
  all_goals
    cases r
  all_goals
    go_enter Tryz.func36, Tryz.ntmps36
    go_wp2_with fail
    refine Calls.mono HW2.out ?_
    rintro e w1 ⟨rfl, hb⟩
    have hc5 := (((Sep.self w).mkc #[.int .i64 a1, .int .i64 a2, .int .i64 a3, .int .i64 a4, .slice p ops.length k, .string a6, .bool a7, .bool a8] 57).kept hb).c 5 rfl
    have HB := Lib.hid hb
    clear hb
    go_wp2
    go_ret
    exact ⟨by simp [h6] <;> omega, ((Below.refl _ _).alloc (Nat.le_refl _) _).trans (HB.out.mono (by simp))⟩
end YtpeflgfldbjflaaGreatDoor
end Go.Proofs
end
