/- WHAT IS PROVED HERE: Maps, said with 'Sep'. No program in sight; A map's keys, sorted by the library, said with 'Sep'. No program in sight; slices.Sorted(maps.Keys(m)) at this program: the library's contracts, laid, and said with 'Sep'. -/
import Derived.Test.YtpeflgfldbjflaaGreatDoorG02
import Derived.Maps.Own
import Derived.Sort.KeysCollected
import Derived.Lib.SlKeysI
import Derived.Shelf.SlIter.Nil
import Derived.Shelf.SlIterI.Nil
import Derived.Shelf.SortM.Plain
import Derived.Shelf.SortM.SortNone
import Derived.Ground.GgzProg
import Derived.Ground.SlgmProg
import Derived.Test.YtpeflgfldbjflaaGreatDoorG01
import Derived.Test.YtpeflgfldbjflaaGreatDoorG04
set_option linter.unusedVariables false
set_option linter.unusedSimpArgs false
set_option linter.unusedSectionVars false
set_option linter.unnecessarySimpa false
section
namespace Go.Orch
open Go.RowKit
theorem bytes_beq (a b : ByteArray) : (a == b) = decide (a = b) := by
  cases a with | mk a => cases b with | mk b =>
  show (a == b) = _
  by_cases h : a = b
  · subst h; simp
  · simp [h]
structure KK (α : Type) where
  kd : TypeDesc
  emb : α → Value
  check : ∀ {P : Program} {k : TypeId} (_ : P.underlying k = some kd) (e : Bool) (n : Nat) (a : α) (w : World), (Instr.checkKey e (n + 1) k (emb a)).run P w = .ok () w
  bits : ∀ n a, Instr.sameBits n (emb a) (emb a) = true
  inj : ∀ a b, emb a = emb b → a = b
section
variable {α β : Type} [DecidableEq α]
def aget (m : List (α × β)) (k : α) : Option β := match m with
  | [] => none
  | (x, v) :: m => if x = k then some v else aget m k
def aput (m : List (α × β)) (k : α) (v : β) : List (α × β) := match m with
  | [] => [(k, v)]
  | (x, u) :: m => if x = k then (x, v) :: m else (x, u) :: aput m k v
def adel (m : List (α × β)) (k : α) : List (α × β) := match m with
  | [] => []
  | (x, u) :: m => if x = k then m else (x, u) :: adel m k
end
structure KK.Same {α : Type} [DecidableEq α] (K : KK α) : Prop where
  now : ∀ a b, Instr.sameNow K.kd (K.emb a) (K.emb b) = some (decide (a = b))
def strK : KK ByteArray where
  kd := .string
  emb := .string
  check := fun h e n a w => by simp [Instr.checkKey, run_underlying h]
  bits := fun n a => by cases n <;> simp [Instr.sameBits, bytes_beq]
  inj := fun a b h => by injection h
def intK : KK Int where
  kd := .int .i64
  emb := .int .i64
  check := fun h e n a w => by simp [Instr.checkKey, run_underlying h]
  bits := fun n a => by cases n <;> simp [Instr.sameBits]
  inj := fun a b h => by injection h
theorem strK_same : strK.Same := ⟨fun a b => by simp only [strK, Instr.sameNow, bytes_beq]⟩
theorem intK_same : intK.Same := ⟨fun a b => by simp only [intK, Instr.sameNow]; simp; by_cases h : a = b <;> simp [h]⟩
def entsOf (es : List MapEntry) : List (Value × Value) := es.map fun e : MapEntry => (e.key, e.val)
def mapAt {α : Type} (K : KK α) (b : Nat) (m : List (α × Value)) : HP := fun h => ∃ (es : Array MapEntry) (clock : Nat),
  (es.toList.map fun e : MapEntry => (e.key, e.val)) = m.map (fun x => (K.emb x.1, x.2)) ∧ (∀ e ∈ es.toList, e.born < clock) ∧ (es.toList.map (·.born)).Nodup ∧ pt b (.map es clock) h
theorem run_getObj_map {P : Program} {w : World} {b : Nat} {es : Array MapEntry} {c : Nat} (h : w.heap[b]? = some (.map es c)) : (getObj b).run P w = .ok (.map es c) w := by
  simp [getObj, Sem.run, h]
theorem run_setObj_map {P : Program} {w : World} {b : Nat} {es : Array MapEntry} {c : Nat} (h : w.heap[b]? = some (.map es c)) (o : Obj) : (setObj b o).run P w = .ok () { w with heap := w.heap.setIfInBounds b o } := by
  simp [setObj, Sem.run, h]
section
variable {α : Type} [DecidableEq α] {K : KK α} (KS : K.Same)
include KS
theorem findNow_get (k : α) : ∀ (es : List MapEntry) (m : List (α × Value)) (i : Nat), (es.map fun e : MapEntry => (e.key, e.val)) = m.map (fun x => (K.emb x.1, x.2)) →
    ∃ r, Instr.findNow K.kd (K.emb k) es i = some r ∧ (r.map (·.2)) = aget m k ∧
      (∀ j v, r = some (j, v) → ∃ n, j = i + n ∧ n < es.length ∧ (es[n]?.map (·.key)) = some (K.emb k) ∧
        (∀ u, ((es.modify n fun e : MapEntry => { e with key := K.emb k, val := u }).map fun e : MapEntry => (e.key, e.val)) = (aput m k u).map (fun x => (K.emb x.1, x.2)) ∧
              ((es.modify n fun e : MapEntry => { e with key := K.emb k, val := u }).map (·.born)) = es.map (·.born)) ∧
        ((es.eraseIdx n).map fun e : MapEntry => (e.key, e.val)) = (adel m k).map (fun x => (K.emb x.1, x.2))) ∧
      (r = none → (∀ (u : Value) (c : Nat), ((es ++ [({ key := K.emb k, val := u, born := c } : MapEntry)]).map fun e : MapEntry => (e.key, e.val)) = (aput m k u).map (fun x => (K.emb x.1, x.2))) ∧ adel m k = m)
  | [], m, i, h => by
    have : m = [] := by simpa using h.symm
    subst this
    exact ⟨none, rfl, rfl, by simp, fun _ => ⟨by simp [aput], rfl⟩⟩
  | e :: es, [], i, h => by simp at h
  | e :: es, (x, v) :: m, i, h => by
    simp only [List.map_cons, List.cons.injEq, Prod.mk.injEq] at h
    obtain ⟨⟨hk, hv⟩, ht⟩ := h
    simp only [Instr.findNow, hk, KS.now]
    by_cases hx : k = x
    · subst hx
      refine ⟨some (i, e.val), by simp, by simp [aget, hv], ?_, by simp⟩
      intro j u hj
      simp at hj
      obtain ⟨rfl, rfl⟩ := hj
      refine ⟨0, by simp, by simp, by simp [hk], ?_, ?_⟩
      · intro u
        simp [aput, ht]
      · simp [adel, ht]
    · have hx' : ¬ x = k := fun e => hx e.symm
      obtain ⟨r, h1, h2, h3, h4⟩ := findNow_get k es m (i + 1) ht
      refine ⟨r, by simp [hx, h1], by simp [aget, hx', h2], ?_, ?_⟩
      · intro j u hj
        obtain ⟨n, hn, hl, hkey, hmod, her⟩ := h3 j u hj
        refine ⟨n + 1, by omega, by simpa using hl, by simpa using hkey, ?_, ?_⟩
        · intro u
          have := hmod u
          simp only [aput, hx', if_false, List.modify_succ_cons, List.map_cons]
          exact ⟨by rw [this.1, hk, hv], by rw [this.2]⟩
        · simp [adel, hx', hk, hv, her]
      · intro hn
        have := h4 hn
        refine ⟨fun u c => ?_, by simp [adel, hx', this.2]⟩
        have h5 := this.1 u c
        simp only [aput, hx', if_false, List.cons_append, List.map_cons]
        rw [h5, hk, hv]
omit KS in
theorem Sep.mapE {R w : World} {l : List HP} {b : Nat} {m : List (α × Value)} (H : Sep R w (mapAt K b m :: l)) :
    ∃ (es : Array MapEntry) (clock : Nat), (es.toList.map fun e : MapEntry => (e.key, e.val)) = m.map (fun x => (K.emb x.1, x.2)) ∧ (∀ e ∈ es.toList, e.born < clock) ∧ (es.toList.map (·.born)).Nodup ∧ Sep R w (pt b (.map es clock) :: l) := by
  obtain ⟨es, H⟩ := H.ex
  obtain ⟨clock, H⟩ := H.ex
  obtain ⟨h1, H⟩ := H.prop
  obtain ⟨h2, H⟩ := H.prop
  obtain ⟨h3, H⟩ := H.prop
  exact ⟨es, clock, h1, h2, h3, H⟩
omit KS in
theorem Sep.mkmap {R w : World} {l : List HP} {b : Nat} {m : List (α × Value)} {es : Array MapEntry} {clock : Nat} (h1 : (es.toList.map fun e : MapEntry => (e.key, e.val)) = m.map (fun x => (K.emb x.1, x.2))) (h2 : ∀ e ∈ es.toList, e.born < clock) (h3 : (es.toList.map (·.born)).Nodup)
    (H : Sep R w (pt b (.map es clock) :: l)) : Sep R w (Orch.mapAt K b m :: l) := H.imp fun _ a => ⟨es, clock, h1, h2, h3, a⟩
theorem findKey_get {P : Program} {w : World} {kt : TypeId} (hk : P.underlying kt = some K.kd) (k : α) (es : List MapEntry) (m : List (α × Value)) (h : (es.map fun e : MapEntry => (e.key, e.val)) = m.map (fun x => (K.emb x.1, x.2))) :
    ∃ r, (Instr.findKey kt (K.emb k) es).run P w = .ok r w ∧ (r.map (·.2)) = aget m k ∧ Instr.findNow K.kd (K.emb k) es 0 = some r := by
  obtain ⟨r, h1, h2, _⟩ := findNow_get KS k es m 0 h
  exact ⟨r, by simp [Instr.findKey, run_underlying hk, h1], h2, h1⟩
theorem run_lookup {P : Program} {R w : World} {l : List HP} {t kt e : TypeId} (ht : P.underlying t = some (.map kt e)) (hk : P.underlying kt = some K.kd) {b : Nat} {m : List (α × Value)} (H : Sep R w (Orch.mapAt K b m :: l)) (k : α)
    {z : Value} (hz : (zeroValue e).run P w = .ok z w) (ok : Bool) :
    (Instr.lookup t (.map (some b)) (K.emb k) ok).run P w = .ok (if ok then .tuple #[(aget m k).getD z, .bool (aget m k).isSome] else (aget m k).getD z) w := by
  obtain ⟨es, clock, h1, _, _, H⟩ := H.mapE
  obtain ⟨r, hr, hg, _⟩ := findKey_get (w := w) KS hk k es.toList m h1
  have hb := H.block.2
  simp only [Instr.lookup, Sem.run_bind, run_underlying ht, Result.andThen_ok, run_getObj_map hb, Sem.run_pure, K.check hk, hr]
  cases r with
  | none =>
    simp at hg
    simp [hz, ← hg]
  | some x =>
    simp at hg
    simp [← hg]
theorem run_mapUpdate {P : Program} {R w : World} {l : List HP} {t kt e : TypeId} (ht : P.underlying t = some (.map kt e)) (hk : P.underlying kt = some K.kd) {b : Nat} {m : List (α × Value)} (H : Sep R w (Orch.mapAt K b m :: l)) (k : α) (v : Value) :
    ∃ w', (Instr.mapUpdate t (.map (some b)) (K.emb k) v).run P w = .ok () w' ∧ Sep R w' (Orch.mapAt K b (aput m k v) :: l) := by
  obtain ⟨es, clock, h1, h2, h3, H⟩ := H.mapE
  obtain ⟨r, hnow, hg, hs, hn⟩ := findNow_get KS k es.toList m 0 h1
  have hb := H.block.2
  have hlt := H.lt
  have hf : (Instr.findKey kt (K.emb k) es.toList).run P w = .ok r w := by simp [Instr.findKey, run_underlying hk, hnow]
  cases r with
  | none =>
    obtain ⟨hput, _⟩ := hn rfl
    refine ⟨{ w with heap := w.heap.setIfInBounds b (.map (es.push { key := K.emb k, val := v, born := clock }) (clock + 1)) }, ?_, ?_⟩
    · simp only [Instr.mapUpdate, Sem.run_bind, run_underlying ht, Result.andThen_ok, run_getObj_map hb, Sem.run_pure, K.check hk, hf, run_setObj_map hb]
    · refine Sep.mkmap (es := es.push { key := K.emb k, val := v, born := clock }) (clock := clock + 1) ?_ ?_ ?_ (H.turn rfl rfl rfl (by simp) (by simp [hlt]) fun i hi hne => by simp [Array.getElem?_setIfInBounds, Ne.symm hne])
      · simpa using hput v clock
      · intro e he
        simp at he
        rcases he with he | rfl
        · have := h2 e (by simpa using he); omega
        · simp
      · simp only [Array.toList_push, List.map_append, List.map_cons, List.map_nil]
        rw [List.nodup_append]
        refine ⟨h3, by simp, ?_⟩
        intro a ha c hc
        simp at ha hc
        obtain ⟨e, he, rfl⟩ := ha
        have := h2 e (by simpa using he)
        omega
  | some x =>
    obtain ⟨i, u⟩ := x
    obtain ⟨n, hin, hl, hkey, hmod, _⟩ := hs i u rfl
    have hi : i = n := by omega
    subst hi
    have hkst : (Instr.keyThatStays (((es[i]?).map (·.key)).getD (K.emb k)) (K.emb k)).run P w = .ok (K.emb k) w := by
      have : (es[i]?).map (·.key) = some (K.emb k) := by simpa using hkey
      rw [this]
      simp [Instr.keyThatStays, K.bits]
    refine ⟨{ w with heap := w.heap.setIfInBounds b (.map (es.modify i fun e : MapEntry => { e with key := K.emb k, val := v }) clock) }, ?_, ?_⟩
    · simp only [Instr.mapUpdate, Sem.run_bind, run_underlying ht, Result.andThen_ok, run_getObj_map hb, Sem.run_pure, K.check hk, hf, hkst, run_setObj_map hb]
    · have hm := hmod v
      have hts : (es.modify i fun e : MapEntry => { e with key := K.emb k, val := v }).toList = es.toList.modify i fun e : MapEntry => { e with key := K.emb k, val := v } := by simp
      refine Sep.mkmap (es := es.modify i fun e : MapEntry => { e with key := K.emb k, val := v }) (clock := clock) ?_ ?_ ?_ (H.turn rfl rfl rfl (by simp) (by simp [hlt]) fun i hi hne => by simp [Array.getElem?_setIfInBounds, Ne.symm hne])
      · rw [hts]; exact hm.1
      · rw [hts]
        intro e he
        have hb' : e.born ∈ ((es.toList.modify i fun e : MapEntry => { e with key := K.emb k, val := v }).map (·.born)) := List.mem_map_of_mem he
        rw [hm.2] at hb'
        obtain ⟨e', he', hbe⟩ := List.mem_map.1 hb'
        rw [← hbe]; exact h2 e' he'
      · rw [hts, hm.2]; exact h3
theorem run_delete {P : Program} {R w : World} {l : List HP} {t kt e ty t2 : TypeId} (ht : P.underlying t = some (.map kt e)) (hk : P.underlying kt = some K.kd) {b : Nat} {m : List (α × Value)} (H : Sep R w (Orch.mapAt K b m :: l)) (k : α) :
    ∃ w', (Builtin.delete_ #[t, t2] ty #[.map (some b), K.emb k]).run P w = .ok (.tuple #[]) w' ∧ Sep R w' (Orch.mapAt K b (adel m k) :: l) := by
  obtain ⟨es, clock, h1, h2, h3, H⟩ := H.mapE
  obtain ⟨r, hnow, hg, hs, hn⟩ := findNow_get KS k es.toList m 0 h1
  have hb := H.block.2
  have hlt := H.lt
  have hf : (Instr.findKey kt (K.emb k) es.toList).run P w = .ok r w := by simp [Instr.findKey, run_underlying hk, hnow]
  cases r with
  | none =>
    obtain ⟨_, hdel⟩ := hn rfl
    refine ⟨{ w with heap := w.heap.setIfInBounds b (.map es clock) }, ?_, ?_⟩
    · simp [Builtin.delete_, run_underlying ht, run_getObj_map hb, K.check hk, hf, run_setObj_map hb]
    · exact Sep.mkmap (by rw [hdel]; exact h1) h2 h3 (H.turn rfl rfl rfl (by simp) (by simp [hlt]) fun i hi hne => by simp [Array.getElem?_setIfInBounds, Ne.symm hne])
  | some x =>
    obtain ⟨i, u⟩ := x
    obtain ⟨n, hin, hl, _, _, her⟩ := hs i u rfl
    have hi : i = n := by omega
    subst hi
    have hts : (es.eraseIdxIfInBounds i).toList = es.toList.eraseIdx i := by simp
    refine ⟨{ w with heap := w.heap.setIfInBounds b (.map (es.eraseIdxIfInBounds i) clock) }, ?_, ?_⟩
    · simp [Builtin.delete_, run_underlying ht, run_getObj_map hb, K.check hk, hf, run_setObj_map hb]
    · refine Sep.mkmap (es := es.eraseIdxIfInBounds i) (clock := clock) ?_ ?_ ?_ (H.turn rfl rfl rfl (by simp) (by simp [hlt]) fun i hi hne => by simp [Array.getElem?_setIfInBounds, Ne.symm hne])
      · rw [hts]; exact her
      · rw [hts]; intro e he; exact h2 e (List.mem_of_mem_eraseIdx he)
      · rw [hts]
        exact List.Nodup.sublist (List.Sublist.map _ (List.eraseIdx_sublist _ _)) h3
section
variable {P : Program} {R w : World} {l : List HP} {ops : Array Oper} {rest : List Oper} {o : Oper} {a : Act} {Q : Exit → Act → World → Prop}
theorem wpList_lookup (hgd : o.guard = none) (m x : Operand) (t kt e : TypeId) (ok : Bool) (ho : o.op = .lookup t m x ok) (ht : P.underlying t = some (.map kt e)) (hk : P.underlying kt = some K.kd) {z : Value} (hz : ∀ w : World, (zeroValue e).run P w = .ok z w)
    {b : Nat} {mm : List (α × Value)} (H : Sep R w (Orch.mapAt K b mm :: l)) {k : α} (hm : a.eval m = .map (some b)) (hx : a.eval x = K.emb k) (r : Option Value) (hr : aget mm k = r)
    (h : wpList P ops Q rest (a.put o.dst (if ok then .tuple #[r.getD z, .bool r.isSome] else r.getD z)) w) : wpList P ops Q (o :: rest) a w := by
  refine wpList_plain hgd fun K' hK => ?_
  have hrun := run_lookup KS ht hk H k (hz w) ok
  rw [hr] at hrun
  unfold Oper.wp execOp
  simp only [ho, Sem.run_bind, hm, hx, hrun, Result.andThen_ok, Sem.run_pure]
  exact hK _ _ h
theorem wpList_mapUpdate (hgd : o.guard = none) (m x y : Operand) (t kt e : TypeId) (ho : o.op = .mapUpdate t m x y) (ht : P.underlying t = some (.map kt e)) (hk : P.underlying kt = some K.kd)
    {b : Nat} {mm : List (α × Value)} (H : Sep R w (Orch.mapAt K b mm :: l)) {k : α} {v : Value} (hm : a.eval m = .map (some b)) (hx : a.eval x = K.emb k) (hy : a.eval y = v)
    (h : ∀ w', Sep R w' (Orch.mapAt K b (aput mm k v) :: l) → wpList P ops Q rest (a.put o.dst undef) w') : wpList P ops Q (o :: rest) a w := by
  refine wpList_plain hgd fun K' hK => ?_
  obtain ⟨w', hrun, H'⟩ := run_mapUpdate KS ht hk H k v
  unfold Oper.wp execOp
  simp only [ho, Sem.run_bind, hm, hx, hy, hrun, Result.andThen_ok, Sem.run_pure]
  exact hK _ _ (h w' H')
theorem wpList_insert (hgd : o.guard = none) (m x y : Operand) (t kt e : TypeId) (ho : o.op = .insert t m x y) (ht : P.underlying t = some (.map kt e)) (hk : P.underlying kt = some K.kd)
    {b : Nat} {mm : List (α × Value)} (H : Sep R w (Orch.mapAt K b mm :: l)) {k : α} {v : Value} (hm : a.eval m = .map (some b)) (hx : a.eval x = K.emb k) (hy : a.eval y = v)
    (h : ∀ w', Sep R w' (Orch.mapAt K b (aput mm k v) :: l) → wpList P ops Q rest (a.put o.dst undef) w') : wpList P ops Q (o :: rest) a w := by
  refine wpList_plain hgd fun K' hK => ?_
  obtain ⟨w', hrun, H'⟩ := run_mapUpdate KS ht hk H k v
  unfold Oper.wp execOp
  simp only [ho, Sem.run_bind, hm, hx, hy, hrun, Result.andThen_ok, Sem.run_pure]
  exact hK _ _ (h w' H')
theorem wpList_delete (hgd : o.guard = none) (m x : Operand) (t t2 kt e : TypeId) (ho : o.op = .call { callee := .builtin .delete, args := #[m, x], argTypes := #[t, t2] }) (ht : P.underlying t = some (.map kt e)) (hk : P.underlying kt = some K.kd)
    {b : Nat} {mm : List (α × Value)} (H : Sep R w (Orch.mapAt K b mm :: l)) {k : α} (hm : a.eval m = .map (some b)) (hx : a.eval x = K.emb k)
    (h : ∀ w', Sep R w' (Orch.mapAt K b (adel mm k) :: l) → wpList P ops Q rest (a.put o.dst (.tuple #[])) w') : wpList P ops Q (o :: rest) a w := by
  refine wpList_plain hgd fun K' hK => ?_
  obtain ⟨w', hrun, H'⟩ := run_delete (ty := o.type) (t2 := t2) KS ht hk H k
  unfold Oper.wp execOp
  simp only [ho, resolve, invoke, builtin, Sem.run_bind, Sem.run_pure, Result.andThen_ok, List.map_toArray, List.map_cons, List.map_nil, hm, hx, hrun]
  exact hK _ _ (h w' H')
omit KS in
theorem run_lenMap {P : Program} {R w : World} {l : List HP} {t kt e ty : TypeId} (ht : P.underlying t = some (.map kt e)) {b : Nat} {mm : List (α × Value)} (H : Sep R w (Orch.mapAt K b mm :: l)) :
    (Builtin.len_ #[t] ty #[.map (some b)]).run P w = .ok (.int .i64 (mm.length : Int)) w := by
  obtain ⟨es, clock, h1, _, _, H⟩ := H.mapE
  have hb := H.block.2
  have hl : es.size = mm.length := by have := congrArg List.length h1; simpa using this
  simp [Builtin.len_, run_underlying ht, run_getObj_map hb, goInt, hl]
omit KS in
theorem wpList_lenMap (hgd : o.guard = none) (m : Operand) (t kt e : TypeId) (ho : o.op = .call { callee := .builtin .len, args := #[m], argTypes := #[t] }) (ht : P.underlying t = some (.map kt e))
    {b : Nat} {mm : List (α × Value)} (H : Sep R w (Orch.mapAt K b mm :: l)) (hm : a.eval m = .map (some b))
    (h : wpList P ops Q rest (a.put o.dst (.int .i64 (mm.length : Int))) w) : wpList P ops Q (o :: rest) a w := by
  refine wpList_plain hgd fun K' hK => ?_
  obtain ⟨es, clock, h1, _, _, H⟩ := H.mapE
  have hb := H.block.2
  have hl : es.size = mm.length := by have := congrArg List.length h1; simpa using this
  unfold Oper.wp execOp
  simp only [ho, resolve, invoke, builtin, Builtin.len_, Sem.run_bind, Sem.run_pure, Result.andThen_ok, List.map_toArray, List.map_cons, List.map_nil, hm]
  simp only [run_underlying ht, Result.andThen_ok, run_getObj_map hb, Sem.run_bind, Sem.run_pure, goInt, hl, List.getElem?_toArray, List.getElem?_cons_zero]
  exact hK _ _ h
end
end
end Go.Orch
end
section
namespace Go.Orch
open Go.RowKit Go.Maps Go.Proofs
def sortI (l : List Int) : List Int := l.mergeSort leI
theorem sortI_perm {l l' : List Int} (h : l.Perm l') : sortI l = sortI l' := mergeSort_of_perm_i h
def bytesOf (l : List UInt8) : ByteArray := ⟨l.toArray⟩
def sortB (l : List ByteArray) : List ByteArray := ((l.map fun s => s.data.toList).mergeSort leB).map bytesOf
theorem sortB_perm {l l' : List ByteArray} (h : l.Perm l') : sortB l = sortB l' := by unfold sortB; rw [mergeSort_of_perm (h.map _)]
theorem encStr_bytes (l : List ByteArray) : (l.map fun s => s.data.toList).map encStr = l.map Value.string := by
  rw [List.map_map]; rfl
theorem encStr_bytesOf (l : List (List UInt8)) : l.map encStr = (l.map bytesOf).map Value.string := by
  rw [List.map_map]; rfl
theorem mem_sortI {l : List Int} {x : Int} : x ∈ sortI l ↔ x ∈ l := (List.mergeSort_perm l leI).mem_iff
theorem len_sortI (l : List Int) : (sortI l).length = l.length := (List.mergeSort_perm l leI).length_eq
theorem sortB_perm_self (l : List ByteArray) : (sortB l).Perm l := by
  have h := (List.mergeSort_perm (l.map fun s => s.data.toList) leB).map bytesOf
  rwa [List.map_map, show (bytesOf ∘ fun s : ByteArray => s.data.toList) = id from rfl, List.map_id] at h
theorem mem_sortB {l : List ByteArray} {x : ByteArray} : x ∈ sortB l ↔ x ∈ l := (sortB_perm_self l).mem_iff
theorem len_sortB (l : List ByteArray) : (sortB l).length = l.length := (sortB_perm_self l).length_eq
section
variable {R w w' : World} {l : List HP}
theorem Sep.adopt {g : Nat} {o : Obj} (H : Sep R w l) (hb : Below w.heap.size w w') (hg : w.heap.size ≤ g) (ho : w'.heap[g]? = some o) : Sep R w' (pt g o :: l) := by
  obtain ⟨bel, h, s, c⟩ := H
  have hlt : ∀ x o', h x = some o' → x < w.heap.size := fun x o' hx => (Array.getElem?_eq_some_iff.1 (s _ _ hx).2).1
  refine ⟨bel.trans (hb.mono bel.size), fun x => if x = g then some o else h x, fun x o' hx => ?_, fun x => if x = g then some o else none, h, fun x => ?_, fun x o' hx => ?_, fun x o' hx => ?_, by simp [pt], c⟩
  · by_cases e : x = g
    · subst e; simp at hx; subst hx; exact ⟨Nat.le_trans bel.size hg, ho⟩
    · simp [e] at hx
      refine ⟨(s _ _ hx).1, ?_⟩
      rw [hb.block x (hlt _ _ hx)]
      exact (s _ _ hx).2
  · by_cases e : x = g
    · right
      subst e
      cases hx : h x with
      | none => rfl
      | some o' => exact absurd (hlt _ _ hx) (by omega)
    · left; simp [e]
  · by_cases e : x = g
    · subst e; simp at hx ⊢; exact hx
    · simp [e] at hx
  · by_cases e : x = g
    · exact absurd (hlt _ _ hx) (by omega)
    · simp [e, hx]
theorem Sep.mknil (H : Sep R w l) (sz : Nat) : Sep R w (rowS (.slice none 0 0) sz 0 [] :: l) := by
  obtain ⟨bel, h, s, c⟩ := H
  exact ⟨bel, h, s, fun _ => none, h, fun x => .inl rfl, fun _ _ hx => by simp at hx, fun _ _ hx => hx, ⟨by simp, .inl ⟨rfl, rfl⟩⟩, c⟩
theorem Sep.row {e : TypeId} {sz n : Nat} {v : Value} {xs : List Value} (H : Sep R w l) (hb : Below w.heap.size w w') (hr : w'.ownsRow w.heap.size e sz v n xs) : Sep R w' (rowS v sz n xs :: l) := by
  obtain ⟨hl, h⟩ := hr
  rcases h with ⟨rfl, rfl⟩ | ⟨g, cap, cur, rfl, hg, ho, h1, h2, h3, h4⟩
  · have : xs = [] := by simpa using hl
    subst this
    exact (H.kept hb).mknil sz
  · have H1 := H.adopt hb hg ho
    refine H1.imp fun h hp => ⟨hl, .inr ⟨g, cap, [], cur.toList.drop (n * sz), rfl, h1, h2, ?_, ?_⟩⟩
    · simp [h3, Nat.sub_mul]
    · refine ⟨e, ?_⟩
      rw [List.nil_append, ← h4, List.take_append_drop]
      exact hp
theorem keyOf_str' {P : Program} {k : TypeId} (hk : P.underlying k = some .string) {s : ByteArray} (hs : s.size ≤ maxLen) : keyOf P k (.string s) = some (.string s.data.toList) := by
  simp [keyOf, hk, mapKey, hs]
section
variable {α : Type} {K : KK α}
theorem Sep.owns {P : Program} {k : TypeId} {b : Nat} {m : List (α × Value)} (f : α → Lit) (hk : ∀ x ∈ m, keyOf P k (K.emb x.1) = some (f x.1)) (hl : m.length ≤ maxLen) (hnd : (m.map (·.1)).Nodup) (H : Sep R w (mapAt K b m :: l)) :
    ∃ D : List (Lit × DataW Unit), w.ownsMap P k (fun _ => some (.nil, [])) b m.length (.map D) ∧ (D.map (·.1)).Perm (m.map fun x => f x.1) := by
  obtain ⟨h, ⟨es, clock, he, hborn, hbn, hp⟩, s⟩ := H.facts
  have hb := (s _ _ hp).2
  have hlen : es.size = m.length := by rw [← Array.length_toList, ← List.length_map (f := fun e : MapEntry => (e.key, e.val)), he, List.length_map]
  have hkeys : es.toList.map (·.key) = m.map fun x => K.emb x.1 := by
    have := congrArg (List.map Prod.fst) he
    simpa [List.map_map, Function.comp_def] using this
  have hread : ∀ x ∈ es.toList, ∃ a ∈ m, x.key = K.emb a.1 := fun x hx => by
    have : x.key ∈ es.toList.map (·.key) := List.mem_map_of_mem hx
    rw [hkeys] at this
    obtain ⟨a, ha, e⟩ := List.mem_map.1 this
    exact ⟨a, ha, e.symm⟩
  refine ⟨_, ⟨es, clock, hb, ⟨by omega, ⟨hborn, hbn, ?_⟩, ?_⟩, by omega, rfl⟩, ?_⟩
  · rw [hkeys]
    have h2 : ((m.map (·.1)).map K.emb).Nodup := List.Pairwise.map _ (fun a b hab e => hab (K.inj _ _ e)) hnd
    rwa [List.map_map] at h2
  · intro x hx
    obtain ⟨a, ha, e⟩ := hread x hx
    exact ⟨(f a.1, .nil), by simp [WideElems.rd, e, hk a ha]⟩
  · refine ((WideShapes.sorted_perm _).map _).trans ?_
    rw [List.map_map]
    have e1 : es.toList.map ((fun p : Lit × DataW Unit => p.1) ∘ WideElems.rg P k fun _ => some (.nil, [])) = es.toList.map (fun x => ((keyOf P k x.key).getD (.bool false))) := by
      refine List.map_congr_left fun x hx => ?_
      obtain ⟨a, ha, e⟩ := hread x hx
      simp [WideElems.rg, WideElems.rd, e, hk a ha]
    have e2 : es.toList.map (fun x => ((keyOf P k x.key).getD (.bool false))) = (es.toList.map (·.key)).map fun v => (keyOf P k v).getD (.bool false) := by
      rw [List.map_map]; rfl
    rw [e1, e2, hkeys, List.map_map]
    refine List.Perm.of_eq (List.map_congr_left fun x hx => ?_)
    simp [hk x hx]
end
theorem Sep.ownsStr {P : Program} {k : TypeId} {b : Nat} {m : List (ByteArray × Value)} (hk : P.underlying k = some .string) (hs : ∀ x ∈ m, x.1.size ≤ maxLen) (hl : m.length ≤ maxLen) (hnd : (m.map (·.1)).Nodup) (H : Sep R w (mapAt strK b m :: l)) :
    ∃ D : DataW Unit, w.ownsMap P k (fun _ => some (.nil, [])) b m.length D ∧ Maps.size D = m.length ∧ (strKeys D).mergeSort leB = (m.map fun x => x.1.data.toList).mergeSort leB := by
  obtain ⟨D, h1, h2⟩ := H.owns (fun s => .string s.data.toList) (fun x hx => keyOf_str' hk (hs x hx)) hl hnd
  refine ⟨.map D, h1, by simpa [Maps.size] using h2.length_eq, mergeSort_of_perm ?_⟩
  have := h2.map strOf
  simpa [strKeys, List.map_map, Function.comp_def, strOf] using this
theorem Sep.ownsInt {P : Program} {k : TypeId} {b : Nat} {m : List (Int × Value)} (hk : P.underlying k = some (.int .i64)) (hs : ∀ x ∈ m, (Lit.int .i64 x.1).wf = true) (hl : m.length ≤ maxLen) (hnd : (m.map (·.1)).Nodup) (H : Sep R w (mapAt intK b m :: l)) :
    ∃ D : DataW Unit, w.ownsMap P k (fun _ => some (.nil, [])) b m.length D ∧ Maps.size D = m.length ∧ (intKeys D).mergeSort leI = sortI (m.map (·.1)) := by
  obtain ⟨D, h1, h2⟩ := H.owns (fun s => .int .i64 s) (fun x hx => Maps.keyOf_int_mk hk (hs x hx)) hl hnd
  refine ⟨.map D, h1, by simpa [Maps.size] using h2.length_eq, mergeSort_of_perm_i ?_⟩
  have := h2.map Go.intOf
  simpa [intKeys, List.map_map, Function.comp_def, Go.intOf] using this
end
end Go.Orch
end
section
namespace Go.Proofs
open Go.RowKit Go.Maps Go.Sort Go.Shelf Go.Orch
theorem Tryz.sortsN (m : Nat) : AnyZ.SortsIn Tryz.prog Tryz.sortedN_ren Fence.wide m :=
  ⟨fun blk off cap ss W hH hblk hsz => callsIn_wide.2 (AnyM.slices_Sort_string Tryz.sortN blk off cap ss W hH hblk hsz),
   fun p cap W => callsIn_wide.2 (AnyM.slices_Sort_string_none Tryz.sortN p cap W)⟩
theorem Tryz.sortsI (m : Nat) : AnyZI.SortsIn Tryz.prog Tryz.sortedI_ren Fence.wide m :=
  ⟨fun blk off cap ss W hH hblk hsz => callsIn_wide.2 (AnyM.slices_Sort_int Tryz.sortI blk off cap ss W hH hblk hsz),
   fun p cap W => callsIn_wide.2 (AnyM.slices_Sort_int_none Tryz.sortI p cap W)⟩
namespace YtpeflgfldbjflaaGreatDoor
theorem keysN_any (mb : Option Nat) (W : World) : Calls Tryz.prog 142 #[.map mb] W fun e w' =>
    e = .returned (.func (.func 161) #[] #[.pointer (some ⟨W.heap.size, 0, none⟩)]) ∧ w' = W.alloc (.cells #[.map mb] 79) :=
  (callsIn_wide (n := 5)).1 (AnyZ.keys_in Tryz.keysN Fence.wide 5 trivial rfl mb W)
theorem keysI_any (mb : Option Nat) (W : World) : Calls Tryz.prog 111 #[.map mb] W fun e w' =>
    e = .returned (.func (.func 135) #[] #[.pointer (some ⟨W.heap.size, 0, none⟩)]) ∧ w' = W.alloc (.cells #[.map mb] 126) :=
  (callsIn_wide (n := 5)).1 (AnyZI.keys_in Tryz.keysI Fence.wide 5 trivial rfl mb W)
theorem encStr_sort (ss : List (List UInt8)) (m : List ByteArray) (h : ss.mergeSort leB = (m.map fun s => s.data.toList).mergeSort leB) : (ss.mergeSort leB).map encStr = (sortB m).map Value.string := by
  rw [h, encStr_bytesOf, sortB]
set_option maxHeartbeats 1000000 in
theorem sortedN_any (R w : World) (l : List HP) (b : Nat) (m : List (ByteArray × Value)) (hs : ∀ x ∈ m, x.1.size ≤ maxLen) (hl : m.length ≤ 1000000) (hnd : (m.map (·.1)).Nodup) (H : Sep R w (mapAt strK b m :: l)) :
    Calls Tryz.prog 141 #[.func (.func 161) #[] #[.pointer (some ⟨w.heap.size, 0, none⟩)]] (w.alloc (.cells #[.map (some b)] 79)) fun e w' =>
      ∃ v, e = .returned v ∧ Sep R w' (listS Value.string v (sortB (m.map (·.1))) :: mapAt strK b m :: l) := by
  have hml : (1000000 : Nat) ≤ maxLen := by decide
  obtain ⟨D0, hown, hsz, hkeys⟩ := H.ownsStr (P := Tryz.prog) (k := 9) Tryz.underlying9 hs (by omega) hnd
  have hbl := hown.lt
  have hseq : SeqGives Fence.wide 2 Tryz.prog 161 #[.pointer (some ⟨w.heap.size, 0, none⟩)] encStr (fun ss => ss.Perm (strKeys D0)) (Maps.size D0) (w.alloc (.cells #[.map (some b)] 79)) :=
    AnyZ.keys_gives (ρ := Tryz.keysN_ren) { Tryz.keysN with } Fence.wide _ trivial rfl (by omega) w.heap.size b m.length D0 _ (by simp) (by simp) (by
      obtain ⟨es, clock, hb, Ft, hs, hD⟩ := hown
      exact ⟨es, clock, (Below.heap_alloc _ _ b hbl).trans hb, Ft, hs, hD⟩)
  have hc := AnyZ.sorted_in Tryz.sortedN Fence.wide 5 trivial trivial trivial trivial rfl (by omega) (Tryz.sortsN _) (enters_of Tryz.func29 (by kernel_rfl) rfl) 161 #[.pointer (some ⟨w.heap.size, 0, none⟩)] trivial (enters_of Tryz.func161 (by kernel_rfl) rfl) _ _ (by omega) (by omega) _ hseq
  refine Calls.mono ((callsIn_wide (n := 5)).1 hc) ?_
  rintro e w' ⟨v, ss, rfl, hS, hrow, hnil, hb⟩
  refine ⟨v, rfl, ?_⟩
  have H2 := ((H.mkc #[.map (some b)] 79).drop).row hb hrow
  rw [encStr_sort ss (m.map (·.1)) ((mergeSort_of_perm hS).trans (by rw [hkeys, List.map_map]; rfl))] at H2
  unfold listS
  have : ss.length = (sortB (m.map (·.1))).length := by
    rw [len_sortB, List.length_map, ← hsz, hS.length_eq]
    cases D0 <;> simp [strKeys, Maps.size]
  rw [← this]
  exact H2
set_option maxHeartbeats 1000000 in
theorem sortedI_any (R w : World) (l : List HP) (b : Nat) (m : List (Int × Value)) (hs : ∀ x ∈ m, (Lit.int .i64 x.1).wf = true) (hl : m.length ≤ 1000000) (hnd : (m.map (·.1)).Nodup) (H : Sep R w (mapAt intK b m :: l)) :
    Calls Tryz.prog 110 #[.func (.func 135) #[] #[.pointer (some ⟨w.heap.size, 0, none⟩)]] (w.alloc (.cells #[.map (some b)] 126)) fun e w' =>
      ∃ v, e = .returned v ∧ Sep R w' (listS (Value.int .i64) v (Orch.sortI (m.map (·.1))) :: mapAt intK b m :: l) := by
  have hml : (1000000 : Nat) ≤ maxLen := by decide
  obtain ⟨D0, hown, hsz, hkeys⟩ := H.ownsInt (P := Tryz.prog) (k := 3) Tryz.underlying3 hs (by omega) hnd
  have hbl := hown.lt
  have hseq : SeqGives Fence.wide 2 Tryz.prog 135 #[.pointer (some ⟨w.heap.size, 0, none⟩)] encZ (fun ss => ss.Perm (intKeys D0)) (Maps.size D0) (w.alloc (.cells #[.map (some b)] 126)) :=
    AnyZI.keys_gives (ρ := Tryz.keysI_ren) { Tryz.keysI with } Fence.wide _ trivial rfl (by omega) w.heap.size b m.length D0 _ (by simp) (by simp) (by
      obtain ⟨es, clock, hb, Ft, hs, hD⟩ := hown
      exact ⟨es, clock, (Below.heap_alloc _ _ b hbl).trans hb, Ft, hs, hD⟩)
  have hc := AnyZI.sorted_in Tryz.sortedI Fence.wide 5 trivial trivial trivial trivial rfl (by omega) (Tryz.sortsI _) (enters_of Tryz.func134 (by kernel_rfl) rfl) 135 #[.pointer (some ⟨w.heap.size, 0, none⟩)] trivial (enters_of Tryz.func135 (by kernel_rfl) rfl) _ _ (by omega) (by omega) _ hseq
  refine Calls.mono ((callsIn_wide (n := 5)).1 hc) ?_
  rintro e w' ⟨v, ss, rfl, hS, hrow, hnil, hb⟩
  refine ⟨v, rfl, ?_⟩
  have H2 := ((H.mkc #[.map (some b)] 126).drop).row hb hrow
  rw [show ss.mergeSort (fun x y => decide (x ≤ y)) = Orch.sortI (m.map (·.1)) from (mergeSort_of_perm_i hS).trans hkeys] at H2
  unfold listS
  have : ss.length = (Orch.sortI (m.map (·.1))).length := by
    rw [len_sortI, List.length_map, ← hsz, hS.length_eq]
    cases D0 <;> simp [intKeys, Maps.size]
  rw [← this]
  exact H2
end YtpeflgfldbjflaaGreatDoor
end Go.Proofs
end
