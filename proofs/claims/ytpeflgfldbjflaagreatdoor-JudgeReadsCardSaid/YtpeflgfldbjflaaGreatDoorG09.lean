/- WHAT IS PROVED HERE: Masks; the lists that the laws are given. No program in sight but for the twins; What a law's list of commands gives the walk, and its bytes; What the row's conditions give: the package-level variables that the walks read. -/
import Derived.Test.YtpeflgfldbjflaaGreatDoorG07
import Derived.Test.YtpeflgfldbjflaaGreatDoorG08
import Derived.ProofKit
import Derived.Deep.Slices
import Derived.ChangeArms
import Derived.Test.YtpeflgfldbjflaaGreatDoorRows
import Derived.Test.YtpeflgfldbjflaaGreatDoorG04
import Derived.OpenShut
import Derived.LaidMore
import Derived.Lay
import Derived.SevenTiedAt
import Derived.HandedShaped
import Derived.Shelf.Vars
import Derived.Stop.Joined
set_option linter.unusedVariables false
set_option linter.unusedSimpArgs false
set_option linter.unusedSectionVars false
set_option linter.unnecessarySimpa false
section
namespace Go.Orch
open Go.RowKit
theorem i64_and255 (n : Int) : bits .and .i64 n 255 = n % 256 := by
  have h127 : (BitVec.ofInt 64 255).toNat = 2 ^ 8 - 1 := by decide
  have key : (BitVec.ofInt 64 n &&& BitVec.ofInt 64 255).toNat = (n % ((2 ^ 64 : Nat) : Int)).toNat % 2 ^ 8 := by
    rw [BitVec.toNat_and, BitVec.toNat_ofInt, h127, Nat.and_two_pow_sub_one_eq_mod]
  show IntKind.i64.wrap ((BitVec.ofInt 64 n &&& BitVec.ofInt 64 255).toNat : Nat) = n % 256
  rw [key, IntKind.wrap_i64]
  omega
theorem i64_and3 (n : Int) : bits .and .i64 n 3 = n % 4 := by
  have h127 : (BitVec.ofInt 64 3).toNat = 2 ^ 2 - 1 := by decide
  have key : (BitVec.ofInt 64 n &&& BitVec.ofInt 64 3).toNat = (n % ((2 ^ 64 : Nat) : Int)).toNat % 2 ^ 2 := by
    rw [BitVec.toNat_and, BitVec.toNat_ofInt, h127, Nat.and_two_pow_sub_one_eq_mod]
  show IntKind.i64.wrap ((BitVec.ofInt 64 n &&& BitVec.ofInt 64 3).toNat : Nat) = n % 4
  rw [key, IntKind.wrap_i64]
  omega
theorem i64_and7 (n : Int) : bits .and .i64 n 7 = n % 8 := by
  have h127 : (BitVec.ofInt 64 7).toNat = 2 ^ 3 - 1 := by decide
  have key : (BitVec.ofInt 64 n &&& BitVec.ofInt 64 7).toNat = (n % ((2 ^ 64 : Nat) : Int)).toNat % 2 ^ 3 := by
    rw [BitVec.toNat_and, BitVec.toNat_ofInt, h127, Nat.and_two_pow_sub_one_eq_mod]
  show IntKind.i64.wrap ((BitVec.ofInt 64 n &&& BitVec.ofInt 64 7).toNat : Nat) = n % 8
  rw [key, IntKind.wrap_i64]
  omega
abbrev CmdE := CmdV × Value
def cmdE (x : CmdE) : List Value := cmdC x.1 x.2
theorem cmdE_len (x : CmdE) : (cmdE x).length = 8 := rfl
abbrev cmdS (v : Value) (xs : List CmdE) : HP := recS 8 cmdE v xs
def CmdE.inR (R : World) (x : CmdE) : Prop := RowIn R opC x.2 x.1.ops
theorem Sep.rowR {α : Type} {R w : World} {l : List HP} {enc : α → List Value} {v : Value} {xs : List α} (h : RowIn R enc v xs) (H : Sep R w l) : RowIn w enc v xs := h.kept H.below
def RetB (e : Ending) (Φ : Bool → Prop) : Prop := ∃ b, e = .returned (.bool b) ∧ Φ b
theorem RetB.mk {e : Ending} {Φ : Bool → Prop} (b : Bool) (h : e = .returned (.bool b)) (hp : Φ b) : RetB e Φ := ⟨b, h, hp⟩
end Go.Orch
end
section
namespace Go.Orch
open Go.RowKit Go.Deep
section
variable {H : Type} {enc : TypeId × Value → H} {P : Program} {w : World} {base : Nat} {spare : Nat → Bool} {held : Bool}
theorem open_rows {α : Type} {ec : α → List Value} {k : Nat} {t e : TypeId} {fuel : Nat} {cs : List Value} {x : DataW H × List MemPlace} (ht : P.underlying t = some (.slice e)) (ck : P.cellsOf e = k) (hk : 0 < k) (hec : ∀ y, (ec y).length = k) (Good : α → Prop)
    (hel : ∀ n cs x, DataW.trod enc P w base spare held n e cs = some x → ∃ y, cs = ec y ∧ Good y) (h : DataW.trod enc P w base spare held fuel t cs = some x) :
    ∃ ys v, cs = [v] ∧ RowIn w ec v ys ∧ ys.length ≤ maxLen ∧ ∀ y ∈ ys, Good y := by
  rcases open_slice ht h with ⟨rfl, _⟩ | ⟨a, len, cap, m, n, D, Pl, rfl, hb, hl, hm, hmm, _, hx⟩
  · exact ⟨[], .slice none 0 0, rfl, ⟨none, 0, rfl, .inl rfl⟩, Nat.zero_le _, by simp⟩
  have hlm : len ≤ m := by rw [hmm]; split <;> omega
  have each : ∀ L, L ≤ len → ∃ ys : List α, ys.length = L ∧ (∀ y ∈ ys, Good y) ∧ ∀ i (hi : i < ys.length), w.cells? base (a.add (i * k)) k = some (ec ys[i]) := by
    intro L
    induction L with
    | zero => exact fun _ => ⟨[], rfl, by simp, fun i hi => absurd hi (Nat.not_lt_zero _)⟩
    | succ L ih =>
      intro hL
      obtain ⟨ys, h1, h2, h3⟩ := ih (by omega)
      obtain ⟨cs', hc, ht'⟩ := hx L (by omega)
      rw [ck] at hc
      obtain ⟨y, rfl, hy⟩ := hel _ _ _ ht'
      refine ⟨ys ++ [y], by simp [h1], fun z hz => ?_, fun i hi => ?_⟩
      · rcases List.mem_append.1 hz with hz | hz
        · exact h2 z hz
        · obtain rfl := List.mem_singleton.1 hz
          exact hy
      · by_cases hi2 : i < ys.length
        · rw [List.getElem_append_left hi2]
          exact h3 i hi2
        · have e : i = ys.length := by simp at hi; omega
          subst e
          have e2 : (ys ++ [y])[ys.length] = y := by simp
          rw [e2]
          rw [← h1] at hc
          exact hc
  obtain ⟨ys, h1, h2, h3⟩ := each len (Nat.le_refl _)
  refine ⟨ys, _, rfl, ⟨some a, cap, by rw [h1], ?_⟩, by omega, h2⟩
  rcases Nat.eq_zero_or_pos len with h0 | h0
  · left
    exact List.eq_nil_of_length_eq_zero (by omega)
  right
  obtain ⟨b, off, spot⟩ := a
  have hfirst := (World.cells?_some (h3 0 (by omega))).2.2 0 hk
  have hne : ∃ u, (ec (ys[0]'(by omega)))[0]? = some u := ⟨_, List.getElem?_eq_getElem (by rw [hec]; exact hk)⟩
  obtain ⟨u0, hu0⟩ := hne
  rw [hu0] at hfirst
  have hspot : spot = none := by simpa [Addr.add] using World.cell?_spot hfirst
  subst hspot
  refine ⟨b, off, rfl, fun j u hj => ?_⟩
  have hjl : j < ys.length * k := by rw [← flatMap_len hec]; exact (List.getElem?_eq_some_iff.1 hj).1
  have hi : j / k < ys.length := (Nat.div_lt_iff_lt_mul hk).2 hjl
  have hr : j % k < k := Nat.mod_lt _ hk
  have hjk : j = j / k * k + j % k := by rw [Nat.mul_comm]; exact (Nat.div_add_mod j k).symm
  have hg := flatMap_get hec ys (j / k) hi (j % k) hr
  rw [← hjk, hj] at hg
  have hcell := (World.cells?_some (h3 (j / k) hi)).2.2 (j % k) hr
  rw [← hg] at hcell
  rw [Addr.add_lit, Addr.add_lit, Nat.add_assoc, ← hjk] at hcell
  exact hcell
end
end Go.Orch
namespace Go.Proofs.YtpeflgfldbjflaaGreatDoor
open Go.RowKit Go.Orch Go.Shelf
section
variable {H : Type} {enc : TypeId × Value → H} {w : World} {base : Nat} {spare : Nat → Bool} {held : Bool}
set_option maxRecDepth 100000 in
theorem open_op {fuel : Nat} {cs : List Value} {x : DataW H × List MemPlace} (h : DataW.trod enc Tryz.prog w base spare held fuel 91 cs = some x) : ∃ o : OpV, cs = opC o ∧ True := by
  obtain ⟨xs, n, _, _, hl, hxl, hf⟩ := DataW.trod_struct Tryz.underlying91 h
  rw [show Tryz.prog.cellsOf 91 = 6 from by kernel_rfl] at hl
  match cs, hl with
  | [c0, c1, c2, c3, c4, c5], _ =>
    have hx : ∀ i, i < 6 → ∃ y, xs[i]? = some y := fun i hi => ⟨xs[i]'(by rw [hxl]; exact hi), List.getElem?_eq_getElem _⟩
    have h0 := hf 0 _ rfl
    obtain ⟨y0, e0⟩ := hx 0 (by decide)
    rw [e0] at h0
    have h0' : DataW.trod enc Tryz.prog w base spare held n 89 [c0] = some y0 := h0
    obtain ⟨v0, q0, _⟩ := DataW.trod_int Tryz.underlying89 h0'
    injection q0 with q0 _
    have h1 := hf 1 _ rfl
    obtain ⟨y1, e1⟩ := hx 1 (by decide)
    rw [e1] at h1
    have h1' : DataW.trod enc Tryz.prog w base spare held n 9 [c1] = some y1 := h1
    obtain ⟨v1, q1, _⟩ := DataW.trod_string Tryz.underlying9 h1'
    injection q1 with q1 _
    have h2 := hf 2 _ rfl
    obtain ⟨y2, e2⟩ := hx 2 (by decide)
    rw [e2] at h2
    have h2' : DataW.trod enc Tryz.prog w base spare held n 9 [c2] = some y2 := h2
    obtain ⟨v2, q2, _⟩ := DataW.trod_string Tryz.underlying9 h2'
    injection q2 with q2 _
    have h3 := hf 3 _ rfl
    obtain ⟨y3, e3⟩ := hx 3 (by decide)
    rw [e3] at h3
    have h3' : DataW.trod enc Tryz.prog w base spare held n 3 [c3] = some y3 := h3
    obtain ⟨v3, q3, _⟩ := DataW.trod_int Tryz.underlying3 h3'
    injection q3 with q3 _
    have h4 := hf 4 _ rfl
    obtain ⟨y4, e4⟩ := hx 4 (by decide)
    rw [e4] at h4
    have h4' : DataW.trod enc Tryz.prog w base spare held n 4 [c4] = some y4 := h4
    obtain ⟨v4, q4, _⟩ := DataW.trod_bool Tryz.underlying4 h4'
    injection q4 with q4 _
    have h5 := hf 5 _ rfl
    obtain ⟨y5, e5⟩ := hx 5 (by decide)
    rw [e5] at h5
    have h5' : DataW.trod enc Tryz.prog w base spare held n 4 [c5] = some y5 := h5
    obtain ⟨v5, q5, _⟩ := DataW.trod_bool Tryz.underlying4 h5'
    injection q5 with q5 _
    exact ⟨⟨v0, v1, v2, v3, v4, v5⟩, by rw [q0, q1, q2, q3, q4, q5]; rfl, trivial⟩
theorem open_ops {fuel : Nat} {cs : List Value} {x : DataW H × List MemPlace} (h : DataW.trod enc Tryz.prog w base spare held fuel 55 cs = some x) : ∃ ops v, cs = [v] ∧ RowIn w opC v ops ∧ ops.length ≤ maxLen := by
  obtain ⟨ys, v, h1, h2, h3, _⟩ := open_rows Tryz.underlying55 (show Tryz.prog.cellsOf 91 = 6 from by kernel_rfl) (by decide) (fun _ => rfl) (fun _ => True) (fun _ _ _ h => open_op h) h
  exact ⟨ys, v, h1, h2, h3⟩
set_option maxRecDepth 100000 in
theorem open_cmd {fuel : Nat} {cs : List Value} {x : DataW H × List MemPlace} (h : DataW.trod enc Tryz.prog w base spare held fuel 57 cs = some x) : ∃ c : CmdE, cs = cmdE c ∧ (c.1.ops.length ≤ maxLen ∧ c.inR w) := by
  obtain ⟨xs, n, _, _, hl, hxl, hf⟩ := DataW.trod_struct Tryz.underlying57 h
  rw [show Tryz.prog.cellsOf 57 = 8 from by kernel_rfl] at hl
  match cs, hl with
  | [c0, c1, c2, c3, c4, c5, c6, c7], _ =>
    have hx : ∀ i, i < 8 → ∃ y, xs[i]? = some y := fun i hi => ⟨xs[i]'(by rw [hxl]; exact hi), List.getElem?_eq_getElem _⟩
    have h0 := hf 0 _ rfl
    obtain ⟨y0, e0⟩ := hx 0 (by decide)
    rw [e0] at h0
    have h0' : DataW.trod enc Tryz.prog w base spare held n 54 [c0] = some y0 := h0
    obtain ⟨v0, q0, _⟩ := DataW.trod_int Tryz.underlying54 h0'
    injection q0 with q0 _
    have h1 := hf 1 _ rfl
    obtain ⟨y1, e1⟩ := hx 1 (by decide)
    rw [e1] at h1
    have h1' : DataW.trod enc Tryz.prog w base spare held n 3 [c1] = some y1 := h1
    obtain ⟨v1, q1, _⟩ := DataW.trod_int Tryz.underlying3 h1'
    injection q1 with q1 _
    have h2 := hf 2 _ rfl
    obtain ⟨y2, e2⟩ := hx 2 (by decide)
    rw [e2] at h2
    have h2' : DataW.trod enc Tryz.prog w base spare held n 3 [c2] = some y2 := h2
    obtain ⟨v2, q2, _⟩ := DataW.trod_int Tryz.underlying3 h2'
    injection q2 with q2 _
    have h3 := hf 3 _ rfl
    obtain ⟨y3, e3⟩ := hx 3 (by decide)
    rw [e3] at h3
    have h3' : DataW.trod enc Tryz.prog w base spare held n 3 [c3] = some y3 := h3
    obtain ⟨v3, q3, _⟩ := DataW.trod_int Tryz.underlying3 h3'
    injection q3 with q3 _
    have h5 := hf 5 _ rfl
    obtain ⟨y5, e5⟩ := hx 5 (by decide)
    rw [e5] at h5
    have h5' : DataW.trod enc Tryz.prog w base spare held n 9 [c5] = some y5 := h5
    obtain ⟨v5, q5, _⟩ := DataW.trod_string Tryz.underlying9 h5'
    injection q5 with q5 _
    have h6 := hf 6 _ rfl
    obtain ⟨y6, e6⟩ := hx 6 (by decide)
    rw [e6] at h6
    have h6' : DataW.trod enc Tryz.prog w base spare held n 4 [c6] = some y6 := h6
    obtain ⟨v6, q6, _⟩ := DataW.trod_bool Tryz.underlying4 h6'
    injection q6 with q6 _
    have h7 := hf 7 _ rfl
    obtain ⟨y7, e7⟩ := hx 7 (by decide)
    rw [e7] at h7
    have h7' : DataW.trod enc Tryz.prog w base spare held n 4 [c7] = some y7 := h7
    obtain ⟨v7, q7, _⟩ := DataW.trod_bool Tryz.underlying4 h7'
    injection q7 with q7 _
    have h4 := hf 4 _ rfl
    obtain ⟨y4, e4⟩ := hx 4 (by decide)
    rw [e4] at h4
    have h4' : DataW.trod enc Tryz.prog w base spare held n 55 [c4] = some y4 := h4
    obtain ⟨ops, v4, q4, hr, hol⟩ := open_ops h4'
    injection q4 with q4 _
    exact ⟨(⟨v0, v1, v2, v3, ops, v5, v6, v7⟩, v4), by rw [q0, q1, q2, q3, q4, q5, q6, q7]; rfl, hol, hr⟩
theorem open_cmds {fuel : Nat} {cs : List Value} {x : DataW H × List MemPlace} (h : DataW.trod enc Tryz.prog w base spare held fuel 22 cs = some x) : ∃ ds v, cs = [v] ∧ RowIn w cmdE v ds ∧ ds.length ≤ maxLen ∧ ∀ y ∈ ds, y.1.ops.length ≤ maxLen ∧ y.inR w :=
  open_rows Tryz.underlying22 (show Tryz.prog.cellsOf 57 = 8 from by kernel_rfl) (by decide) cmdE_len _ (fun _ _ _ h => open_cmd h) h
end
end Go.Proofs.YtpeflgfldbjflaaGreatDoor
end
section
namespace Go.Orch
open Go.RowKit
variable {H : Type} {enc : TypeId × Value → H}
theorem handed_shaped {a : Assume} {C : Checked} {os : Os} {f : FuncId} {fn : Func} {s : ChangeSpec} {conds : List PathCond} {apart fresh handsOn again : Bool} {X : World → Array Value → Prop}
    (hX : ∀ (w w' : World) (args : Array Value), w.heap = w'.heap → X w args → X w' args)
    (own : ownKnob C.prog.godebug = none) (started : os.Started) (noInit : C.prog.inits.idxOf? f = none) (hfn : C.prog.funcs[f]? = some fn)
    (witness : ∃ (w : World) (tape : Tape) (i : Input), w.os = os ∧ (w.forCall tape i).Shaped C.prog ∧ i.vars = [] ∧ Input.okWide C.prog (w.forCall tape i) .any w.heap.size f i ∧
      ((s.pre enc C.prog fn conds apart (w.forCall tape i).memory i.args ∧ X (w.forCall tape i).memory i.args) ∧ sizedMet enc C.prog fn (OpenSpec.ofChange s) apart (w.forCall tape i).memory i.args) ∧ a.holds C.prog (lone (Frame.enter C.prog f i.args .normal) [] (w.forCall tape i)))
    (contract : ∀ (W : World) (base : Nat) (args : Array Value) (ds gs : List (DataW H)) (before : List MemPlace),
      (∀ (j : Nat) t v, fn.params[j]? = some t → args[j]? = some v → Value.okWide C.prog W .any base t v) →
      DataW.Whole enc C.prog fn.params.toList s.vars apart W args.toList ds gs before →
      X W args → W.ShapedOpen C.prog →
      Calls C.prog f args W fun e W' => ∃ v, e = .returned v ∧ s.post enc C.prog fn apart fresh handsOn again W args v W') :
    ReturnsInHanded a C os f .any (fun w args => (s.pre enc C.prog fn conds apart w args ∧ X w args) ∧ sizedMet enc C.prog fn (OpenSpec.ofChange s) apart w args) (s.post enc C.prog fn apart fresh handsOn again) := by
  refine returnsInHanded_of_calls own started noInit witness ?_
  intro w tape i _ hsh _ hok hpre _
  obtain ⟨_, _, _, fn', hfn', _, _, _, _, hval⟩ := hok
  have e : fn' = fn := Option.some.inj (hfn'.symm.trans hfn)
  subst e
  obtain ⟨⟨⟨ds, gs, before, hw, _⟩, hx⟩, _⟩ := hpre
  have hw' := DataW.Whole.of_heap (w' := w.forCall tape i) (by rfl) hw
  refine (contract (w.forCall tape i) w.heap.size i.args ds gs before hval hw' (hX _ _ _ (by rfl) hx) hsh).mono fun e W' ⟨v, he, hp⟩ => ?_
  subst he
  exact ChangeSpec.post_blind hp
end Go.Orch
namespace Go.Proofs.YtpeflgfldbjflaaGreatDoor
open Go.RowKit Go.Orch
theorem own : ownKnob Tryz.prog.godebug = none := by kernel_rfl
theorem laidOut : laidOutB Tryz.prog = true := by kernel_rfl
theorem goodR_of {W : World} (h : laidMetH Tryz.prog Rows.judgeReadsRow.laid W) (hs : W.ShapedOpen Tryz.prog) : GoodR W := by
  have hm : ∃ m, W.cell? ⟨0, 0, none⟩ = some (.int .i64 m) := cell_of_shapedOpen_int hs (by decide +kernel) (t := 3) (zero := #[.int .i64 0]) (by kernel_rfl) rfl (by kernel_rfl) (by kernel_rfl) Tryz.underlying3
  obtain ⟨m, hm⟩ := hm
  refine ⟨⟨m, hm⟩, cell_lt hm, ?_⟩
  rw [MakeChecks.laidMetH_plain _ _ _ (by kernel_rfl)] at h
  obtain ⟨ps, ⟨_, _, _, _, _, _, _, _, _, _, ⟨_, _, _, _, _, _, _, _, _, _, ⟨g, t, cs, fuel, p, q, hg, ht, hv, hd, _, _⟩, _⟩, _⟩, _⟩ := h
  obtain rfl := Option.some.inj ((show Tryz.prog.globalNamed "internal/strconv.uint64pow10" = some 3 by kernel_rfl).symm.trans hg)
  obtain rfl := Option.some.inj ((show (Tryz.prog.globals[3]?).map (·.type) = some 263 by kernel_rfl).symm.trans ht)
  have hd' : DataW.trod (fun _ => ()) Tryz.prog W 0 (fun _ => true) false fuel 263 cs.toList = some (Lib.tabData .u64 Lib.pow10Tab, p) := hd
  have := Lib.cells_of_tab Tryz.underlying263 Tryz.underlying163 (by kernel_rfl) (by kernel_rfl) hd'
  unfold Lib.TabIs
  rw [hv, ← this]
end Go.Proofs.YtpeflgfldbjflaaGreatDoor
namespace Go.Proofs.YtpeflgfldbjflaaGreatDoor
open Go.RowKit Go.Orch Go.ChangeShapes Go.WideShapes Go.ChangeAt
end Go.Proofs.YtpeflgfldbjflaaGreatDoor
end
