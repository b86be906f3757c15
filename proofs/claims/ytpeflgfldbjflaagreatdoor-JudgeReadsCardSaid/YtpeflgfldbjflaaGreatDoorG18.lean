/- WHAT IS PROVED HERE: Package watch: hears, Fire; Package watch: Fire. -/
import Derived.Test.YtpeflgfldbjflaaGreatDoorG17
import Derived.Test.YtpeflgfldbjflaaGreatDoorG06
import Derived.Deep.RegionHeld3
set_option linter.unusedVariables false
set_option linter.unusedSimpArgs false
set_option linter.unusedSectionVars false
set_option linter.unnecessarySimpa false
section
namespace Go.Orch
open Go.RowKit
theorem tl_beq (a b : ByteArray) : (a.toList == b.toList) = decide (a = b) := by
  rw [ByteArray.toList_eq, ByteArray.toList_eq]
  by_cases h : a = b
  · subst h; simp
  · have h2 : ¬ a.data.toList = b.data.toList := fun e => h (ByteArray.ext (Array.toList_inj.1 e))
    rw [beq_eq_false_iff_ne.2 h2, decide_eq_false h]
theorem hears_ifs (a2 s up : ByteArray) (what : Int) (kids f1 f2 f3 f4 : Bool) (e1 : f1 = decide (a2 = s)) (e2 : f2 = decide (a2 = up)) (e3 : f3 = decide (what = 2)) (e4 : f4 = decide (what ≠ 3)) :
    (if a2 = s ∧ (kids = false ∨ what = 2) then (what, true) else if kids = true ∧ a2 = up ∧ what ≠ 3 then ((4 : Int), true) else (0, false)) =
    (if (f1 && (!kids || f3)) = true then (what, true) else if (kids && f2 && f4) = true then (4, true) else (0, false)) := by
  subst e1 e2 e3 e4
  simp [and_assoc]
def hearsV (x : WatchV) (s : ByteArray) (what : Int) : Int × Bool :=
  if x.path = s ∧ (x.kids = false ∨ what = 2) then (what, true)
  else if x.kids = true ∧ x.path = (Go.Proofs.YtpeflgfldbjflaaGreatDoor.pathUp s).1 ∧ what ≠ 3 then (4, true) else (0, false)
def bookP (b : Nat) (wv : Value) (B : BookV) : HP := fun h => ∃ (ev : Value) (mb : Nat) (m : List (Int × Int)), m.Perm B.nos ∧ sepl [cellsAt b #[wv, ev, .map (some mb)], eventS ev B.events, mapAt intK mb (nosM m)] h
theorem Sep.bookP {R w : World} {l : List HP} {b : Nat} {wv : Value} {B : BookV} (H : Sep R w (Orch.bookP b wv B :: l)) : ∃ ev mb m, m.Perm B.nos ∧ Sep R w (cellsAt b #[wv, ev, .map (some mb)] :: eventS ev B.events :: mapAt intK mb (nosM m) :: l) := by
  obtain ⟨ev, H⟩ := H.ex
  obtain ⟨mb, H⟩ := H.ex
  obtain ⟨m, H⟩ := H.ex
  obtain ⟨hm, H⟩ := H.prop
  exact ⟨ev, mb, m, hm, H.apart⟩
theorem Sep.mkbookP {R w : World} {l : List HP} {b mb : Nat} {wv ev : Value} {m : List (Int × Int)} {B : BookV} (hm : m.Perm B.nos) (H : Sep R w (cellsAt b #[wv, ev, .map (some mb)] :: eventS ev B.events :: mapAt intK mb (nosM m) :: l)) : Sep R w (Orch.bookP b wv B :: l) :=
  Sep.mkex ev (Sep.mkex mb (Sep.mkex m (Sep.mkprop hm (Sep.join (l' := [cellsAt b #[wv, ev, .map (some mb)], eventS ev B.events, mapAt intK mb (nosM m)]) H))))
def BookV.no (B : BookV) (id : Int) : Int := (aget B.nos id).getD 0
def fireP (s : ByteArray) (what whn : Int) (x : WatchV) (B : BookV) : Bool × BookV :=
  if (hearsV x s what).2 = false then (false, B)
  else (x.once, { B with events := B.events ++ [⟨x.session, B.no x.session + 1, x.path, (hearsV x s what).1, whn⟩], nos := aput B.nos x.session (B.no x.session + 1) })
end Go.Orch
namespace Go.Proofs.YtpeflgfldbjflaaGreatDoor
open Go.RowKit Go.Orch Go.Shelf
abbrev ldEv : Op := Op.load 48 (Operand.tmp 29)
set_option maxHeartbeats 1000000000 in
theorem hears_any (R w : World) (l : List HP) (x : WatchV) (s : ByteArray) (what : Int) (hs : s.size ≤ 1000000000) (H : Sep R w l) :
    Calls Tryz.prog 126 #[.agg (watchC x).toArray, .string s, .int .i64 what] w fun e w' => e = .returned (.tuple #[.int .i64 (hearsV x s what).1, .bool (hearsV x s what).2]) ∧ Sep R w' l := by
  obtain ⟨a1, a2, kids, a4⟩ := x
  show Calls Tryz.prog 126 #[.agg #[.int .i64 a1, .string a2, .bool kids, .bool a4], .string s, .int .i64 what] w _
  have HU := Lib.hid (fun w l H => up_any R w l s hs H)
  have HW := Lib.hid H
  unfold hearsV
  generalize pathUp s = pu at *
  obtain ⟨up, last⟩ := pu
  simp only at HU ⊢
  clear H
  obtain ⟨r, hr⟩ : ∃ r : Int × Bool, r = (if a2 = s ∧ (kids = false ∨ what = 2) then (what, true) else if kids = true ∧ a2 = up ∧ what ≠ 3 then (4, true) else (0, false)) := ⟨_, rfl⟩
  rw [← hr]
  have HR := Lib.hid hr
  clear hr
  obtain ⟨f1, hf1⟩ : ∃ f1 : Bool, (a2.toList == s.toList) = f1 ∧ f1 = decide (a2 = s) := ⟨_, rfl, tl_beq _ _⟩
  obtain ⟨f2, hf2⟩ : ∃ f2 : Bool, (a2.toList == up.toList) = f2 ∧ f2 = decide (a2 = up) := ⟨_, rfl, tl_beq _ _⟩
  obtain ⟨f3, hf3⟩ : ∃ f3 : Bool, (what == 2) = f3 ∧ f3 = decide (what = 2) := ⟨_, rfl, by by_cases h : what = 2 <;> simp [h]⟩
  obtain ⟨f4, hf4⟩ : ∃ f4 : Bool, (what != 3) = f4 ∧ f4 = decide (what ≠ 3) := ⟨_, rfl, by by_cases h : what = 3 <;> simp [h]⟩
  obtain ⟨q1, e1⟩ := hf1
  obtain ⟨q2, e2⟩ := hf2
  obtain ⟨q3, e3⟩ := hf3
  obtain ⟨q4, e4⟩ := hf4
  have HR2 := Lib.hid (HR.out.trans (hears_ifs a2 s up what kids f1 f2 f3 f4 e1 e2 e3 e4))
  clear e1 e2 e3 e4 HR
  cases f1 <;> cases f2 <;> cases f3 <;> cases f4 <;> cases kids <;>
  (go_enter Tryz.func126, Tryz.ntmps126
   go_wp2_with fail
   refine Calls.mono (HU.out _ _ (HW.out.mkc _ _)) ?_
   rintro e w1 ⟨rfl, H2⟩
   generalize w.heap.size = nb at *
   obtain ⟨c0, c1, c2, c3, fz, lt⟩ := H2.c4
   have H3 := Lib.hid H2
   clear H2
   go_wp2
   go_ret2
   rw [HR2.out]
   exact ⟨rfl, H3.out.drop⟩)
theorem event_info : (Tryz.prog.info? 110).map (fun i => (i.zero, i.size, i.bytes)) = some (some (.agg #[.int .i64 0, .int .i64 0, .string ⟨#[]⟩, .int .i64 0, .int .i64 0]), 5, 48) := by kernel_rfl
set_option maxRecDepth 100000 in
set_option maxHeartbeats 2000000 in
theorem fire1_any (R w : World) (l : List HP) (x : WatchV) (bs bw bb bn b : Nat) (pw : Option Addr) (nw cw : Nat) (s : ByteArray) (what whn : Int) (B : BookV) (hs : s.size ≤ 1000000000) (hnd : (akeys B.nos).Nodup) (hE : B.events.length ≤ 1000000000) (hno : -1000000000 ≤ B.no x.session ∧ B.no x.session ≤ 1000000000) 
    (H : Sep R w (cellsAt bs #[.string s] :: cellsAt bw #[.int .i64 what] :: cellsAt bb #[.pointer (some ⟨b, 0, none⟩)] :: cellsAt bn #[.int .i64 whn] :: bookP b (.slice pw nw cw) B :: l)) :
    Calls Tryz.prog 125 (#[.agg (watchC x).toArray] ++ #[.pointer (some ⟨bs, 0, none⟩), .pointer (some ⟨bw, 0, none⟩), .pointer (some ⟨bb, 0, none⟩), .pointer (some ⟨bn, 0, none⟩)]) w fun e w' =>
      e = .returned (.bool (fireP s what whn x B).1) ∧ Sep R w' (cellsAt bs #[.string s] :: cellsAt bw #[.int .i64 what] :: cellsAt bb #[.pointer (some ⟨b, 0, none⟩)] :: cellsAt bn #[.int .i64 whn] :: bookP b (.slice pw nw cw) (fireP s what whn x B).2 :: l) := by
  have HH := Lib.hid (fun w l H => hears_any R w l x s what hs H)
  unfold fireP
  generalize hearsV x s what = hv at *
  obtain ⟨hw, hb⟩ := hv
  simp only at HH ⊢
  obtain ⟨s0, sfz, slt⟩ := H.c1
  obtain ⟨w0, wfz, wlt⟩ := ((Sep.f1 (H))).c1
  obtain ⟨a1, a2, kids, once⟩ := x
  simp only [watchC, List.append_toArray] at *
  have H0 := Lib.hid H
  clear H
  cases hb with
  | false =>
    rw [if_pos rfl]
    go_enter Tryz.func125, Tryz.ntmps125
    go_wp2_with fail
    refine Calls.mono (HH.out _ _ (H0.out.mkc _ _)) ?_
    rintro e w1 ⟨rfl, H1⟩
    have H2 := Lib.hid H1.drop
    clear H1
    go_wp2
    go_ret
    exact ⟨rfl, H2.out⟩
  | true =>
    rw [if_neg (by simp)]
    go_enter Tryz.func125, Tryz.ntmps125
    go_wp2_with fail
    refine Calls.mono (HH.out _ _ (H0.out.mkc _ _)) ?_
    rintro e w1 ⟨rfl, H1⟩
    generalize w.heap.size = nb at *
    clear s0 sfz slt w0 wfz wlt
    obtain ⟨ev, mb, m, hm, H2⟩ := ((Sep.f5 (H1))).bookP
    have HM := Lib.hid hm
    obtain ⟨c0, c1, c2, fz, lt⟩ := H2.c3
    obtain ⟨d0, d1, d2, d3, fz1, lt1⟩ := ((Sep.f3 (H2))).c4
    obtain ⟨g0, gfz, glt⟩ := ((Sep.f6 (H2))).c1
    obtain ⟨n0, nfz, nlt⟩ := ((Sep.f7 (H2))).c1
    have hlk := fun (w : World) l (H : Sep R w (mapAt intK mb (nosM m) :: l)) => run_lookup (P := Tryz.prog) (t := 133) (kt := 3) (e := 3) intK_same Tryz.underlying133 Tryz.underlying3 H a1 (bookZero w) false
    have hgn : (aget (nosM m) a1).getD (.int .i64 0) = .int .i64 (B.no a1) := by
      unfold nosM BookV.no
      rw [aget_map intV a1 m, aget_perm hm hnd]
      cases aget B.nos a1 <;> rfl
    simp only [hgn, show ∀ n : Int, intK.emb n = .int .i64 n from fun _ => rfl, if_neg, Bool.false_eq_true, if_false] at hlk
    have HL := Lib.hid hlk
    have hl1 := hlk w1.drew _ ((Sep.f2 (H2))).drew
    generalize hn1 : B.no a1 = n1 at *
    have HN := Lib.hid hn1
    clear hn1
    have hwr : wrap64 (n1 + 1) = n1 + 1 := by unfold wrap64; omega
    have H3 := Lib.hid H2
    clear H1 H2 hm hgn hlk
    go_wp2_with fail
    refine wp_still_tail 8 (by kernel_rfl) (by kernel_rfl) ?_
    simp only [List.take_succ_cons, List.take_zero, List.drop_succ_cons, List.drop_zero]
    repeat still_step
    refine wpStill_nil ?_
    refine wpList_mapUpdate (v := .int .i64 (n1 + 1)) intK_same rfl _ _ _ 133 3 3 rfl Tryz.underlying133 Tryz.underlying3 ((Sep.f2 (H3.out.drew))) rfl rfl ?hv ?_
    case hv => first | exact congrArg (Value.int .i64) hwr | exact congrArg (Value.int .i64) (show IntKind.i64.wrap (n1 + 1) = n1 + 1 by rw [IntWalk.i64_in] <;> omega)
    intro w2 H4
    obtain ⟨pe, ce, rfl⟩ := ((Sep.f2 (H4))).recSlice
    clear c0 c1 c2 fz lt d0 d1 d2 d3 fz1 lt1 g0 gfz glt n0 nfz nlt hl1
    obtain ⟨c0, c1, c2, fz, lt⟩ := ((Sep.f1 (H4))).drew.c3
    obtain ⟨d0, d1, d2, d3, fz1, lt1⟩ := ((Sep.f3 (H4))).drew.c4
    obtain ⟨g0, gfz, glt⟩ := ((Sep.f6 (H4))).drew.c1
    obtain ⟨n0, nfz, nlt⟩ := ((Sep.f7 (H4))).drew.c1
    have hne : bb ≠ b := by
      rintro rfl
      rw [c0] at g0
      cases g0
    have hl2 := run_lookup (P := Tryz.prog) (t := 133) (kt := 3) (e := 3) intK_same Tryz.underlying133 Tryz.underlying3 H4.drew a1 (bookZero w2.drew) false
    have hgn : (aget (aput (nosM m) a1 (.int .i64 (n1 + 1))) a1).getD (.int .i64 0) = .int .i64 (n1 + 1) := by rw [aget_aput]; rfl
    simp only [hgn, show ∀ n : Int, intK.emb n = .int .i64 n from fun _ => rfl, Bool.false_eq_true, if_false] at hl2
    have H5 := Lib.hid H4.drew
    clear H4 H3 hgn
    go_wp2_with fail
    have hsep : ∀ tid, Sep R (w2.drew.alloc (.cells #[.int .i64 a1, .int .i64 (n1 + 1), .string a2, .int .i64 hw, .int .i64 whn] tid)) (eventS (.slice pe B.events.length ce) B.events :: cellsAt w2.heap.size #[.int .i64 a1, .int .i64 (n1 + 1), .string a2, .int .i64 hw, .int .i64 whn] :: mapAt intK mb (aput (nosM m) a1 (.int .i64 (n1 + 1))) :: cellsAt b #[.slice pw nw cw, .slice pe B.events.length ce, .map (some mb)] :: cellsAt nb #[.int .i64 a1, .string a2, .bool kids, .bool once] :: cellsAt bs #[.string s] :: cellsAt bw #[.int .i64 what] :: cellsAt bb #[.pointer (some ⟨b, 0, none⟩)] :: cellsAt bn #[.int .i64 whn] :: l) := fun tid => (Sep.f3 (H5.out.mkc #[.int .i64 a1, .int .i64 (n1 + 1), .string a2, .int .i64 hw, .int .i64 whn] tid))
    have hsrc : ∀ tid c, Src Tryz.prog (w2.drew.alloc (.cells #[.int .i64 a1, .int .i64 (n1 + 1), .string a2, .int .i64 hw, .int .i64 whn] tid)) (.slice (some ⟨w2.heap.size, 0, none⟩) 1 c) 5 1 ([(⟨a1, n1 + 1, a2, hw, whn⟩ : EventV)].flatMap eventC) := fun tid c => Src.cells _ 0 c _ rfl (fun j v hj => ((Sep.f1 (hsep tid))).c (0 + j) (by simpa [eventC] using hj)) (by simp [eventC, Value.oneCell'])
    have c1a : ∀ o, (w2.drew.alloc o).cell? ⟨b, 1, none⟩ = some (.slice pe B.events.length ce) := fun o => Lib.cell?_alloc_some o c1
    have c1b : ∀ o, (w2.alloc o).cell? ⟨b, 1, none⟩ = some (.slice pe B.events.length ce) := fun o => Lib.cell?_alloc_some (W := w2) o c1
    have hb1 : B.events.length + [(⟨a1, n1 + 1, a2, hw, whn⟩ : EventV)].length ≤ maxLen := by simp [maxLen]; omega
    have hb2 : (B.events.length + [(⟨a1, n1 + 1, a2, hw, whn⟩ : EventV)].length) * 48 ≤ 140737488355328 := by simp; omega
    rw [show Op.load 48 (Operand.tmp 29) = ldEv from rfl]
    go_region_held3 (fun w' => w'.cell? ⟨bb, 0, none⟩ = some (.pointer (some ⟨b, 0, none⟩)) ∧ w'.cell? ⟨b, 2, none⟩ = some (.map (some mb)) ∧ w'.cell? ⟨nb, 0, none⟩ = some (.int .i64 a1) ∧ w'.cell? ⟨nb, 1, none⟩ = some (.string a2) ∧ w'.cell? ⟨bn, 0, none⟩ = some (.int .i64 whn))
      (first
        | exact ⟨g0, c2, d0, d1, n0⟩
        | exact ⟨Lib.cell?_alloc_some _ g0, Lib.cell?_alloc_some _ c2, Lib.cell?_alloc_some _ d0, Lib.cell?_alloc_some _ d1, Lib.cell?_alloc_some _ n0⟩
        | exact ⟨((Sep.f7 (H9))).c1.1, ((Sep.f3 (H9))).c3.2.2.1, ((Sep.f4 (H9))).c4.1, ((Sep.f4 (H9))).c4.2.1, ((Sep.f8 (H9))).c1.1⟩
        | exact (let X := ((Sep.f3 (H9))).st 1 _; ⟨((Sep.f7 (X))).c1.1, X.c 2 rfl, ((Sep.f4 (X))).c4.1, ((Sep.f4 (X))).c4.2.1, ((Sep.f8 (X))).c1.1⟩))
      (first
        | (refine step_append_rec (sz := 5) (enc := eventC) (by decide) (fun _ => rfl) rfl _ _ 48 48 110 rfl Tryz.underlying48 Tryz.underlying48 (.inr ⟨_, rfl⟩) event_info rfl (xs := B.events) (news := [⟨a1, n1 + 1, a2, hw, whn⟩]) rfl rfl (hsrc _ _) (hsep _) hb1 hb2 ?_; intro p9 c9 w9 H9; obtain ⟨e0, e1, e2, fz9, lt9⟩ := ((Sep.f3 (H9))).c3))
    all_goals
      have X9 := H9
      simp only [List.length_append, List.length_cons, List.length_nil, Nat.zero_add] at X9
      have X := Lib.hid (((Sep.f3 (X9))).st 1 (.slice p9 (B.events.length + 1) c9))
      obtain ⟨x0, x1, x2, x3, xf, xl⟩ := ((Sep.f4 (X9))).c4
      clear c0 c1 c2 fz lt d0 d1 d2 d3 fz1 lt1 g0 gfz glt n0 nfz nlt hl2 hsep hsrc c1a c1b e0 e1 e2 fz9 lt9 H9 X9
      go_wp2
      go_ret
      refine ⟨rfl, ?_⟩
      have X1 := (Sep.f2 (Sep.f2 (Sep.f2 (((Sep.f3 (Sep.f4 (X.out)))).drop.drop))))
      rw [show aput (nosM m) a1 (.int .i64 (n1 + 1)) = nosM (aput m a1 (n1 + 1)) from aput_map intV a1 (n1 + 1) m] at X1
      have hq := HN.out
      subst hq
      have X2 := X1.mkbookP (B := { B with events := B.events ++ [⟨a1, B.no a1 + 1, a2, hw, whn⟩], nos := aput B.nos a1 (B.no a1 + 1) }) (aput_perm HM.out hnd a1 _)
      exact (Sep.f4 (Sep.f4 (Sep.f4 (Sep.f4 (X2)))))
end Go.Proofs.YtpeflgfldbjflaaGreatDoor
end
section
namespace Go.Orch
open Go.RowKit
def fireK (B : BookV) (n : Nat) : Prop := (akeys B.nos).Nodup ∧ B.events.length + n ≤ 1000000000 ∧ ∀ id, -1000000000 ≤ B.no id - n ∧ B.no id + n ≤ 1000000000
theorem fireP_keeps {s : ByteArray} {what whn : Int} {x : WatchV} {B : BookV} {n : Nat} (h : fireK B (n + 1)) : fireK (fireP s what whn x B).2 n := by
  obtain ⟨h1, h2, h3⟩ := h
  unfold fireP
  split
  · exact ⟨h1, by simp only; omega, fun id => by have := h3 id; simp only; omega⟩
  · refine ⟨aput_nodup h1 _ _, by simp; omega, fun id => ?_⟩
    have := h3 id
    have := h3 x.session
    simp only [BookV.no] at *
    by_cases e : x.session = id
    · subst e
      rw [aget_aput]
      simp only [Option.getD_some]
      omega
    · rw [aget_aput_ne e]
      omega
def BookV.fire (B : BookV) (s : ByteArray) (what whn : Int) : BookV :=
  { (delF (fireP s what whn) B.watches B).2 with watches := (delF (fireP s what whn) B.watches B).1 }
end Go.Orch
namespace Go.Proofs.YtpeflgfldbjflaaGreatDoor
open Go.RowKit Go.Orch Go.Shelf
abbrev ldWs : Op := Op.load 134 (Operand.tmp 13)
theorem delFire_any (R : World) (l : List HP) (bs bw bb bn b : Nat) (pw : Option Addr) (nw cw : Nat) (s : ByteArray) (what whn : Int) (hs : s.size ≤ 1000000000) (ys : List WatchV) (B : BookV) (hn : ys.length ≤ 1000000000) (hK : fireK B ys.length) (w : World) (v : Value)
    (H : Sep R w (watchS v ys :: cellsAt bs #[.string s] :: cellsAt bw #[.int .i64 what] :: cellsAt bb #[.pointer (some ⟨b, 0, none⟩)] :: cellsAt bn #[.int .i64 whn] :: bookP b (.slice pw nw cw) B :: l)) :
    Calls Tryz.prog 124 #[v, .func (.func 125) #[] #[.pointer (some ⟨bs, 0, none⟩), .pointer (some ⟨bw, 0, none⟩), .pointer (some ⟨bb, 0, none⟩), .pointer (some ⟨bn, 0, none⟩)]] w fun e w' => ∃ p n c, e = .returned (.slice p n c) ∧
      Sep R w' (watchS (.slice p n c) (delF (fireP s what whn) ys B).1 :: cellsAt bs #[.string s] :: cellsAt bw #[.int .i64 what] :: cellsAt bb #[.pointer (some ⟨b, 0, none⟩)] :: cellsAt bn #[.int .i64 whn] :: bookP b (.slice pw nw cw) (delF (fireP s what whn) ys B).2 :: l) := by
  have hp : ∀ x ∈ ys, ∀ (B : BookV) (n : Nat) (w : World) (l' : List HP), fireK B (n + 1) → Sep R w ((fun h => sepl [cellsAt bs #[.string s], cellsAt bw #[.int .i64 what], cellsAt bb #[.pointer (some ⟨b, 0, none⟩)], cellsAt bn #[.int .i64 whn], bookP b (.slice pw nw cw) B] h) :: l') →
      Calls Tryz.prog 125 (#[.agg (watchC x).toArray] ++ #[.pointer (some ⟨bs, 0, none⟩), .pointer (some ⟨bw, 0, none⟩), .pointer (some ⟨bb, 0, none⟩), .pointer (some ⟨bn, 0, none⟩)]) w fun e w' => e = .returned (.bool (fireP s what whn x B).1) ∧
        Sep R w' ((fun h => sepl [cellsAt bs #[.string s], cellsAt bw #[.int .i64 what], cellsAt bb #[.pointer (some ⟨b, 0, none⟩)], cellsAt bn #[.int .i64 whn], bookP b (.slice pw nw cw) (fireP s what whn x B).2] h) :: l') ∧ fireK (fireP s what whn x B).2 n := by
    intro x _ B n w l' hk H
    have h3 := hk.2.2 x.session
    refine Calls.mono (fire1_any R w l' x bs bw bb bn b pw nw cw s what whn B hs hk.1 (by have := hk.2.1; omega) (by omega) H.apart) ?_
    rintro e w'' ⟨rfl, H2⟩
    exact ⟨rfl, Sep.join (l' := [_, _, _, _, _]) H2, fireP_keeps hk⟩
  have H1 : Sep R w (watchS v ys :: (fun h => sepl [cellsAt bs #[.string s], cellsAt bw #[.int .i64 what], cellsAt bb #[.pointer (some ⟨b, 0, none⟩)], cellsAt bn #[.int .i64 whn], bookP b (.slice pw nw cw) B] h) :: l) := (Sep.join (l' := [_, _, _, _, _]) ((Sep.f5 (Sep.f5 (Sep.f5 (Sep.f5 (Sep.f5 (H)))))))).swap
  have h := delW_any R l (fun (B : BookV) => fun h => sepl [cellsAt bs #[.string s], cellsAt bw #[.int .i64 what], cellsAt bb #[.pointer (some ⟨b, 0, none⟩)], cellsAt bn #[.int .i64 whn], bookP b (.slice pw nw cw) B] h) fireK 125 #[.pointer (some ⟨bs, 0, none⟩), .pointer (some ⟨bw, 0, none⟩), .pointer (some ⟨bb, 0, none⟩), .pointer (some ⟨bn, 0, none⟩)]
    (fireP s what whn) (enters_of Tryz.func125 (by kernel_rfl) rfl) ys hp w v B hn hK H1
  refine Calls.mono h ?_
  rintro e w' ⟨v', rfl, H2⟩
  obtain ⟨p, c, rfl⟩ := H2.recSlice
  refine ⟨_, _, _, rfl, ?_⟩
  have H3 := H2.swap.apart
  exact (Sep.f5 (H3))
set_option maxRecDepth 100000 in
set_option maxHeartbeats 2000000 in
theorem bookFire_any (R w : World) (l : List HP) (b : Nat) (B : BookV) (s : ByteArray) (what whn : Int) (hs : s.size ≤ 1000000000) (hn : B.watches.length ≤ 1000000000) (hK : fireK B B.watches.length) (H : Sep R w (bookAt b B :: l)) :
    Calls Tryz.prog 105 #[.pointer (some ⟨b, 0, none⟩), .string s, .int .i64 what, .int .i64 whn] w fun e w' => e = .returned (.tuple #[]) ∧ Sep R w' (bookAt b (B.fire s what whn) :: l) := by
  obtain ⟨wv, ev, mb, m, hm, H1⟩ := H.book
  obtain ⟨pw, cw, rfl⟩ := ((Sep.f1 (H1))).recSlice
  obtain ⟨c0, c1, c2, fz, lt⟩ := H1.c3
  have H2 := ((Sep.f2 (Sep.f3 (Sep.f3 (H1))))).mkbookP hm
  have H3 := (((H2.mkc #[.pointer (some ⟨b, 0, none⟩)] 40).mkc #[.string s] 9).mkc #[.int .i64 what] 108).mkc #[.int .i64 whn] 3
  simp only [World.size_alloc] at H3
  have H4 := Lib.hid H3
  clear H H1 H2 H3 hm
  go_enter Tryz.func105, Tryz.ntmps105
  go_wp2_with fail
  generalize ((((w.alloc (Obj.cells #[Value.pointer (some ⟨b, 0, none⟩)] 40)).alloc (Obj.cells #[Value.string s] 9)).alloc (Obj.cells #[Value.int IntKind.i64 what] 108)).alloc (Obj.cells #[Value.int IntKind.i64 whn] 3)) = W4 at H4 ⊢
  generalize w.heap.size + 1 + 1 + 1 = bn at H4 ⊢
  generalize w.heap.size + 1 + 1 = bw at H4 ⊢
  generalize w.heap.size + 1 = bs at H4 ⊢
  generalize w.heap.size = bb at H4 ⊢
  clear c0 c1 c2 fz lt
  have hdel := Lib.hid (delFire_any R l bs bw bb bn b pw B.watches.length cw s what whn hs B.watches B hn hK W4.drew _ ((Sep.f5 (Sep.f4 (Sep.f3 (Sep.f4 (Sep.f1 (Sep.f4 (H4.out.drew)))))))))
  obtain ⟨ev4, mb4, m4, hm4, H5⟩ := ((Sep.f4 (H4.out.drew))).bookP
  obtain ⟨c0, c1, c2, fz, lt⟩ := H5.c3
  obtain ⟨g0, gfz, glt⟩ := ((Sep.f3 (H4.out.drew))).c1
  have H6 := Lib.hid H5
  clear H5 hm4
  rw [show Op.load 134 (Operand.tmp 13) = ldWs from rfl]
  go_region_held3 (fun w' => w'.cell? ⟨bb, 0, none⟩ = some (.pointer (some ⟨b, 0, none⟩)))
    (first
      | exact g0
      | exact ((Sep.f3 (H9))).c1.1
      | exact (let X := H10.st 0 _; ((Sep.f6 (X))).c1.1))
    (first
      | (go_at_call 124; refine Calls.mono hdel.out ?_; rintro e w9 ⟨p9, n9, k9, rfl, H9⟩; obtain ⟨ev9, mb9, m9, hm9, H10⟩ := ((Sep.f5 (H9))).bookP; obtain ⟨e0, e1, e2, fz9, lt9⟩ := H10.c3))
  all_goals
    have X := Lib.hid (H10.st 0 (.slice p9 n9 k9))
    have HM := Lib.hid hm9
    clear H9 H10 hm9
    go_wp2
    go_end0
    refine ⟨rfl, ?_⟩
    have X1 := ((Sep.f7 (Sep.f7 (Sep.f7 (Sep.f7 (X.out)))))).drop.drop.drop.drop
    exact ((Sep.f3 (Sep.f3 (Sep.f2 (Sep.f2 (X1)))))).mkbook (B := B.fire s what whn) HM.out
end Go.Proofs.YtpeflgfldbjflaaGreatDoor
end
