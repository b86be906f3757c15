/- WHAT IS PROVED HERE: The laws' own functions: Cmds. -/
import Derived.Test.YtpeflgfldbjflaaGreatDoorG10
set_option linter.unusedVariables false
set_option linter.unusedSimpArgs false
set_option linter.unusedSectionVars false
set_option linter.unnecessarySimpa false
section
namespace Go.Proofs.YtpeflgfldbjflaaGreatDoor
open Go.RowKit Go.Orch Go.Shelf
theorem cmd_info : (Tryz.prog.info? 57).map (fun i => (i.zero, i.size, i.bytes)) = some (some (.agg #[.int .i64 0, .int .i64 0, .int .i64 0, .int .i64 0, .slice none 0 0, .string ⟨#[]⟩, .bool false, .bool false]), 8, 80) := by kernel_rfl
def CmdsOK (R : World) (n : Nat) (ds : List CmdE) : Prop := ds.length = n + 3 ∧ ∀ x ∈ ds, x.1.ops.length ≤ 10 ∧ x.inR R
theorem CmdsOK.more {R : World} {n : Nat} {ds : List CmdE} (h : CmdsOK R n ds) (x : CmdE) (h1 : x.1.ops.length ≤ 10) (h2 : x.inR R) : CmdsOK R (n + 1) (ds ++ [x]) := by
  refine ⟨by rw [List.length_append, h.1]; rfl, fun y hy => ?_⟩
  rcases List.mem_append.1 hy with hy | hy
  · exact h.2 y hy
  · obtain rfl := List.mem_singleton.1 hy
    exact ⟨h1, h2⟩
theorem cmd_src {P : Program} {R w : World} {l : List HP} {nb c : Nat} {x : CmdE} (hv : x.2.oneCell' = true) (H : Orch.Sep R w (cellsAt nb (cmdE x).toArray :: l)) : Orch.Src P w (.slice (some ⟨nb, 0, none⟩) 1 c) 8 1 ([x].flatMap cmdE) :=
  Orch.Src.cells _ 0 c _ rfl (fun j u hj => H.c (0 + j) (by simpa using hj)) (by
    intro u hu
    simp only [List.flatMap_cons, List.flatMap_nil, List.append_nil, cmdE, cmdC, List.mem_cons, List.not_mem_nil, or_false] at hu
    rcases hu with rfl | rfl | rfl | rfl | rfl | rfl | rfl | rfl <;> first | rfl | exact hv)
def cmd0 (s : Int) : CmdE := (⟨1, s, 0, 0, [], ⟨#[]⟩, false, false⟩, .slice none 0 0)
theorem size_setCell' (w : World) (a : Addr) (v : Value) : (w.setCell a v).heap.size = w.heap.size := by simp [World.setCell]
set_option maxRecDepth 100000 in
set_option maxHeartbeats 4000000 in
theorem cmds_any (R w : World) (l : List HP) (cs : List CmdE) (v : Value) (hv : RowIn R cmdE v cs) (hl : cs.length ≤ 40) (hops : ∀ x ∈ cs, x.1.ops.length ≤ 10 ∧ x.inR R) (H : Orch.Sep R w l) :
    Calls Tryz.prog 21 #[v] w fun e w' => ∃ v', e = .returned v' ∧ ∃ ds, CmdsOK R cs.length ds ∧ Orch.Sep R w' (cmdS v' ds :: l) := by
  obtain ⟨p, k, rfl, hrow⟩ := hv
  have HR := Lib.hid hrow
  have HO := Lib.hid hops
  have H0 : Orch.Sep R _ (cmdS (.slice (some ⟨w.heap.size, 0, none⟩) 3 3) [cmd0 1, cmd0 2, cmd0 3] :: l) := Sep.recClose (enc := cmdE) (sz := 8) (pre := []) (post := []) (xs := [cmd0 1, cmd0 2, cmd0 3]) rfl (Nat.le_refl _) (by unfold maxLen; decide) (by decide) rfl (H.mkc ([cmd0 1, cmd0 2, cmd0 3].flatMap cmdE).toArray 57)
  have H1 := H0.mkc #[.int .i64 0, .int .i64 0, .int .i64 0] 3
  have hok0 : CmdsOK R 0 [cmd0 1, cmd0 2, cmd0 3] := ⟨rfl, fun x hx => by
    have : x = cmd0 1 ∨ x = cmd0 2 ∨ x = cmd0 3 := by simpa using hx
    rcases this with rfl | rfl | rfl <;> exact ⟨Nat.zero_le _, ⟨none, 0, rfl, .inl rfl⟩⟩⟩
  have HOk0 := Lib.hid hok0
  have H2 := Lib.hid ((Sep.f1 (H1)))
  clear H H0 H1 hrow hops hok0
  go_enter Tryz.func21, Tryz.ntmps21
  go_wp2_with fail
  generalize hrb : w.heap.size + 1 = rb at *
  go_loopw [3, 15] (fun dv i wr => ∃ (j : Nat) (ds : List CmdE) (q0 q1 q2 : Int), j ≤ cs.length ∧ i = .int .i64 j ∧ CmdsOK R j ds ∧ (0 ≤ q0 ∧ q0 ≤ j ∧ 0 ≤ q1 ∧ q1 ≤ j ∧ 0 ≤ q2 ∧ q2 ≤ j) ∧ Orch.Sep R wr (cmdS dv ds :: cellsAt rb #[.int .i64 q0, .int .i64 q1, .int .i64 q2] :: l)) (fun _ i _ => cs.length - (intOf i).toNat)
  case atStart => exact ⟨0, _, 0, 0, 0, Nat.zero_le _, rfl, HOk0.out, ⟨by decide, by decide, by decide, by decide, by decide, by decide⟩, by have := H2.out; simp only [World.size_alloc] at this; rw [← hrb]; exact this⟩
  case round =>
    obtain ⟨j, ds, q0, q1, q2, hj, rfl, hok, ⟨b1, b2, b3, b4, b5, b6⟩, H3⟩ := hrel
    have HOk := Lib.hid hok
    clear hok HOk0
    by_cases hlt : j < cs.length
    · have hlti : (j : Int) < (cs.length : Int) := by omega
      have hr := HR.out
      rcases hr with hr | ⟨ob, off, rfl, hr⟩
      · rw [hr] at hlt; exact absurd hlt (Nat.not_lt_zero _)
      have hcell : ∀ i u, (cs.flatMap cmdE)[i]? = some u → wr.cell? ⟨ob, off + i, none⟩ = some u := fun i u hi => by
        rw [H3.below.cell (p := ⟨ob, off + i, none⟩) (cell_lt (hr i u hi))]
        exact hr i u hi
      have he := fun i u hu => row_elem (k := 8) cmdE_len hcell j hlt i u hu
      have d0 : wr.cell? ⟨ob, off + j * 8, none⟩ = some (.int .i64 cs[j].1.kind) := he 0 _ rfl
      have d1 : wr.cell? ⟨ob, off + j * 8 + 1, none⟩ = some (.int .i64 cs[j].1.session) := he 1 _ rfl
      have d2 : wr.cell? ⟨ob, off + j * 8 + 2, none⟩ = some (.int .i64 cs[j].1.req) := he 2 _ rfl
      have d3 : wr.cell? ⟨ob, off + j * 8 + 3, none⟩ = some (.int .i64 cs[j].1.noted) := he 3 _ rfl
      have d4 : wr.cell? ⟨ob, off + j * 8 + 4, none⟩ = some cs[j].2 := he 4 _ rfl
      have d5 : wr.cell? ⟨ob, off + j * 8 + 5, none⟩ = some (.string cs[j].1.path) := he 5 _ rfl
      have d6 : wr.cell? ⟨ob, off + j * 8 + 6, none⟩ = some (.bool cs[j].1.kids) := he 6 _ rfl
      have d7 : wr.cell? ⟨ob, off + j * 8 + 7, none⟩ = some (.bool cs[j].1.once) := he 7 _ rfl
      have hx := HO.out cs[j] (List.getElem_mem hlt)
      have hB1 : ds.length + [cmd0 1].length ≤ maxLen := by have := HOk.out.1; unfold maxLen; simp only [List.length_cons, List.length_nil]; omega
      have hB2 : (ds.length + [cmd0 1].length) * 80 ≤ 140737488355328 := by have := HOk.out.1; simp only [List.length_cons, List.length_nil]; omega
      have HB1 := Lib.hid hB1
      have HB2 := Lib.hid hB2
      obtain ⟨dp, dc, rfl⟩ := H3.recSlice
      have H4 := Lib.hid H3
      clear hr hcell he H3 hB1 hB2
      generalize cs[j] = x at *
      obtain ⟨⟨a1, a2, a3, a4, ops, a6, a7, a8⟩, xv⟩ := x
      obtain ⟨hx1, xp, xk, hxv, hx2⟩ := hx
      have HX2 := Lib.hid hx2
      simp only at d0 d1 d2 d3 d4 d5 d6 d7 hxv hx1
      subst hxv
      have HX1 := Lib.hid hx1
      clear hx2 hx1
      obtain ⟨q, hq, hq0, hq4⟩ : ∃ q, bits .and .i64 a2 3 = q ∧ 0 ≤ q ∧ q < 4 := ⟨_, rfl, by rw [i64_and3]; omega, by rw [i64_and3]; omega⟩
      obtain ⟨g, hg⟩ : ∃ g, bits .and .i64 a3 7 = g := ⟨_, rfl⟩
      have hin : ∀ s r : Int, CmdE.inR R ((⟨a1, s, r, a4, ops, a6, a7, a8⟩ : CmdV), (.slice xp ops.length xk : Value)) := fun s r => ⟨xp, xk, rfl, HX2.out⟩
      have HIn := Lib.hid hin
      clear hin
      have X : Orch.Sep R ((wr.alloc (.cells #[.int .i64 a1, .int .i64 a2, .int .i64 a3, .int .i64 a4, .slice xp ops.length xk, .string a6, .bool a7, .bool a8] 57)).alloc (.cells #[.int .i64 a1, .int .i64 a2, .int .i64 a3, .int .i64 a4, .slice xp ops.length xk, .string a6, .bool a7, .bool a8] 57)) (cellsAt (wr.heap.size + 1) (cmdE ((⟨a1, a2, a3, a4, ops, a6, a7, a8⟩ : CmdV), (.slice xp ops.length xk : Value))).toArray :: cellsAt wr.heap.size #[.int .i64 a1, .int .i64 a2, .int .i64 a3, .int .i64 a4, .slice xp ops.length xk, .string a6, .bool a7, .bool a8] :: cmdS (.slice dp ds.length dc) ds :: cellsAt rb #[.int .i64 q0, .int .i64 q1, .int .i64 q2] :: l) := by
        have := (H4.out.mkc #[.int .i64 a1, .int .i64 a2, .int .i64 a3, .int .i64 a4, .slice xp ops.length xk, .string a6, .bool a7, .bool a8] 57).mkc #[.int .i64 a1, .int .i64 a2, .int .i64 a3, .int .i64 a4, .slice xp ops.length xk, .string a6, .bool a7, .bool a8] 57
        simp only [World.size_alloc] at this
        exact this
      have HBs := Lib.hid (show (0 : Int) ≤ q0 ∧ q0 ≤ ((j + 1 : Nat) : Int) ∧ 0 ≤ q1 ∧ q1 ≤ ((j + 1 : Nat) : Int) ∧ 0 ≤ q2 ∧ q2 ≤ ((j + 1 : Nat) : Int) from ⟨b1, by omega, b3, by omega, b5, by omega⟩)
      by_cases h1 : a1 = 0
      · have t1 : (a1 != 0) = false := by simpa using h1
        clear h1
        go_wp2_with (at_builtin; refine Hid.out ?_)
        refine Lib.hid (wpList_append_rec (sz := 8) (enc := cmdE) (by decide) cmdE_len rfl _ _ 22 22 57 rfl Tryz.underlying22 Tryz.underlying22 (.inr ⟨_, rfl⟩) cmd_info rfl (xs := ds) (news := [((⟨a1, a2, a3, a4, ops, a6, a7, a8⟩ : CmdV), (.slice xp ops.length xk : Value))]) rfl rfl (cmd_src rfl X) ((Sep.f2 (X))) ?c1 ?c2 ?_)
        case c1 => exact HB1.out
        case c2 => exact HB2.out
        intro v' w5 H5
        have H6 := Lib.hid (((Sep.f2 (Sep.f2 (H5)))).drop.drop)
        clear H5 X
        go_wp2_with fail
        go_roundw
        case rel => exact ⟨j + 1, _, q0, q1, q2, hlt, by go_num, HOk.out.more _ HX1.out (HIn.out a2 a3), HBs.out, H6.out⟩
        case measure => simp [intOf]; omega
      have t1 : (a1 != 0) = true := by simpa using h1
      by_cases h2 : a1 = 1
      · have t2 : (a1 != 1) = false := by simpa using h2
        clear h2 h1
        go_wp2_with (at_builtin; refine Hid.out ?_)
        refine Lib.hid (wpList_append_rec (sz := 8) (enc := cmdE) (by decide) cmdE_len rfl _ _ 22 22 57 rfl Tryz.underlying22 Tryz.underlying22 (.inr ⟨_, rfl⟩) cmd_info rfl (xs := ds) (news := [((⟨a1, a2, a3, a4, ops, a6, a7, a8⟩ : CmdV), (.slice xp ops.length xk : Value))]) rfl rfl (cmd_src rfl X) ((Sep.f2 (X))) ?c1 ?c2 ?_)
        case c1 => exact HB1.out
        case c2 => exact HB2.out
        intro v' w5 H5
        have H6 := Lib.hid (((Sep.f2 (Sep.f2 (H5)))).drop.drop)
        clear H5 X
        go_wp2_with fail
        go_roundw
        case rel => exact ⟨j + 1, _, q0, q1, q2, hlt, by go_num, HOk.out.more _ HX1.out (HIn.out a2 a3), HBs.out, H6.out⟩
        case measure => simp [intOf]; omega
      have t2 : (a1 != 1) = true := by simpa using h2
      clear h1 h2
      by_cases h3 : q < 3
      case neg =>
        go_wp2_with (at_builtin; refine Hid.out ?_)
        refine Lib.hid (wpList_append_rec (sz := 8) (enc := cmdE) (by decide) cmdE_len rfl _ _ 22 22 57 rfl Tryz.underlying22 Tryz.underlying22 (.inr ⟨_, rfl⟩) cmd_info rfl (xs := ds) (news := [((⟨a1, a2, a3, a4, ops, a6, a7, a8⟩ : CmdV), (.slice xp ops.length xk : Value))]) rfl rfl (cmd_src rfl X) ((Sep.f2 (X))) ?c1 ?c2 ?_)
        case c1 => exact HB1.out
        case c2 => exact HB2.out
        intro v' w5 H5
        have H6 := Lib.hid (((Sep.f2 (Sep.f2 (H5)))).drop.drop)
        clear H5 X
        go_wp2_with fail
        go_roundw
        case rel => exact ⟨j + 1, _, q0, q1, q2, hlt, by go_num, HOk.out.more _ HX1.out (HIn.out a2 a3), HBs.out, H6.out⟩
        case measure => simp [intOf]; omega
      by_cases h4 : g = 0
      · have t4 : (g != 0) = false := by simpa using h4
        clear h4
        go_wp2_with (at_builtin; refine Hid.out ?_)
        refine Lib.hid (wpList_append_rec (sz := 8) (enc := cmdE) (by decide) cmdE_len rfl _ _ 22 22 57 rfl Tryz.underlying22 Tryz.underlying22 (.inr ⟨_, rfl⟩) cmd_info rfl (xs := ds) (news := [((⟨a1, a2, a3, a4, ops, a6, a7, a8⟩ : CmdV), (.slice xp ops.length xk : Value))]) rfl rfl (cmd_src rfl X) ((Sep.f2 (X))) ?c1 ?c2 ?_)
        case c1 => exact HB1.out
        case c2 => exact HB2.out
        intro v' w5 H5
        have H6 := Lib.hid (((Sep.f2 (Sep.f2 (H5)))).drop.drop)
        clear H5 X
        go_wp2_with fail
        go_roundw
        case rel => exact ⟨j + 1, _, q0, q1, q2, hlt, by go_num, HOk.out.more _ HX1.out (HIn.out a2 a3), HBs.out, H6.out⟩
        case measure => simp [intOf]; omega
      have t4 : (g != 0) = true := by simpa using h4
      clear h4 X
      obtain ⟨k0, k1, k2, kfz, klt⟩ := ((Sep.f1 (H4.out))).c3
      have hq3 : q = 0 ∨ q = 1 ∨ q = 2 := by omega
      rcases hq3 with rfl | rfl | rfl
      ·
        have X := ((((Sep.f1 (H4.out))).st 0 (.int .i64 (q0 + 1))).mkc #[.int .i64 a1, .int .i64 1, .int .i64 (q0 + 1), .int .i64 a4, .slice xp ops.length xk, .string a6, .bool a7, .bool a8] 57).mkc (cmdE ((⟨a1, 1, q0 + 1, a4, ops, a6, a7, a8⟩ : CmdV), (.slice xp ops.length xk : Value))).toArray 57
        simp only [World.size_alloc, size_setCell'] at X
        go_wp2_with (at_builtin; refine Hid.out ?_)
        refine Lib.hid (wpList_append_rec (sz := 8) (enc := cmdE) (by decide) cmdE_len rfl _ _ 22 22 57 rfl Tryz.underlying22 Tryz.underlying22 (.inr ⟨_, rfl⟩) cmd_info rfl (xs := ds) (news := [((⟨a1, 1, q0 + 1, a4, ops, a6, a7, a8⟩ : CmdV), (.slice xp ops.length xk : Value))]) rfl rfl (cmd_src rfl X) ((Sep.f3 (X))) ?c1 ?c2 ?_)
        case c1 => exact HB1.out
        case c2 => exact HB2.out
        intro v' w5 H5
        have H6 := Lib.hid (((Sep.f2 (Sep.f2 (H5)))).drop.drop)
        clear H5 X
        go_wp2_with fail
        go_roundw
        case rel => exact ⟨j + 1, _, _, _, _, hlt, by go_num, HOk.out.more _ HX1.out (HIn.out 1 (q0 + 1)), ⟨by omega, by omega, by omega, by omega, by omega, by omega⟩, H6.out⟩
        case measure => simp [intOf]; omega
      ·
        have X := ((((Sep.f1 (H4.out))).st 1 (.int .i64 (q1 + 1))).mkc #[.int .i64 a1, .int .i64 2, .int .i64 (q1 + 1), .int .i64 a4, .slice xp ops.length xk, .string a6, .bool a7, .bool a8] 57).mkc (cmdE ((⟨a1, 2, q1 + 1, a4, ops, a6, a7, a8⟩ : CmdV), (.slice xp ops.length xk : Value))).toArray 57
        simp only [World.size_alloc, size_setCell'] at X
        go_wp2_with (at_builtin; refine Hid.out ?_)
        refine Lib.hid (wpList_append_rec (sz := 8) (enc := cmdE) (by decide) cmdE_len rfl _ _ 22 22 57 rfl Tryz.underlying22 Tryz.underlying22 (.inr ⟨_, rfl⟩) cmd_info rfl (xs := ds) (news := [((⟨a1, 2, q1 + 1, a4, ops, a6, a7, a8⟩ : CmdV), (.slice xp ops.length xk : Value))]) rfl rfl (cmd_src rfl X) ((Sep.f3 (X))) ?c1 ?c2 ?_)
        case c1 => exact HB1.out
        case c2 => exact HB2.out
        intro v' w5 H5
        have H6 := Lib.hid (((Sep.f2 (Sep.f2 (H5)))).drop.drop)
        clear H5 X
        go_wp2_with fail
        go_roundw
        case rel => exact ⟨j + 1, _, _, _, _, hlt, by go_num, HOk.out.more _ HX1.out (HIn.out 2 (q1 + 1)), ⟨by omega, by omega, by omega, by omega, by omega, by omega⟩, H6.out⟩
        case measure => simp [intOf]; omega
      ·
        have X := ((((Sep.f1 (H4.out))).st 2 (.int .i64 (q2 + 1))).mkc #[.int .i64 a1, .int .i64 3, .int .i64 (q2 + 1), .int .i64 a4, .slice xp ops.length xk, .string a6, .bool a7, .bool a8] 57).mkc (cmdE ((⟨a1, 3, q2 + 1, a4, ops, a6, a7, a8⟩ : CmdV), (.slice xp ops.length xk : Value))).toArray 57
        simp only [World.size_alloc, size_setCell'] at X
        go_wp2_with (at_builtin; refine Hid.out ?_)
        refine Lib.hid (wpList_append_rec (sz := 8) (enc := cmdE) (by decide) cmdE_len rfl _ _ 22 22 57 rfl Tryz.underlying22 Tryz.underlying22 (.inr ⟨_, rfl⟩) cmd_info rfl (xs := ds) (news := [((⟨a1, 3, q2 + 1, a4, ops, a6, a7, a8⟩ : CmdV), (.slice xp ops.length xk : Value))]) rfl rfl (cmd_src rfl X) ((Sep.f3 (X))) ?c1 ?c2 ?_)
        case c1 => exact HB1.out
        case c2 => exact HB2.out
        intro v' w5 H5
        have H6 := Lib.hid (((Sep.f2 (Sep.f2 (H5)))).drop.drop)
        clear H5 X
        go_wp2_with fail
        go_roundw
        case rel => exact ⟨j + 1, _, _, _, _, hlt, by go_num, HOk.out.more _ HX1.out (HIn.out 3 (q2 + 1)), ⟨by omega, by omega, by omega, by omega, by omega, by omega⟩, H6.out⟩
        case measure => simp [intOf]; omega
    · obtain rfl : j = cs.length := by omega
      have hlti : ¬ (cs.length : Int) < (cs.length : Int) := by omega
      have H5 := Lib.hid H3
      clear H3
      go_wp2
      go_ret
      exact ⟨_, rfl, ds, HOk.out, ((Sep.f1 (H5.out))).drop⟩
end Go.Proofs.YtpeflgfldbjflaaGreatDoor
end
