/- WHAT IS PROVED HERE: The laws' own functions: Few, Few, Text; The laws' own functions: Few of a list. -/
import Derived.Test.YtpeflgfldbjflaaGreatDoorG09
set_option linter.unusedVariables false
set_option linter.unusedSimpArgs false
set_option linter.unusedSectionVars false
set_option linter.unnecessarySimpa false
section
namespace Go.Proofs.YtpeflgfldbjflaaGreatDoor
open Go.RowKit Go.Orch Go.Shelf
set_option maxRecDepth 100000 in
set_option maxHeartbeats 4000000 in
theorem few12_any (R w : World) (l : List HP) (c : CmdV) (v : Value) (hl : c.ops.length ≤ 9223372036854775807) (h : RowIn R opC v c.ops) (H : Sep R w l) :
    Calls Tryz.prog 19 #[.agg (cmdC c v).toArray] w fun e w' => RetB e fun b => (b = true → c.ops.length ≤ 10 ∧ c.path.size ≤ 200) ∧ Sep R w' l := by
  obtain ⟨a1, a2, a3, a4, ops, a6, a7, a8⟩ := c
  obtain ⟨p, k, rfl, hrow⟩ := h
  simp only [cmdC] at *
  have HR := Lib.hid hrow
  have H0 := Lib.hid (H.mkc #[.int .i64 a1, .int .i64 a2, .int .i64 a3, .int .i64 a4, .slice p ops.length k, .string a6, .bool a7, .bool a8] 57)
  clear H hrow
  generalize hnb : w.heap.size = nb at *
  have HNb := Lib.hid hnb
  obtain ⟨c0, c1, c2, c3, c4, c5, c6, c7, fz, lt⟩ := H0.out.c8
  go_enter Tryz.func19, Tryz.ntmps19
  go_wp2_with fail
  go_loopw [8] (fun i wr => ∃ j : Nat, j ≤ ops.length ∧ i = .int .i64 j ∧ Sep R wr (cellsAt nb #[.int .i64 a1, .int .i64 a2, .int .i64 a3, .int .i64 a4, .slice p ops.length k, .string a6, .bool a7, .bool a8] :: l)) (fun i _ => ops.length - (intOf i).toNat)
  case atStart => exact ⟨0, Nat.zero_le _, rfl, H0.out⟩
  case round =>
    obtain ⟨j, hj, rfl, H1⟩ := hrel
    by_cases hlt : j < ops.length
    · have hlti : (j : Int) < (ops.length : Int) := by omega
      have hr := HR.out
      rcases hr with hr | ⟨ob, off, rfl, hr⟩
      · rw [hr] at hlt; exact absurd hlt (Nat.not_lt_zero _)
      have hcell : ∀ i u, (ops.flatMap opC)[i]? = some u → wr.cell? ⟨ob, off + i, none⟩ = some u := fun i u hi => by
        rw [H1.below.cell (p := ⟨ob, off + i, none⟩) (cell_lt (hr i u hi))]
        exact hr i u hi
      have he := fun i u hu => row_elem (k := 6) (fun _ => rfl) hcell j hlt i u hu
      have d0 : wr.cell? ⟨ob, off + j * 6, none⟩ = some (.int .i64 ops[j].does) := he 0 _ rfl
      have d1 : wr.cell? ⟨ob, off + j * 6 + 1, none⟩ = some (.string ops[j].path) := he 1 _ rfl
      have d2 : wr.cell? ⟨ob, off + j * 6 + 2, none⟩ = some (.string ops[j].data) := he 2 _ rfl
      have d3 : wr.cell? ⟨ob, off + j * 6 + 3, none⟩ = some (.int .i64 ops[j].version) := he 3 _ rfl
      have d4 : wr.cell? ⟨ob, off + j * 6 + 4, none⟩ = some (.bool ops[j].serial) := he 4 _ rfl
      have d5 : wr.cell? ⟨ob, off + j * 6 + 5, none⟩ = some (.bool ops[j].own) := he 5 _ rfl
      have H2 := Lib.hid H1
      clear hr hcell he H1
      generalize ops[j] = o at *
      obtain ⟨o1, o2, o3, o4, o5, o6⟩ := o
      simp only at d0 d1 d2 d3 d4 d5
      by_cases h1 : 200 < (o2.size : Int)
      · go_wp2
        go_ret
        exact .mk false rfl ⟨by simp, ((H2.out.mkc _ _).drop).drop⟩
      by_cases h2 : 200 < (o3.size : Int)
      · go_wp2
        go_ret
        exact .mk false rfl ⟨by simp, ((H2.out.mkc _ _).drop).drop⟩
      · go_wp2_with fail
        go_roundw
        case rel => exact ⟨j + 1, hlt, by go_num, (H2.out.mkc _ _).drop⟩
        case measure => simp [intOf]; omega
    · obtain rfl : j = ops.length := by omega
      have hlti : ¬ (ops.length : Int) < (ops.length : Int) := by omega
      obtain ⟨c0, c1, c2, c3, c4, c5, c6, c7, fz, lt⟩ := H1.c8
      have H2 := Lib.hid H1
      clear H1
      by_cases h1 : (ops.length : Int) ≤ 10
      · by_cases h2 : (a6.size : Int) ≤ 200
        · go_wp2
          go_ret
          exact .mk true rfl ⟨fun _ => ⟨by omega, by omega⟩, H2.out.drop⟩
        · go_wp2
          go_ret
          exact .mk false rfl ⟨by simp, H2.out.drop⟩
      · go_wp2
        go_ret
        exact .mk false rfl ⟨by simp, H2.out.drop⟩
theorem lawText_any (R w : World) (l : List HP) (c : CmdV) (v : Value) (hl : c.ops.length ≤ 1000000) (h : RowIn R opC v c.ops) (H : Sep R w l) :
    Calls Tryz.prog 22 #[.agg (cmdC c v).toArray] w fun e w' => e = .returned (.string c.bytes.1) ∧ Sep R w' l := by
  have HC := Lib.hid (fun w h => cmdBytes_any c v w hl h)
  have H0 := Lib.hid H
  have HR := Lib.hid h
  clear H h
  generalize c.bytes = cb at *
  obtain ⟨cb1, cb2⟩ := cb
  obtain ⟨a1, a2, a3, a4, ops, a6, a7, a8⟩ := c
  simp only [cmdC] at *
  go_enter Tryz.func22, Tryz.ntmps22
  go_wp2_with fail
  refine Calls.mono (HC.out _ (Sep.rowR HR.out (H0.out.mkc _ _))) ?_
  rintro e w1 ⟨rfl, hb⟩
  have H1 := Lib.hid ((H0.out.mkc #[.int .i64 a1, .int .i64 a2, .int .i64 a3, .int .i64 a4, v, .string a6, .bool a7, .bool a8] 57).kept hb).drop
  clear hb
  go_wp2
  go_ret
  exact ⟨rfl, H1.out⟩
end Go.Proofs.YtpeflgfldbjflaaGreatDoor
end
section
namespace Go.Proofs.YtpeflgfldbjflaaGreatDoor
open Go.RowKit Go.Orch Go.Shelf
set_option maxRecDepth 100000 in
set_option maxHeartbeats 4000000 in
theorem few13_any (R w : World) (l : List HP) (cs : List CmdE) (v : Value) (hv : RowIn R cmdE v cs) (hl : cs.length ≤ 9223372036854775807) (hops : ∀ x ∈ cs, x.1.ops.length ≤ 9223372036854775807 ∧ x.inR R) (H : Sep R w l) :
    Calls Tryz.prog 6 #[v] w fun e w' => RetB e fun b => (b = true → cs.length ≤ 40 ∧ ∀ x ∈ cs, x.1.ops.length ≤ 10 ∧ x.1.path.size ≤ 200) ∧ Sep R w' l := by
  obtain ⟨p, k, rfl, hrow⟩ := hv
  have HR := Lib.hid hrow
  have HO := Lib.hid hops
  have H0 := Lib.hid H
  clear H hrow hops
  go_enter Tryz.func6, Tryz.ntmps6
  go_wp2_with fail
  go_loopw [7] (fun i wr => ∃ j : Nat, j ≤ cs.length ∧ i = .int .i64 j ∧ (∀ x ∈ cs.take j, x.1.ops.length ≤ 10 ∧ x.1.path.size ≤ 200) ∧ Sep R wr l) (fun i _ => cs.length - (intOf i).toNat)
  case atStart => exact ⟨0, Nat.zero_le _, rfl, by simp, H0.out⟩
  case round =>
    obtain ⟨j, hj, rfl, hgood, H1⟩ := hrel
    have HGd := Lib.hid hgood
    clear hgood
    by_cases hlt : j < cs.length
    · have hlti : (j : Int) < (cs.length : Int) := by omega
      have hr := HR.out
      rcases hr with hr | ⟨ob, off, rfl, hr⟩
      · rw [hr] at hlt; exact absurd hlt (Nat.not_lt_zero _)
      have hcell : ∀ i u, (cs.flatMap cmdE)[i]? = some u → wr.cell? ⟨ob, off + i, none⟩ = some u := fun i u hi => by
        rw [H1.below.cell (p := ⟨ob, off + i, none⟩) (cell_lt (hr i u hi))]
        exact hr i u hi
      have he := fun i u hu => row_elem (k := 8) cmdE_len hcell j hlt i u hu
      have d0 : wr.cell? ⟨ob, off + j * 8, none⟩ = some (.int .i64 cs[j].1.kind) := he 0 _ rfl
      have d1 : wr.cell? ⟨ob, off + j * 8 + 1, none⟩ = some (.int .i64 cs[j].1.session) := he 1 _ rfl
      have d2 : wr.cell? ⟨ob, off + j * 8 + 2, none⟩ = some (.int .i64 cs[j].1.req) := he 2 _ rfl
      have d3 : wr.cell? ⟨ob, off + j * 8 + 3, none⟩ = some (.int .i64 cs[j].1.noted) := he 3 _ rfl
      have d4 : wr.cell? ⟨ob, off + j * 8 + 4, none⟩ = some cs[j].2 := he 4 _ rfl
      have d5 : wr.cell? ⟨ob, off + j * 8 + 5, none⟩ = some (.string cs[j].1.path) := he 5 _ rfl
      have d6 : wr.cell? ⟨ob, off + j * 8 + 6, none⟩ = some (.bool cs[j].1.kids) := he 6 _ rfl
      have d7 : wr.cell? ⟨ob, off + j * 8 + 7, none⟩ = some (.bool cs[j].1.once) := he 7 _ rfl
      have hx := HO.out cs[j] (List.getElem_mem hlt)
      have HTk := Lib.hid (List.take_succ_eq_append_getElem hlt)
      have H2 := Lib.hid H1
      clear hr hcell he H1
      generalize cs[j] = x at *
      have HF := Lib.hid (fun w l H => few12_any R w l x.1 x.2 hx.1 hx.2 H)
      have HX := Lib.hid hx.2
      clear hx
      obtain ⟨⟨a1, a2, a3, a4, ops, a6, a7, a8⟩, xv⟩ := x
      obtain ⟨xp, xk, hxv, _⟩ := HX.out
      simp only at d0 d1 d2 d3 d4 d5 d6 d7 hxv
      subst hxv
      simp only [cmdC] at HF
      go_wp2_with fail
      refine Calls.mono (HF.out _ _ (H2.out.mkc _ _)) ?_
      rintro e w2 ⟨b, rfl, hb, H3⟩
      have HB := Lib.hid hb
      have H4 := Lib.hid H3.drop
      clear hb H3
      cases b with
      | false =>
        go_wp2
        go_ret
        exact .mk false rfl ⟨by simp, H4.out⟩
      | true =>
        go_wp2_with fail
        go_roundw
        case rel =>
          refine ⟨j + 1, hlt, by go_num, ?_, H4.out⟩
          rw [HTk.out]
          intro y hy
          rcases List.mem_append.1 hy with hy | hy
          · exact HGd.out y hy
          · obtain rfl := List.mem_singleton.1 hy
            exact HB.out trivial
        case measure => simp [intOf]; omega
    · obtain rfl : j = cs.length := by omega
      have hlti : ¬ (cs.length : Int) < (cs.length : Int) := by omega
      have H2 := Lib.hid H1
      clear H1
      by_cases h1 : (cs.length : Int) ≤ 40
      · go_wp2
        go_ret
        exact .mk true rfl ⟨fun _ => ⟨by omega, by have := HGd.out; rw [List.take_length] at this; exact fun a b h => this _ h⟩, H2.out⟩
      · go_wp2
        go_ret
        exact .mk false rfl ⟨by simp, H2.out⟩
end Go.Proofs.YtpeflgfldbjflaaGreatDoor
end
