/- WHAT IS PROVED HERE: Package op: Same. -/
import Derived.Test.YtpeflgfldbjflaaGreatDoorG06
set_option linter.unusedVariables false
set_option linter.unusedSimpArgs false
set_option linter.unusedSectionVars false
set_option linter.unnecessarySimpa false
section
namespace Go.Orch
open Go.RowKit
theorem allEq_decide {α : Type} [DecidableEq α] : ∀ (xs ys : List α), Lib.allEq (fun x y => decide (x = y)) xs ys = decide (xs = ys)
  | [], [] => by simp [Lib.allEq]
  | [], _ :: _ => by simp [Lib.allEq]
  | _ :: _, [] => by simp [Lib.allEq]
  | x :: xs, y :: ys => by
    have := allEq_decide xs ys
    simp only [Lib.allEq] at this ⊢
    simp_all
theorem below_drewN (w : World) (q : Nat) : Below w.heap.size w (w.drewN q) := (Sep.drewN (Sep.nil w) q).below
end Go.Orch
namespace Go.Proofs.YtpeflgfldbjflaaGreatDoor
open Go.RowKit Go.Shelf Go.Orch
theorem neqOp : NeqAt Tryz.prog 91 (fun x => .agg (opC x).toArray) (fun x y => decide (x = y)) := by
  refine ⟨fun x y w => ?_, GuardAt.agg _ (by kernel_rfl)⟩
  have u1 := Tryz.underlying89
  have u2 := Tryz.underlying9
  have u3 := Tryz.underlying3
  have u4 := Tryz.underlying4
  have hS : Tryz.prog.underlying 91 = some (.struct (Tryz.prog.fieldsOf 91)) := by kernel_rfl
  have hp : Tryz.prog.stoodInHeld 91 = false := by kernel_rfl
  obtain ⟨a1, a2, a3, a4, a5, a6⟩ := x
  obtain ⟨b1, b2, b3, b4, b5, b6⟩ := y
  simp only [opC]
  rw [run_neq_struct, show (10000 : Nat) = 9999 + 1 from rfl, run_equalIn_agg w 9999 91 _ _ hS hp]
  simp only [Program.fieldsOf, Tryz.underlying91]
  have e2 := tl_beq1 a2 b2
  have e3 := tl_beq1 a3 b3
  go_simp
  by_cases h1 : a1 = b1 <;> by_cases h2 : a2 = b2 <;> by_cases h3 : a3 = b3 <;> by_cases h4 : a4 = b4 <;> by_cases h5 : a5 = b5 <;> by_cases h6 : a6 = b6 <;> simp [h1, h2, h3, h4, h5, h6]
theorem neqOut : NeqAt Tryz.prog 130 (fun x => .agg (outC x).toArray) (fun x y => decide (x = y)) := by
  refine ⟨fun x y w => ?_, GuardAt.agg _ (by kernel_rfl)⟩
  have u2 := Tryz.underlying9
  have u3 := Tryz.underlying3
  have hS : Tryz.prog.underlying 130 = some (.struct (Tryz.prog.fieldsOf 130)) := by kernel_rfl
  have hp : Tryz.prog.stoodInHeld 130 = false := by kernel_rfl
  obtain ⟨a1, a2⟩ := x
  obtain ⟨b1, b2⟩ := y
  simp only [outC]
  rw [run_neq_struct, show (10000 : Nat) = 9999 + 1 from rfl, run_equalIn_agg w 9999 130 _ _ hS hp]
  simp only [Program.fieldsOf, Tryz.underlying130]
  have e2 := tl_beq1 a1 b1
  go_simp
  by_cases h1 : a1 = b1 <;> by_cases h2 : a2 = b2 <;> simp [h1, h2]
theorem eqOp_len (p p' : Option Addr) (n m c d : Nat) (hne : n ≠ m) (w : World) :
    Calls Tryz.prog 67 #[.slice p n c, .slice p' m d] w fun e w' => e = .returned (.bool false) ∧ w = w' := by
  have h1 : ((n : Int) != (m : Int)) = true := by rw [bne_iff_ne]; omega
  have h2 : ¬ (n : Int) = (m : Int) := by omega
  go_enter Tryz.func67, Tryz.ntmps67
  go_wp2
  go_ret
  exact ⟨rfl, rfl⟩
theorem eqOp_zero (p p' : Option Addr) (c d : Nat) (w : World) :
    Calls Tryz.prog 67 #[.slice p 0 c, .slice p' 0 d] w fun e w' => e = .returned (.bool true) ∧ w' = w := by
  go_enter Tryz.func67, Tryz.ntmps67
  go_wp2_with fail
  refine wp_loop_rounds 1 ?_
  rw [rounds_succ]
  go_wp2
  go_ret
  exact ⟨rfl, rfl⟩
theorem eqOp_any (v v' : Value) (xs ys : List OpV) (hx : xs.length ≤ 1000000) (hy : ys.length ≤ 1000000) (w : World) (h : RowIn w opC v xs) (h' : RowIn w opC v' ys) :
    Calls Tryz.prog 67 #[v, v'] w fun e w' => e = .returned (.bool (decide (xs = ys))) ∧ Below w.heap.size w w' := by
  obtain ⟨p, c, rfl, h⟩ := h
  obtain ⟨p', c', rfl, h'⟩ := h'
  by_cases hl : xs.length = ys.length
  case neg =>
    refine (eqOp_len p p' xs.length ys.length c c' hl w).mono ?_
    rintro e w' ⟨rfl, rfl⟩
    exact ⟨by rw [decide_eq_false (fun e => hl (by rw [e]))], Below.refl _ _⟩
  by_cases hz : xs = []
  · subst hz
    have : ys = [] := List.eq_nil_of_length_eq_zero (by simpa using hl.symm)
    subst this
    refine (eqOp_zero p p' c c' w).mono ?_
    rintro e w' ⟨rfl, rfl⟩
    exact ⟨by simp, Below.refl _ _⟩
  · have hz' : ys ≠ [] := by rintro rfl; exact hz (List.eq_nil_of_length_eq_zero (by simpa using hl))
    rcases h with h | ⟨b, off, rfl, h⟩
    · exact absurd h hz
    rcases h' with h' | ⟨b', off', rfl, h'⟩
    · exact absurd h' hz'
    have := AnyQ.slices_Equal Tryz.equalOp 6 Tryz.isAgg91 Tryz.sizeOf91 opC (fun _ => rfl) (fun x y => decide (x = y)) neqOp b off xs.length c b' off' ys.length c' xs ys w (Nat.le_refl _) (Nat.le_refl _) (by omega) (by omega)
      (fun j hj i v hv => row_elem (k := 6) (fun _ => rfl) h j hj i v (by simpa [hj] using hv)) (fun j hj i v hv => row_elem (k := 6) (fun _ => rfl) h' j hj i v (by simpa [hj] using hv))
    rw [List.take_length, List.take_length, allEq_decide] at this
    refine this.mono ?_
    rintro e w' ⟨rfl, q, rfl⟩
    exact ⟨rfl, below_drewN w q⟩
theorem eqOut_len (p p' : Option Addr) (n m c d : Nat) (hne : n ≠ m) (w : World) :
    Calls Tryz.prog 68 #[.slice p n c, .slice p' m d] w fun e w' => e = .returned (.bool false) ∧ w = w' := by
  have h1 : ((n : Int) != (m : Int)) = true := by rw [bne_iff_ne]; omega
  have h2 : ¬ (n : Int) = (m : Int) := by omega
  go_enter Tryz.func68, Tryz.ntmps68
  go_wp2
  go_ret
  exact ⟨rfl, rfl⟩
theorem eqOut_zero (p p' : Option Addr) (c d : Nat) (w : World) :
    Calls Tryz.prog 68 #[.slice p 0 c, .slice p' 0 d] w fun e w' => e = .returned (.bool true) ∧ w' = w := by
  go_enter Tryz.func68, Tryz.ntmps68
  go_wp2_with fail
  refine wp_loop_rounds 1 ?_
  rw [rounds_succ]
  go_wp2
  go_ret
  exact ⟨rfl, rfl⟩
theorem eqOut_any (v v' : Value) (xs ys : List OutV) (hx : xs.length ≤ 1000000) (hy : ys.length ≤ 1000000) (w : World) (h : RowIn w outC v xs) (h' : RowIn w outC v' ys) :
    Calls Tryz.prog 68 #[v, v'] w fun e w' => e = .returned (.bool (decide (xs = ys))) ∧ Below w.heap.size w w' := by
  obtain ⟨p, c, rfl, h⟩ := h
  obtain ⟨p', c', rfl, h'⟩ := h'
  by_cases hl : xs.length = ys.length
  case neg =>
    refine (eqOut_len p p' xs.length ys.length c c' hl w).mono ?_
    rintro e w' ⟨rfl, rfl⟩
    exact ⟨by rw [decide_eq_false (fun e => hl (by rw [e]))], Below.refl _ _⟩
  by_cases hz : xs = []
  · subst hz
    have : ys = [] := List.eq_nil_of_length_eq_zero (by simpa using hl.symm)
    subst this
    refine (eqOut_zero p p' c c' w).mono ?_
    rintro e w' ⟨rfl, rfl⟩
    exact ⟨by simp, Below.refl _ _⟩
  · have hz' : ys ≠ [] := by rintro rfl; exact hz (List.eq_nil_of_length_eq_zero (by simpa using hl))
    rcases h with h | ⟨b, off, rfl, h⟩
    · exact absurd h hz
    rcases h' with h' | ⟨b', off', rfl, h'⟩
    · exact absurd h' hz'
    have := AnyQ.slices_Equal Tryz.equalOut 2 Tryz.isAgg130 Tryz.sizeOf130 outC (fun _ => rfl) (fun x y => decide (x = y)) neqOut b off xs.length c b' off' ys.length c' xs ys w (Nat.le_refl _) (Nat.le_refl _) (by omega) (by omega)
      (fun j hj i v hv => row_elem (k := 2) (fun _ => rfl) h j hj i v (by simpa [hj] using hv)) (fun j hj i v hv => row_elem (k := 2) (fun _ => rfl) h' j hj i v (by simpa [hj] using hv))
    rw [List.take_length, List.take_length, allEq_decide] at this
    refine this.mono ?_
    rintro e w' ⟨rfl, q, rfl⟩
    exact ⟨rfl, below_drewN w q⟩
set_option maxRecDepth 100000 in
set_option maxHeartbeats 4000000 in
theorem cmdSame_any (x y : CmdV) (v v' : Value) (hx : x.ops.length ≤ 1000000) (hy : y.ops.length ≤ 1000000) (w : World) (h : RowIn w opC v x.ops) (h' : RowIn w opC v' y.ops) :
    Calls Tryz.prog 40 #[.agg (cmdC x v).toArray, .agg (cmdC y v').toArray] w fun e w' => e = .returned (.bool (decide (x = y))) ∧ Below w.heap.size w w' := by
  have HE0 := Lib.hid (fun W (hb : Below w.heap.size w W) => eqOp_any v v' x.ops y.ops hx hy W (h.kept hb) (h'.kept hb))
  obtain ⟨p, k, rfl, h⟩ := h
  obtain ⟨p', k', rfl, h'⟩ := h'
  clear h h'
  obtain ⟨a1, a2, a3, a4, ops, a6, a7, a8⟩ := x
  obtain ⟨b1, b2, b3, b4, ops', b6, b7, b8⟩ := y
  simp only at HE0 hx hy ⊢
  have H1 := ((Sep.self w).mkc #[.int .i64 a1, .int .i64 a2, .int .i64 a3, .int .i64 a4, .slice p ops.length k, .string a6, .bool a7, .bool a8] 57).mkc #[.int .i64 b1, .int .i64 b2, .int .i64 b3, .int .i64 b4, .slice p' ops'.length k', .string b6, .bool b7, .bool b8] 57
  simp only [World.size_alloc] at H1
  have HE := Lib.hid (HE0.out _ H1.below)
  have HB := Lib.hid H1.below
  have H2 := Lib.hid H1
  clear H1 HE0
  show Calls Tryz.prog 40 #[.agg #[.int .i64 a1, .int .i64 a2, .int .i64 a3, .int .i64 a4, .slice p ops.length k, .string a6, .bool a7, .bool a8], .agg #[.int .i64 b1, .int .i64 b2, .int .i64 b3, .int .i64 b4, .slice p' ops'.length k', .string b6, .bool b7, .bool b8]] w _
  by_cases h1 : a1 = b1
  case neg =>
    have e1 : (a1 == b1) = false := by simpa using h1
    rw [decide_eq_false (by intro e; injection e; contradiction)]
    go_enter Tryz.func40, Tryz.ntmps40
    go_wp2
    go_ret
    exact ⟨rfl, HB.out⟩
  subst h1
  by_cases h2 : a2 = b2
  case neg =>
    have e2 : (a2 == b2) = false := by simpa using h2
    rw [decide_eq_false (by intro e; injection e; contradiction)]
    go_enter Tryz.func40, Tryz.ntmps40
    go_wp2
    go_ret
    exact ⟨rfl, HB.out⟩
  subst h2
  by_cases h3 : a3 = b3
  case neg =>
    have e3 : (a3 == b3) = false := by simpa using h3
    rw [decide_eq_false (by intro e; injection e; contradiction)]
    go_enter Tryz.func40, Tryz.ntmps40
    go_wp2
    go_ret
    exact ⟨rfl, HB.out⟩
  subst h3
  by_cases h4 : a4 = b4
  case neg =>
    have e4 : (a4 == b4) = false := by simpa using h4
    rw [decide_eq_false (by intro e; injection e; contradiction)]
    go_enter Tryz.func40, Tryz.ntmps40
    go_wp2
    go_ret
    exact ⟨rfl, HB.out⟩
  subst h4
  have g5 := tl_beq1 a6 b6
  by_cases h5 : ops = ops'
  case neg =>
    rw [decide_eq_false h5] at HE
    rw [decide_eq_false (by intro e; injection e; contradiction)]
    go_enter Tryz.func40, Tryz.ntmps40
    go_wp2_with fail
    refine Calls.mono HE.out ?_
    rintro e w1 ⟨rfl, hb⟩
    have H3 := H2.out.kept hb
    obtain ⟨c0, c1, c2, c3, c4, c5, c6, c7, fz, lt⟩ := H3.c8
    obtain ⟨d0, d1, d2, d3, d4, d5, d6, d7, fz2, lt2⟩ := ((Sep.f1 (H3))).c8
    have HB := Lib.hid H3.below
    clear hb H3
    go_wp2
    go_ret
    exact ⟨rfl, HB.out⟩
  rw [decide_eq_true h5] at HE
  have HG := Lib.hid h5
  clear h5
  by_cases h6 : a6 = b6
  case neg =>
    rw [decide_eq_false h6] at g5
    rw [decide_eq_false (by intro e; injection e; contradiction)]
    go_enter Tryz.func40, Tryz.ntmps40
    go_wp2_with fail
    refine Calls.mono HE.out ?_
    rintro e w1 ⟨rfl, hb⟩
    have H3 := H2.out.kept hb
    obtain ⟨c0, c1, c2, c3, c4, c5, c6, c7, fz, lt⟩ := H3.c8
    obtain ⟨d0, d1, d2, d3, d4, d5, d6, d7, fz2, lt2⟩ := ((Sep.f1 (H3))).c8
    have HB := Lib.hid H3.below
    clear hb H3
    go_wp2
    go_ret
    exact ⟨rfl, HB.out⟩
  rw [decide_eq_true h6] at g5
  have h5 := HG.out
  have hfin : decide ((⟨a1, a2, a3, a4, ops, a6, a7, a8⟩ : CmdV) = ⟨a1, a2, a3, a4, ops', b6, b7, b8⟩) = ((a7 == b7) && (a8 == b8)) := by subst h5 h6; cases a7 <;> cases b7 <;> cases a8 <;> cases b8 <;> simp
  rw [hfin]
  clear hfin
  have HG6 := Lib.hid h6
  clear h5 h6
  cases h7 : (a7 == b7) with
  | false =>
    rw [Bool.false_and]
    go_enter Tryz.func40, Tryz.ntmps40
    go_wp2_with fail
    refine Calls.mono HE.out ?_
    rintro e w1 ⟨rfl, hb⟩
    have H3 := H2.out.kept hb
    obtain ⟨c0, c1, c2, c3, c4, c5, c6, c7, fz, lt⟩ := H3.c8
    obtain ⟨d0, d1, d2, d3, d4, d5, d6, d7, fz2, lt2⟩ := ((Sep.f1 (H3))).c8
    have HB := Lib.hid H3.below
    clear hb H3
    go_wp2
    go_ret
    exact ⟨rfl, HB.out⟩
  | true =>
    rw [Bool.true_and]
    obtain ⟨f8, e8⟩ : ∃ f8, f8 = (a8 == b8) := ⟨_, rfl⟩
    rw [← e8]
    have e8' := e8.symm
    clear e8
    go_enter Tryz.func40, Tryz.ntmps40
    go_wp2_with fail
    refine Calls.mono HE.out ?_
    rintro e w1 ⟨rfl, hb⟩
    have H3 := H2.out.kept hb
    obtain ⟨c0, c1, c2, c3, c4, c5, c6, c7, fz, lt⟩ := H3.c8
    obtain ⟨d0, d1, d2, d3, d4, d5, d6, d7, fz2, lt2⟩ := ((Sep.f1 (H3))).c8
    have HB := Lib.hid H3.below
    clear hb H3
    go_wp2
    go_ret
    exact ⟨rfl, HB.out⟩
set_option maxRecDepth 100000 in
set_option maxHeartbeats 4000000 in
theorem resSame_any (x y : ResV) (v v' : Value) (hx : x.outs.length ≤ 1000000) (hy : y.outs.length ≤ 1000000) (w : World) (h : RowIn w outC v x.outs) (h' : RowIn w outC v' y.outs) :
    Calls Tryz.prog 41 #[.agg (resC x v).toArray, .agg (resC y v').toArray] w fun e w' => e = .returned (.bool (decide (x = y))) ∧ Below w.heap.size w w' := by
  have HE0 := Lib.hid (fun W (hb : Below w.heap.size w W) => eqOut_any v v' x.outs y.outs hx hy W (h.kept hb) (h'.kept hb))
  obtain ⟨p, k, rfl, h⟩ := h
  obtain ⟨p', k', rfl, h'⟩ := h'
  clear h h'
  obtain ⟨a1, a2, ops, a4⟩ := x
  obtain ⟨b1, b2, ops', b4⟩ := y
  simp only at HE0 hx hy ⊢
  have H1 := ((Sep.self w).mkc #[.int .i64 a1, .int .i64 a2, .slice p ops.length k, .int .i64 a4] 47).mkc #[.int .i64 b1, .int .i64 b2, .slice p' ops'.length k', .int .i64 b4] 47
  simp only [World.size_alloc] at H1
  have HE := Lib.hid (HE0.out _ H1.below)
  have HB := Lib.hid H1.below
  have H2 := Lib.hid H1
  clear H1 HE0
  show Calls Tryz.prog 41 #[.agg #[.int .i64 a1, .int .i64 a2, .slice p ops.length k, .int .i64 a4], .agg #[.int .i64 b1, .int .i64 b2, .slice p' ops'.length k', .int .i64 b4]] w _
  by_cases h1 : a1 = b1
  case neg =>
    have e1 : (a1 == b1) = false := by simpa using h1
    rw [decide_eq_false (by intro e; injection e; contradiction)]
    go_enter Tryz.func41, Tryz.ntmps41
    go_wp2
    go_ret
    exact ⟨rfl, HB.out⟩
  subst h1
  by_cases h2 : a2 = b2
  case neg =>
    have e2 : (a2 == b2) = false := by simpa using h2
    rw [decide_eq_false (by intro e; injection e; contradiction)]
    go_enter Tryz.func41, Tryz.ntmps41
    go_wp2
    go_ret
    exact ⟨rfl, HB.out⟩
  subst h2
  by_cases h5 : ops = ops'
  case neg =>
    rw [decide_eq_false h5] at HE
    rw [decide_eq_false (by intro e; injection e; contradiction)]
    go_enter Tryz.func41, Tryz.ntmps41
    go_wp2_with fail
    refine Calls.mono HE.out ?_
    rintro e w1 ⟨rfl, hb⟩
    have H3 := H2.out.kept hb
    obtain ⟨c0, c1, c2, c3, fz, lt⟩ := H3.c4
    obtain ⟨d0, d1, d2, d3, fz2, lt2⟩ := ((Sep.f1 (H3))).c4
    have HB := Lib.hid H3.below
    clear hb H3
    go_wp2
    go_ret
    exact ⟨rfl, HB.out⟩
  rw [decide_eq_true h5] at HE
  have hfin : decide ((⟨a1, a2, ops, a4⟩ : ResV) = ⟨a1, a2, ops', b4⟩) = (a4 == b4) := by subst h5; by_cases h : a4 = b4 <;> simp [h]
  rw [hfin]
  clear hfin
  have HG := Lib.hid h5
  clear h5
  go_enter Tryz.func41, Tryz.ntmps41
  go_wp2_with fail
  refine Calls.mono HE.out ?_
  rintro e w1 ⟨rfl, hb⟩
  have H3 := H2.out.kept hb
  obtain ⟨c0, c1, c2, c3, fz, lt⟩ := H3.c4
  obtain ⟨d0, d1, d2, d3, fz2, lt2⟩ := ((Sep.f1 (H3))).c4
  have HB := Lib.hid H3.below
  clear hb H3
  go_wp2
  go_ret
  exact ⟨rfl, HB.out⟩
end Go.Proofs.YtpeflgfldbjflaaGreatDoor
end
