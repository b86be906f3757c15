/- WHAT IS PROVED HERE: Package op: Result.Bytes, Answer; Package op: Answer. -/
import Derived.Test.YtpeflgfldbjflaaGreatDoorG08
import Derived.Test.YtpeflgfldbjflaaGreatDoorG20
set_option linter.unusedVariables false
set_option linter.unusedSimpArgs false
set_option linter.unusedSectionVars false
set_option linter.unnecessarySimpa false
section
namespace Go.Orch
open Go.RowKit
def readOut (r : Rd) : OutV × Rd :=
  let a := r.text 60
  let b := a.2.num 281474976710655
  (⟨a.1, (b.1 : Int)⟩, b.2)
def readOuts : Nat → Rd → List OutV × Rd
  | 0, r => ([], r)
  | n + 1, r => let p := readOuts n r
    let q := readOut p.2
    (p.1 ++ [q.1], q.2)
def answerOf (s : ByteArray) : ResV × Int :=
  let a := Rd.num ⟨s, false⟩ 1024
  let b := a.2.num 4
  let c := b.2.num 281474976710655
  let n := c.2.num 4
  let o := readOuts n.1 n.2
  if o.2.done = true then (⟨(a.1 : Int), (b.1 : Int), o.1, (c.1 : Int)⟩, 0) else (resZ, 2)
theorem readOut_left (r : Rd) : (readOut r).2.s.size ≤ r.s.size := Nat.le_trans (Rd.num_left _ _) (Rd.text_left _ _)
theorem readOuts_left : ∀ (n : Nat) (r : Rd), (readOuts n r).2.s.size ≤ r.s.size
  | 0, _ => Nat.le_refl _
  | n + 1, r => Nat.le_trans (readOut_left _) (readOuts_left n r)
theorem readOuts_len : ∀ (n : Nat) (r : Rd), (readOuts n r).1.length = n
  | 0, _ => rfl
  | n + 1, r => by simp [readOuts, readOuts_len n r]
theorem outB_len {o : OutV} (h1 : o.path.size ≤ 1000) : (outB o).length ≤ 1008 := by
  have := text1_len o.path
  simp only [outB, numB_len, textB, List.length_append, List.flatMap_cons, List.flatMap_nil, List.length_cons, List.length_nil]
  omega
theorem outsB_len : ∀ (xs : List OutV), (∀ o ∈ xs, o.path.size ≤ 1000) → (xs.flatMap outB).length ≤ 1008 * xs.length
  | [], _ => by simp
  | o :: xs, h => by
    have h1 := outB_len (h o (by simp))
    have h2 := outsB_len xs (fun o' ho => h o' (by simp [ho]))
    simp only [List.flatMap_cons, List.length_append, List.length_cons]
    omega
theorem outsB_take (xs : List OutV) (h : ∀ o ∈ xs, o.path.size ≤ 1000) (k : Nat) : ((xs.take k).flatMap outB).length ≤ 1008 * xs.length := by
  have := outsB_len (xs.take k) (fun o ho => h o (List.mem_of_mem_take ho))
  have h3 : (xs.take k).length ≤ xs.length := by rw [List.length_take]; omega
  omega
end Go.Orch
namespace Go.Proofs.YtpeflgfldbjflaaGreatDoor
open Go.RowKit Go.Shelf Go.Orch
theorem out_info : (Tryz.prog.info? 130).map (fun i => (i.zero, i.size, i.bytes)) = some (some (.agg #[.string ⟨#[]⟩, .int .i64 0]), 2, 24) := by kernel_rfl
set_option maxRecDepth 100000 in
set_option maxHeartbeats 4000000 in
theorem resBytes_any (r : ResV) (v : Value) (w : World) (hl : r.outs.length ≤ 1000) (hg : ∀ o ∈ r.outs, o.path.size ≤ 1000) (h : RowIn w outC v r.outs) :
    Calls Tryz.prog 81 #[.agg (resC r v).toArray] w fun e w' => e = .returned (.string r.bytes) ∧ Below w.heap.size w w' := by
  have HRow := Lib.hid h
  obtain ⟨p, k, rfl, h⟩ := h
  clear h
  unfold ResV.bytes ResV.lay
  obtain ⟨a1, a2, outs, a4⟩ := r
  simp only at hl hg HRow ⊢
  have HG := Lib.hid hg
  clear hg
  obtain ⟨L, hL0⟩ : ∃ L, L = numB [a1, a2, a4, (outs.length : Int)] ++ outs.flatMap outB := ⟨_, rfl⟩
  rw [← hL0]
  have HL0 := Lib.hid hL0
  clear hL0
  show Calls Tryz.prog 81 #[.agg #[.int .i64 a1, .int .i64 a2, .slice p outs.length k, .int .i64 a4]] w _
  have H1 := (Sep.self w).mkc #[.int .i64 a1, .int .i64 a2, .slice p outs.length k, .int .i64 a4] 47
  obtain ⟨c0, c1, c2, c3, fz, lt⟩ := H1.c4
  have H2 := Lib.hid H1
  clear H1 c0 c1 c2 c3 fz lt
  go_enter Tryz.func81, Tryz.ntmps81
  go_wp2_with fail
  have H2b := (H2.out.mkc #[.int .i64 a1, .int .i64 a2, .int .i64 a4, .int .i64 outs.length] 3).nilBytes
  simp only [World.size_alloc] at H2b
  refine Calls.mono (layNum_any _ _ _ _ [] _ [a1, a2, a4, (outs.length : Int)] (by simp) ((Sep.f1 (Sep.f1 (H2b))))) ?_
  rintro e w2 ⟨v2, rfl, H3⟩
  generalize w.heap.size = nb at *
  have H4 := Lib.hid ((Sep.f1 (H3))).drop
  rw [List.nil_append] at H4
  obtain ⟨c0, c1, c2, c3, fz, lt⟩ := ((Sep.f1 (H4.out))).c4
  clear H3 H2 H2b
  go_wp2_with fail
  go_loopw [3, 20] (fun u i wr => ∃ j : Nat, j ≤ outs.length ∧ i = .int .i64 j ∧ Sep w wr (bytesS u (numB [a1, a2, a4, (outs.length : Int)] ++ (outs.take j).flatMap outB) :: cellsAt nb #[.int .i64 a1, .int .i64 a2, .slice p outs.length k, .int .i64 a4] :: [])) (fun _ i _ => outs.length - (intOf i).toNat)
  case atStart => exact ⟨0, Nat.zero_le _, rfl, by simpa using H4.out⟩
  case round =>
    obtain ⟨j, hj, rfl, H5⟩ := hrel
    have hlen := outsB_take outs HG.out j
    have HLen := Lib.hid hlen
    clear hlen
    have H6 := Lib.hid H5
    by_cases hlt : j < outs.length
    · have hel : ∃ b off, p = some ⟨b, off, none⟩ ∧ ∀ i u, (outC outs[j])[i]? = some u → wr.cell? ⟨b, off + j * 2 + i, none⟩ = some u := by
        obtain ⟨p', c', hv, hq⟩ := HRow.out.kept H5.below
        injection hv with hv1 hv2 hv3
        subst hv1
        rcases hq with hq | ⟨b, off, rfl, hq⟩
        · subst hq; exact absurd hlt (by simp)
        · exact ⟨b, off, rfl, fun i u hu => row_elem (k := 2) (fun _ => rfl) hq j hlt i u hu⟩
      obtain ⟨b, off, rfl, hcell⟩ := hel
      have q0 := hcell 0 _ rfl
      have q1 := hcell 1 _ rfl
      rw [Nat.add_zero] at q0
      have s1 := HG.out outs[j] (List.getElem_mem hlt)
      have HT := Lib.hid (List.take_succ_eq_append_getElem hlt)
      clear hcell H5
      generalize outs[j] = o at *
      obtain ⟨b1, b2⟩ := o
      simp only at s1 q0 q1
      have hlti : (j : Int) < (outs.length : Int) := by omega
      have X := H6.out.mkc #[.string b1, .int .i64 b2] 130
      obtain ⟨e0, e1, fze, lte⟩ := X.drew.c2
      have t1 := text1_len b1
      have hbT : (numB [a1, a2, a4, (outs.length : Int)] ++ (outs.take j).flatMap outB).length + (textB [b1]).length ≤ 1000000000 := by
        have := HLen.out
        simp only [List.length_append, numB_len, List.length_cons, List.length_nil, textB, List.flatMap_cons, List.flatMap_nil]; omega
      have hbF : (numB [a1, a2, a4, (outs.length : Int)] ++ (outs.take j).flatMap outB ++ textB [b1]).length + 6 * [b2].length ≤ 1000000000 := by
        have := HLen.out
        simp only [List.length_append, numB_len, List.length_cons, List.length_nil, textB, List.flatMap_cons, List.flatMap_nil]; omega
      have hsT : ∀ s ∈ [b1], s.size ≤ 9000000000000000000 := by
        intro s hs
        simp only [List.mem_cons, List.not_mem_nil, or_false] at hs
        subst hs
        omega
      have HbT := Lib.hid hbT
      have HbF := Lib.hid hbF
      have HsT := Lib.hid hsT
      clear hbT hbF hsT t1
      have HX := Lib.hid X
      have E := Lib.hid (And.intro e0 (And.intro e1 fze))
      clear X e0 e1 fze lte
      go_wp2_with fail
      obtain ⟨e0, e1, fze⟩ := E.out
      have X1 := HX.out.drew.mkc #[.string b1] 9
      have X0 := HX.out.drew.mkc #[.int .i64 b2] 3
      have X2 := X0.mkc #[.string b1] 9
      have X3 := X1.mkc #[.int .i64 b2] 3
      simp only [World.size_alloc, World.size_drew] at X0 X1 X2 X3
      go_region_held3 (fun W => W.cell? ⟨wr.heap.size, 0, none⟩ = some (.string b1) ∧ W.cell? ⟨wr.heap.size, 1, none⟩ = some (.int .i64 b2))
        (first
          | exact ⟨e0, e1⟩
          | exact ⟨((Sep.f1 (X1))).c 0 rfl, ((Sep.f1 (X1))).c 1 rfl⟩
          | exact ⟨((Sep.f1 (X0))).c 0 rfl, ((Sep.f1 (X0))).c 1 rfl⟩
          | exact ⟨((Sep.f2 (X2))).c 0 rfl, ((Sep.f2 (X2))).c 1 rfl⟩
          | exact ⟨((Sep.f2 (X3))).c 0 rfl, ((Sep.f2 (X3))).c 1 rfl⟩
          | exact ⟨((Sep.f2 (H9))).c 0 rfl, ((Sep.f2 (H9))).c 1 rfl⟩
          | exact ⟨((Sep.f3 (H9))).c 0 rfl, ((Sep.f3 (H9))).c 1 rfl⟩
          | exact ⟨((Sep.f3 ((H9.mkc _ _)))).c 0 rfl, ((Sep.f3 ((H9.mkc _ _)))).c 1 rfl⟩
          | exact ⟨((Sep.f3 (H10))).c 0 rfl, ((Sep.f3 (H10))).c 1 rfl⟩)
        (first
          | (go_at_call 71; refine Calls.mono (layText_any _ _ _ _ _ _ [b1] HbT.out HsT.out (by simp) ((Sep.f2 (X1)))) ?_; rintro e w9 ⟨v9, rfl, H9⟩)
          | (go_at_call 71; refine Calls.mono (layText_any _ _ _ _ _ _ [b1] HbT.out HsT.out (by simp) ((Sep.f3 (X2)))) ?_; rintro e w9 ⟨v9, rfl, H9⟩)
          | (go_at_call 71; refine Calls.mono (layText_any _ _ _ _ _ _ [b1] HbT.out HsT.out (by simp) ((Sep.f3 (Sep.f1 (X3))))) ?_; rintro e w9 ⟨v9, rfl, H9⟩)
          | (go_at_call 69; refine Calls.mono (layNum_any _ _ _ _ _ _ [b2] HbF.out ((Sep.f1 ((H9.mkc _ _))))) ?_; rintro e w10 ⟨v10, rfl, H10⟩)
          | (go_at_call 69; refine Calls.mono (layNum_any _ _ _ _ _ _ [b2] HbF.out ((Sep.f1 (Sep.f2 (H9))))) ?_; rintro e w10 ⟨v10, rfl, H10⟩))
      all_goals
        have H11 := Lib.hid (((Sep.f3 (Sep.f3 (Sep.f3 (H10))))).drop.drop.drop)
        clear H9 H10 X0 X1 X2 X3 e0 e1 fze
        go_wp2_with fail
        go_roundw
        case rel =>
          refine ⟨j + 1, hlt, by go_num, ?_⟩
          rw [HT.out, List.flatMap_append, List.flatMap_cons, List.flatMap_nil, List.append_nil]
          rw [show numB [a1, a2, a4, (outs.length : Int)] ++ ((outs.take j).flatMap outB ++ outB ⟨b1, b2⟩) = numB [a1, a2, a4, (outs.length : Int)] ++ (outs.take j).flatMap outB ++ textB [b1] ++ numB [b2] from by simp only [outB, List.append_assoc]]
          exact H11.out
        case measure => simp [intOf]; omega
    · obtain rfl : j = outs.length := by omega
      have hlti : ¬ (outs.length : Int) < (outs.length : Int) := by omega
      have H7 := H6.out
      rw [List.take_length, ← HL0.out] at H7
      obtain ⟨p10, k10, rfl⟩ : ∃ p c, u3 = .slice p L.length c := H7.rowSlice
      have hcv := conv_string (P := Tryz.prog) 121 9 5 Tryz.underlying121 Tryz.underlying5 Tryz.underlying9 H7
      have HBl := Lib.hid H7.below
      clear H5 H6 H7 HLen
      go_wp2
      go_ret
      exact ⟨rfl, HBl.out⟩
end Go.Proofs.YtpeflgfldbjflaaGreatDoor
end
section
namespace Go.Proofs.YtpeflgfldbjflaaGreatDoor
open Go.RowKit Go.Shelf Go.Orch
abbrev ldOuts : Op := Op.load 45 (Operand.tmp 19)
set_option maxRecDepth 100000 in
set_option maxHeartbeats 4000000 in
theorem opAnswer_any (R w : World) (l : List HP) (s : ByteArray) (hs : s.size ≤ maxLen) (H : Sep R w l) :
    Calls Tryz.prog 38 #[.string s] w fun e w' => ∃ v, e = .returned (.tuple #[.agg (resC (answerOf s).1 v).toArray, .int .i64 (answerOf s).2]) ∧ Sep R w' (outS v (answerOf s).1.outs :: l) := by
  have hE : answerOf s = answerOf s := rfl
  conv at hE => rhs; unfold answerOf; simp only
  obtain ⟨a, ha⟩ : ∃ a, a = Rd.num ⟨s, false⟩ 1024 := ⟨_, rfl⟩
  rw [← ha] at hE
  obtain ⟨b, hb⟩ : ∃ b, b = a.2.num 4 := ⟨_, rfl⟩
  rw [← hb] at hE
  obtain ⟨c, hc⟩ : ∃ c, c = b.2.num 281474976710655 := ⟨_, rfl⟩
  rw [← hc] at hE
  obtain ⟨n, hn⟩ : ∃ n, n = c.2.num 4 := ⟨_, rfl⟩
  rw [← hn] at hE
  have la : a.2.s.size ≤ maxLen := by rw [ha]; exact Nat.le_trans (Rd.num_left _ _) hs
  have lb : b.2.s.size ≤ maxLen := by rw [hb]; exact Nat.le_trans (Rd.num_left _ _) la
  have lc : c.2.s.size ≤ maxLen := by rw [hc]; exact Nat.le_trans (Rd.num_left _ _) lb
  have ln : n.2.s.size ≤ maxLen := by rw [hn]; exact Nat.le_trans (Rd.num_left _ _) lc
  have hn4 : n.1 ≤ 4 := by rw [hn]; exact Rd.num_le _ _
  have LN := Lib.hid ln
  have N1 := Lib.hid (fun R w l rb H => ha ▸ num_any R w l rb 1024 ⟨s, false⟩ hs H)
  have N2 := Lib.hid (fun R w l rb H => hb ▸ num_any R w l rb 4 a.2 la H)
  have N3 := Lib.hid (fun R w l rb H => hc ▸ num_any R w l rb 281474976710655 b.2 lb H)
  have N5 := Lib.hid (fun R w l rb H => hn ▸ num_any R w l rb 4 c.2 lc H)
  clear ha hb hc hn la lb lc ln
  have HE := Lib.hid hE
  clear hE
  generalize answerOf s = rc at *
  have H1 := Lib.hid H
  clear H
  go_enter Tryz.func38, Tryz.ntmps38
  go_wp2_with fail
  refine Calls.mono (read_any R _ _ s (H1.out.mkc _ _)) ?_
  rintro e w1 ⟨rb, rfl, H2⟩
  have H3 := Lib.hid H2
  clear H2
  generalize w.heap.size = zb at *
  go_wp2_with fail
  refine Calls.mono (N1.out _ _ _ _ H3.out) ?_
  rintro e w2 ⟨rfl, H4⟩
  have H5 := Lib.hid H4
  clear H4 H3
  go_wp2_with fail
  refine Calls.mono (N2.out _ _ _ _ H5.out) ?_
  rintro e w3 ⟨rfl, H4⟩
  have H6 := Lib.hid H4
  clear H4 H5
  go_wp2_with fail
  refine Calls.mono (N3.out _ _ _ _ H6.out) ?_
  rintro e w4 ⟨rfl, H4⟩
  have H8 := Lib.hid H4
  clear H4 H6
  go_wp2_with fail
  refine Calls.mono (N5.out _ _ _ _ ((Sep.f1 ((H8.out.mkc _ _))))) ?_
  rintro e w6 ⟨rfl, H4⟩
  have H9 := Lib.hid (H4.nilRec (sz := 2) (enc := outC))
  clear H4 H8 N1 N2 N3 N5
  generalize w4.heap.size = cb at *
  go_wp2_with fail
  go_loopw [17] (fun i wr => ∃ j : Nat, j ≤ n.1 ∧ i = .int .i64 j ∧ ∃ p k, Sep R wr (outS (.slice p (readOuts j n.2).1.length k) (readOuts j n.2).1 :: rdAt rb (readOuts j n.2).2 :: cellsAt cb #[.int .i64 a.1, .int .i64 b.1, .slice p (readOuts j n.2).1.length k, .int .i64 c.1] :: cellsAt zb #[.int .i64 0, .int .i64 0, .slice none 0 0, .int .i64 0] :: l)) (fun i _ => n.1 - (intOf i).toNat)
  case atStart => exact ⟨0, Nat.zero_le _, rfl, none, 0, H9.out⟩
  case round =>
    obtain ⟨j, hj, rfl, p, k, H10⟩ := hrel
    by_cases hlt : j < n.1
    · obtain ⟨o, ho⟩ : ∃ o, o = readOuts j n.2 := ⟨_, rfl⟩
      have hstep : readOuts (j + 1) n.2 = (o.1 ++ [(readOut o.2).1], (readOut o.2).2) := by rw [ho]; rfl
      have lo : o.2.s.size ≤ maxLen := by rw [ho]; exact Nat.le_trans (readOuts_left _ _) LN.out
      have lol : o.1.length ≤ 4 := by rw [ho, readOuts_len]; omega
      rw [← ho] at H10
      clear ho
      obtain ⟨x1, h1⟩ : ∃ x, x = o.2.text 60 := ⟨_, rfl⟩
      obtain ⟨x2, h2⟩ : ∃ x, x = x1.2.num 281474976710655 := ⟨_, rfl⟩
      have hq : readOut o.2 = (⟨x1.1, (x2.1 : Int)⟩, x2.2) := by rw [h2, h1]; rfl
      rw [hq] at hstep
      have HS := Lib.hid hstep
      clear hstep hq
      have l1 : x1.2.s.size ≤ maxLen := by rw [h1]; exact Nat.le_trans (Rd.text_left _ _) lo
      have N1 := Lib.hid (fun R w l rb H => h1 ▸ text_any R w l rb 60 o.2 lo H)
      have N2 := Lib.hid (fun R w l rb H => h2 ▸ num_any R w l rb 281474976710655 x1.2 l1 H)
      clear h1 h2 lo l1
      have H11 := Lib.hid H10
      clear H10
      have hlti : (j : Int) < (n.1 : Int) := by omega
      have hb1 : o.1.length + [(⟨x1.1, (x2.1 : Int)⟩ : OutV)].length ≤ maxLen := by simp [maxLen]; omega
      have hb2 : (o.1.length + [(⟨x1.1, (x2.1 : Int)⟩ : OutV)].length) * 24 ≤ 140737488355328 := by simp; omega
      go_wp2_with fail
      obtain ⟨q0, q1, q2, q3, qfz, qlt⟩ := ((Sep.f2 (H11.out.drew))).c4
      have hll : (o.1 ++ [(⟨x1.1, (x2.1 : Int)⟩ : OutV)]).length = o.1.length + 1 := by simp
      have HLL := Lib.hid hll
      clear hll
      rw [show Op.load 45 (Operand.tmp 19) = ldOuts from rfl]
      go_region_held3 (fun W => True)
        (first
          | trivial)
        (first
          | (go_at_call 33; refine Calls.mono (N1.out _ _ _ _ ((Sep.f1 (H11.out.drew)))) ?_; rintro e w7 ⟨rfl, H12⟩; obtain ⟨g0, g1, g2, g3, gfz, glt⟩ := ((Sep.f2 (H12))).c4)
          | (go_at_call 32; refine Calls.mono (N2.out _ _ _ _ H12) ?_; rintro e w8 ⟨rfl, H13⟩; obtain ⟨f0, f1, f2, f3, ffz, flt⟩ := ((Sep.f2 (H13))).c4; have f2a : ∀ oo, (w8.alloc oo).cell? ⟨cb, 2, none⟩ = some (.slice p o.1.length k) := (fun oo => Lib.cell?_alloc_some oo f2); have H14 := H13.mkc #[.string x1.1, .int .i64 x2.1] 130)
          | (refine step_append_rec (sz := 2) (enc := outC) (by decide) (fun _ => rfl) rfl _ _ 45 45 130 rfl Tryz.underlying45 Tryz.underlying45 (.inr ⟨_, rfl⟩) out_info rfl (xs := o.1) (news := [⟨x1.1, (x2.1 : Int)⟩]) rfl rfl (Src.cells _ 0 _ _ rfl (fun j v hj => H14.c (0 + j) (by simpa [outC] using hj)) (by simp [outC, Value.oneCell'])) ((Sep.f2 (H14))) hb1 hb2 ?_; intro p9 c9 w9 H15; obtain ⟨e0, e1, e2, e3, fz9, lt9⟩ := ((Sep.f3 (H15))).c4))
      all_goals
        have X0 := ((Sep.f3 (H15))).st 2 (.slice p9 (o.1 ++ [(⟨x1.1, (x2.1 : Int)⟩ : OutV)]).length c9)
        have X := Lib.hid ((Sep.f2 (Sep.f2 (((Sep.f2 (X0))).drop))))
        clear X0 q0 q1 q2 q3 qfz qlt e0 e1 e2 e3 fz9 lt9 H15 hb1 hb2
        go_wp2_with fail
        go_roundw
        case rel =>
          refine ⟨j + 1, hlt, by go_num, p9, c9, ?_⟩
          rw [HS.out]
          have h21 := X.out
          simp only [HLL.out] at h21 ⊢
          exact h21
        case measure => simp [intOf]; omega
    · obtain rfl : j = n.1 := by omega
      have hlti : ¬ (n.1 : Int) < (n.1 : Int) := by omega
      generalize readOuts n.1 n.2 = o at *
      have H11 : Sep R wr (rdAt rb o.2 :: outS (.slice p o.1.length k) o.1 :: cellsAt cb (resC ⟨(a.1 : Int), (b.1 : Int), o.1, (c.1 : Int)⟩ (.slice p o.1.length k)).toArray :: cellsAt zb #[.int .i64 0, .int .i64 0, .slice none 0 0, .int .i64 0] :: l) := (Sep.f1 (H10))
      have hdn := done_any R _ _ rb o.2 H11
      have HDn := Lib.hid hdn
      have H17 := Lib.hid H11
      obtain ⟨wo, rfl⟩ : ∃ wo : World, wo = wr := ⟨_, rfl⟩
      clear H10 H11 hdn
      go_wp2_with fail
      refine Calls.mono HDn.out ?_
      rintro e w10 ⟨rfl, rfl⟩
      have H18 := H17.out
      obtain ⟨c0, c1, c2, c3, fz, lt⟩ := ((Sep.f2 (H18))).c4
      obtain ⟨z0, z1, z2, z3, zfz, zlt⟩ := ((Sep.f3 (H18))).c4
      clear HDn H18
      cases hd : o.2.done with
      | false =>
        have HRC : Hid (rc = (resZ, 2)) := Lib.hid (by rw [HE.out, if_neg]; simp [hd])
        clear HE hd
        go_wp2
        refine bodyPost_ret (v := .tuple #[.agg (resC resZ (.slice none 0 0)).toArray, .int .i64 2]) (by simp [results, Tryz.results38, go_sem, resC, resZ, z0, z1, z2, z3, zfz, zlt]) rfl ⟨.slice none 0 0, ?_⟩
        rw [HRC.out]
        refine ⟨rfl, ?_⟩
        exact (((((Sep.f3 (H17.out))).st 0 _).st 1 _).st 2 _).st 3 _ |>.drop.drop.drop.drop.nilRec (sz := 2) (enc := outC)
      | true =>
        have HRC : Hid (rc = (⟨(a.1 : Int), (b.1 : Int), o.1, (c.1 : Int)⟩, 0)) := Lib.hid (by rw [HE.out, if_pos hd])
        clear HE hd
        go_wp2
        refine bodyPost_ret (v := .tuple #[.agg (resC ⟨(a.1 : Int), (b.1 : Int), o.1, (c.1 : Int)⟩ (.slice p o.1.length k)).toArray, .int .i64 0]) (by simp [results, Tryz.results38, go_sem, resC, resZ, z0, z1, z2, z3, zfz, zlt]) rfl ⟨.slice p o.1.length k, ?_⟩
        rw [HRC.out]
        refine ⟨rfl, ?_⟩
        exact ((Sep.f1 (((((((Sep.f3 (H17.out))).st 0 _).st 1 _).st 2 _).st 3 _ |>.drop.drop)))).drop
end Go.Proofs.YtpeflgfldbjflaaGreatDoor
end
