/- WHAT IS PROVED HERE: Package op: Cmd.Bytes. -/
import Derived.Test.YtpeflgfldbjflaaGreatDoorG06
import Derived.Deep.RegionHeld3
import Derived.Laws.IdiomStrings
import Derived.Laws.BytesArg
set_option linter.unusedVariables false
set_option linter.unusedSimpArgs false
set_option linter.unusedSectionVars false
set_option linter.unnecessarySimpa false
section
namespace Go.Orch
open Go.RowKit
theorem Sep.nilBytes {R w : World} {l : List HP} (H : Sep R w l) : Sep R w (bytesS (.slice none 0 0) [] :: l) := H.nilRow 1
theorem conv_string {P : Program} {R w : World} {l : List HP} (src dst e : TypeId) {v : Value} {xs : List UInt8} (hs : P.underlying src = some (.slice e)) (he : P.underlying e = some (.int .u8)) (hd : P.underlying dst = some .string) (H : Sep R w (bytesS v xs :: l)) :
    (convert src dst v).run P w = .ok (.string (bytesOfB xs)) w := by
  have H' : Sep R w (recS 1 (fun b => [byteV b]) v xs :: l) := by
    unfold recS
    rw [show xs.flatMap (fun b => [byteV b]) = xs.map byteV by clear H; induction xs with
      | nil => rfl
      | cons x xs ih => rw [List.flatMap_cons, List.map_cons, ih]; rfl]
    exact H
  rcases H'.recOpen with ⟨rfl, rfl, _⟩ | ⟨b, cap, pre, post, rfl, _, _, _, _, H1⟩
  · exact run_convert_bytes_nil w src e hs he 0 0 dst hd
  · refine run_convert_bytes_back w src dst e _ cap xs hs he hd (fun j hj => ?_)
    rw [Addr.add_lit]
    have := H1.elem (sz := 1) (fun _ => rfl) j hj 0 (v := byteV xs[j]) rfl
    simpa [byteV] using this
theorem right_ops {c : CmdV} (h : c.right = true) : c.ops.length ≤ 4 ∧ c.path.size ≤ 60 ∧ ∀ o ∈ c.ops, o.path.size ≤ 60 ∧ o.data.size ≤ 61 ∧ -1 ≤ o.version ∧ o.version < 281474976710655 := by
  simp only [CmdV.right, most, Bool.and_eq_true, decide_eq_true_eq, Bool.not_eq_true', List.any_eq_false] at h
  obtain ⟨_, _, _, _, h5, h6, h7⟩ := h
  refine ⟨h5, h7, fun o ho => ?_⟩
  have := h6 o ho
  simp only [OpV.right, most, Bool.not_eq_true', Bool.not_eq_false, Bool.and_eq_true, decide_eq_true_eq] at this
  exact ⟨this.2.2.1, this.2.2.2.1, this.2.2.2.2.1, this.2.2.2.2.2⟩
theorem text1_len (s : ByteArray) : (text1 s).length ≤ 2 + s.size := by
  unfold text1 clipT
  simp [ByteArray.size_extract]
  omega
theorem opB_len {o : OpV} (h1 : o.path.size ≤ 60) (h2 : o.data.size ≤ 61) : (opB o).length ≤ 139 := by
  have := text1_len o.path
  have := text1_len o.data
  simp only [opB, numB_len, textB, flagB, List.length_append, List.flatMap_cons, List.flatMap_nil, List.length_map, List.length_cons, List.length_nil]
  omega
theorem opsB_len : ∀ (ops : List OpV), (∀ o ∈ ops, o.path.size ≤ 60 ∧ o.data.size ≤ 61 ∧ -1 ≤ o.version ∧ o.version < 281474976710655) → (ops.flatMap opB).length ≤ 139 * ops.length
  | [], _ => by simp
  | o :: ops, h => by
    have h1 := opB_len (h o (by simp)).1 (h o (by simp)).2.1
    have h2 := opsB_len ops (fun o' ho => h o' (by simp [ho]))
    simp only [List.flatMap_cons, List.length_append, List.length_cons]
    omega
theorem opsB_take (ops : List OpV) (h : ∀ o ∈ ops, o.path.size ≤ 60 ∧ o.data.size ≤ 61 ∧ -1 ≤ o.version ∧ o.version < 281474976710655) (k : Nat) : ((ops.take k).flatMap opB).length ≤ 139 * ops.length := by
  have := opsB_len (ops.take k) (fun o ho => h o (List.mem_of_mem_take ho))
  have h2 := List.length_take_le k ops
  have h3 : (ops.take k).length ≤ ops.length := by rw [List.length_take]; omega
  omega
end Go.Orch
namespace Go.Proofs.YtpeflgfldbjflaaGreatDoor
open Go.RowKit Go.Shelf Go.Orch
set_option maxRecDepth 100000 in
set_option maxHeartbeats 4000000 in
theorem cmdBytes_any (c : CmdV) (v : Value) (w : World) (hl : c.ops.length ≤ 1000000) (h : RowIn w opC v c.ops) :
    Calls Tryz.prog 45 #[.agg (cmdC c v).toArray] w fun e w' => e = .returned (.tuple #[.string c.bytes.1, .int .i64 c.bytes.2]) ∧ Below w.heap.size w w' := by
  have HW := Lib.hid (fun W (hb : Below w.heap.size w W) => cmdRight_any c v W hl (h.kept hb))
  unfold CmdV.bytes
  cases hr : c.right with
  | false =>
    rw [hr] at HW
    rw [if_pos rfl]
    obtain ⟨p, k, rfl, h⟩ := h
    clear h hr
    obtain ⟨a1, a2, a3, a4, ops, a6, a7, a8⟩ := c
    have HW2 : Hid _ := Lib.hid (HW.out _ ((Below.refl _ _).alloc (Nat.le_refl _) (.cells #[.int .i64 a1, .int .i64 a2, .int .i64 a3, .int .i64 a4, .slice p ops.length k, .string a6, .bool a7, .bool a8] 57)))
    clear HW
    show Calls Tryz.prog 45 #[.agg #[.int .i64 a1, .int .i64 a2, .int .i64 a3, .int .i64 a4, .slice p ops.length k, .string a6, .bool a7, .bool a8]] w _
    go_enter Tryz.func45, Tryz.ntmps45
    go_wp2_with fail
    refine Calls.mono HW2.out ?_
    rintro e w1 ⟨rfl, hb⟩
    have HB := Lib.hid hb
    clear hb
    go_wp2
    go_ret2
    exact ⟨rfl, ((Below.refl _ _).alloc (Nat.le_refl _) _).trans (HB.out.mono (by simp))⟩
  | true =>
    rw [hr] at HW
    rw [if_neg (by simp)]
    obtain ⟨g1, g2, g3⟩ := right_ops hr
    have HRow := Lib.hid h
    obtain ⟨p, k, rfl, h⟩ := h
    clear h hr
    unfold CmdV.lay
    obtain ⟨a1, a2, a3, a4, ops, a6, a7, a8⟩ := c
    simp only at g1 g2 g3 HRow ⊢
    have HG := Lib.hid g3
    clear g3
    obtain ⟨L, hL0⟩ : ∃ L, L = numB [a1, a2, a3, a4, (ops.length : Int)] ++ ops.flatMap opB ++ textB [a6] ++ flagB [a7, a8] := ⟨_, rfl⟩
    rw [← hL0]
    have HL0 := Lib.hid hL0
    clear hL0
    obtain ⟨rs, hrs⟩ : ∃ rs : ByteArray × Int, rs = if 488 < L.length then (⟨#[]⟩, 3) else (bytesOfB L, 0) := ⟨_, rfl⟩
    rw [← hrs]
    have HRs := Lib.hid hrs
    clear hrs
    have HW2 : Hid _ := Lib.hid (HW.out _ ((Below.refl _ _).alloc (Nat.le_refl _) (.cells #[.int .i64 a1, .int .i64 a2, .int .i64 a3, .int .i64 a4, .slice p ops.length k, .string a6, .bool a7, .bool a8] 57)))
    clear HW
    show Calls Tryz.prog 45 #[.agg #[.int .i64 a1, .int .i64 a2, .int .i64 a3, .int .i64 a4, .slice p ops.length k, .string a6, .bool a7, .bool a8]] w _
    go_enter Tryz.func45, Tryz.ntmps45
    go_wp2_with fail
    refine Calls.mono HW2.out ?_
    rintro e w1 ⟨rfl, hb⟩
    have H1 := (((Sep.self w).mkc #[.int .i64 a1, .int .i64 a2, .int .i64 a3, .int .i64 a4, .slice p ops.length k, .string a6, .bool a7, .bool a8] 57).kept hb)
    generalize w.heap.size = nb at H1 ⊢
    obtain ⟨c0, c1, c2, c3, c4, c5, c6, c7, fz, lt⟩ := H1.c8
    have H2 := Lib.hid H1
    clear H1 hb HW2
    go_wp2_with fail
    have hk5 : (6 : Nat) * 5 ≤ 1000000000 := by omega
    refine Calls.mono (layNum_any _ _ _ _ [] _ [a1, a2, a3, a4, (ops.length : Int)] (by simp) ((Sep.f1 (Sep.f1 (((H2.out.mkc _ _).nilBytes)))))) ?_
    rintro e w2 ⟨v2, rfl, H3⟩
    have H4 := Lib.hid (((Sep.f2 (Sep.f2 (Sep.f1 (H3))))))
    rw [List.nil_append] at H4
    clear H3 c0 c1 c2 c3 c4 c5 c6 c7 fz lt
    obtain ⟨c0, c1, c2, c3, c4, c5, c6, c7, fz, lt⟩ := ((Sep.f1 (H4.out))).c8
    go_wp2_with fail
    go_loopw [4, 26] (fun u i wr => ∃ j : Nat, j ≤ ops.length ∧ i = .int .i64 j ∧ ∃ t, Sep w wr (bytesS u (numB [a1, a2, a3, a4, (ops.length : Int)] ++ (ops.take j).flatMap opB) :: cellsAt nb #[.int .i64 a1, .int .i64 a2, .int .i64 a3, .int .i64 a4, .slice p ops.length k, .string a6, .bool a7, .bool a8] :: [t])) (fun _ i _ => ops.length - (intOf i).toNat)
    case atStart => exact ⟨0, Nat.zero_le _, rfl, _, by simpa using H4.out⟩
    case round =>
      obtain ⟨j, hj, rfl, t, H5⟩ := hrel
      have hlen := opsB_take ops HG.out j
      have HLen := Lib.hid hlen
      clear hlen
      have H6 := Lib.hid H5
      by_cases hlt : j < ops.length
      · have hel : ∃ b off, p = some ⟨b, off, none⟩ ∧ ∀ i u, (opC ops[j])[i]? = some u → wr.cell? ⟨b, off + j * 6 + i, none⟩ = some u := by
          obtain ⟨p', c', hv, hq⟩ := HRow.out.kept H5.below
          injection hv with hv1 hv2 hv3
          subst hv1
          rcases hq with hq | ⟨b, off, rfl, hq⟩
          · subst hq; exact absurd hlt (by simp)
          · exact ⟨b, off, rfl, fun i u hu => row_elem (k := 6) (fun _ => rfl) hq j hlt i u hu⟩
        obtain ⟨b, off, rfl, hcell⟩ := hel
        have q0 := hcell 0 _ rfl
        have q1 := hcell 1 _ rfl
        have q2 := hcell 2 _ rfl
        have q3 := hcell 3 _ rfl
        have q4 := hcell 4 _ rfl
        have q5 := hcell 5 _ rfl
        rw [Nat.add_zero] at q0
        obtain ⟨s1, s2, s3, s4⟩ := HG.out ops[j] (List.getElem_mem hlt)
        have HT := Lib.hid (List.take_succ_eq_append_getElem hlt)
        clear hcell H5
        generalize ops[j] = o at *
        obtain ⟨b1, b2, b3, b4, b5, b6⟩ := o
        simp only at s1 s2 s3 s4 q0 q1 q2 q3 q4 q5
        have hlti : (j : Int) < (ops.length : Int) := by omega
        go_wp2_with fail
        have H6b := (H6.out.mkc #[.int .i64 b1, .string b2, .string b3, .int .i64 b4, .bool b5, .bool b6] 91).mkc #[.int .i64 b1, .int .i64 (b4 + 1)] 3
        simp only [World.size_alloc] at H6b
        refine Calls.mono (layNum_any _ _ _ _ _ _ [b1, b4 + 1] ?cA ((Sep.f2 (H6b)))) ?_
        case cA => have := HLen.out; simp only [List.length_append, numB_len, List.length_cons, List.length_nil]; omega
        rintro e w3 ⟨v3, rfl, H7⟩
        generalize wr.heap.size = nq at *
        obtain ⟨e0, e1, e2, e3, e4, e5, fze, lte⟩ := ((Sep.f2 (H7))).c6
        have H8 := Lib.hid ((Sep.f1 (H7))).drop
        clear H6b H7 q0 q1 q2 q3 q4 q5 e0 e1 e2 e3 e4 e5 fze lte
        go_wp2_with fail
        obtain ⟨e0, e1, e2, e3, e4, e5, fze, lte⟩ := ((Sep.f1 (H8.out.drew))).c6
        have X1 := H8.out.drew.mkc #[.string b2, .string b3] 9
        have X0 := H8.out.drew.mkc #[.bool b5, .bool b6] 4
        have X2 := X0.mkc #[.string b2, .string b3] 9
        have X3 := X1.mkc #[.bool b5, .bool b6] 4
        simp only [World.size_alloc] at X2 X3
        have t1 := text1_len b2
        have t2 := text1_len b3
        have hbT : (numB [a1, a2, a3, a4, (ops.length : Int)] ++ (ops.take j).flatMap opB ++ numB [b1, b4 + 1]).length + (textB [b2, b3]).length ≤ 1000000000 := by
          have := HLen.out
          simp only [List.length_append, numB_len, List.length_cons, List.length_nil, textB, List.flatMap_cons, List.flatMap_nil]; omega
        have hbF : (numB [a1, a2, a3, a4, (ops.length : Int)] ++ (ops.take j).flatMap opB ++ numB [b1, b4 + 1] ++ textB [b2, b3]).length + [b5, b6].length ≤ 1000000000 := by
          have := HLen.out
          simp only [List.length_append, numB_len, List.length_cons, List.length_nil, textB, List.flatMap_cons, List.flatMap_nil]; omega
        have hsT : ∀ s ∈ [b2, b3], s.size ≤ 9000000000000000000 := by
          intro s hs
          simp only [List.mem_cons, List.not_mem_nil, or_false] at hs
          rcases hs with rfl | rfl <;> omega
        have HbT := Lib.hid hbT
        have HbF := Lib.hid hbF
        have HsT := Lib.hid hsT
        clear hbT hbF hsT t1 t2
        go_region_held3 (fun W => W.cell? ⟨nq, 1, none⟩ = some (.string b2) ∧ W.cell? ⟨nq, 2, none⟩ = some (.string b3) ∧ W.cell? ⟨nq, 4, none⟩ = some (.bool b5) ∧ W.cell? ⟨nq, 5, none⟩ = some (.bool b6))
          (first
            | exact ⟨e1, e2, e4, e5⟩
            | exact ⟨((Sep.f2 (X1))).c 1 rfl, ((Sep.f2 (X1))).c 2 rfl, ((Sep.f2 (X1))).c 4 rfl, ((Sep.f2 (X1))).c 5 rfl⟩
            | exact ⟨((Sep.f2 (X0))).c 1 rfl, ((Sep.f2 (X0))).c 2 rfl, ((Sep.f2 (X0))).c 4 rfl, ((Sep.f2 (X0))).c 5 rfl⟩
            | exact ⟨((Sep.f3 (X2))).c 1 rfl, ((Sep.f3 (X2))).c 2 rfl, ((Sep.f3 (X2))).c 4 rfl, ((Sep.f3 (X2))).c 5 rfl⟩
            | exact ⟨((Sep.f3 (X3))).c 1 rfl, ((Sep.f3 (X3))).c 2 rfl, ((Sep.f3 (X3))).c 4 rfl, ((Sep.f3 (X3))).c 5 rfl⟩
            | exact ⟨((Sep.f2 (H9))).c 1 rfl, ((Sep.f2 (H9))).c 2 rfl, ((Sep.f2 (H9))).c 4 rfl, ((Sep.f2 (H9))).c 5 rfl⟩
            | exact ⟨((Sep.f3 (H9))).c 1 rfl, ((Sep.f3 (H9))).c 2 rfl, ((Sep.f3 (H9))).c 4 rfl, ((Sep.f3 (H9))).c 5 rfl⟩
            | exact ⟨((Sep.f3 ((H9.mkc _ _)))).c 1 rfl, ((Sep.f3 ((H9.mkc _ _)))).c 2 rfl, ((Sep.f3 ((H9.mkc _ _)))).c 4 rfl, ((Sep.f3 ((H9.mkc _ _)))).c 5 rfl⟩
            | exact ⟨((Sep.f3 (H10))).c 1 rfl, ((Sep.f3 (H10))).c 2 rfl, ((Sep.f3 (H10))).c 4 rfl, ((Sep.f3 (H10))).c 5 rfl⟩)
          (first
            | (go_at_call 71; refine Calls.mono (layText_any _ _ _ _ _ _ [b2, b3] HbT.out HsT.out (by simp) ((Sep.f1 (X1)))) ?_; rintro e w9 ⟨v9, rfl, H9⟩)
            | (go_at_call 71; refine Calls.mono (layText_any _ _ _ _ _ _ [b2, b3] HbT.out HsT.out (by simp) ((Sep.f2 (X2)))) ?_; rintro e w9 ⟨v9, rfl, H9⟩)
            | (go_at_call 71; refine Calls.mono (layText_any _ _ _ _ _ _ [b2, b3] HbT.out HsT.out (by simp) ((Sep.f2 (Sep.f1 (X3))))) ?_; rintro e w9 ⟨v9, rfl, H9⟩)
            | (go_at_call 70; refine Calls.mono (layFlag_any _ _ _ _ _ _ [b5, b6] HbF.out ((Sep.f1 ((H9.mkc _ _))))) ?_; rintro e w10 ⟨v10, rfl, H10⟩)
            | (go_at_call 70; refine Calls.mono (layFlag_any _ _ _ _ _ _ [b5, b6] HbF.out ((Sep.f1 (Sep.f2 (H9))))) ?_; rintro e w10 ⟨v10, rfl, H10⟩))
        all_goals
          have H11 := Lib.hid (((Sep.f3 (Sep.f3 (Sep.f3 (H10))))).drop.drop.drop)
          clear H9 H10 X0 X1 X2 X3 e0 e1 e2 e3 e4 e5 fze lte
          go_wp2_with fail
          go_roundw
          case rel =>
            refine ⟨j + 1, hlt, by go_num, t, ?_⟩
            rw [HT.out, List.flatMap_append, List.flatMap_cons, List.flatMap_nil, List.append_nil]
            rw [show numB [a1, a2, a3, a4, (ops.length : Int)] ++ ((ops.take j).flatMap opB ++ opB ⟨b1, b2, b3, b4, b5, b6⟩) = numB [a1, a2, a3, a4, (ops.length : Int)] ++ (ops.take j).flatMap opB ++ numB [b1, b4 + 1] ++ textB [b2, b3] ++ flagB [b5, b6] from by simp only [opB, List.append_assoc]]
            exact H11.out
          case measure => simp [intOf]; omega
      · obtain rfl : j = ops.length := by omega
        have hlti : ¬ (ops.length : Int) < (ops.length : Int) := by omega
        obtain ⟨c0, c1, c2, c3, c4, c5, c6, c7, fz, lt⟩ := ((Sep.f1 (H5))).c8
        clear H5
        have H7 := H6.out
        rw [List.take_length] at H7 HLen
        have H8 := Lib.hid H7
        clear H7 H6
        go_wp2_with fail
        obtain ⟨e0, e1, e2, e3, e4, e5, e6, e7, fze, lte⟩ := ((Sep.f1 (H8.out.drew))).c8
        have X1 := H8.out.drew.mkc #[.string a6] 9
        have X0 := H8.out.drew.mkc #[.bool a7, .bool a8] 4
        have X2 := X0.mkc #[.string a6] 9
        have X3 := X1.mkc #[.bool a7, .bool a8] 4
        simp only [World.size_alloc] at X2 X3
        have t1 := text1_len a6
        have hbT : (numB [a1, a2, a3, a4, (ops.length : Int)] ++ ops.flatMap opB).length + (textB [a6]).length ≤ 1000000000 := by
          have := HLen.out
          simp only [List.length_append, numB_len, List.length_cons, List.length_nil, textB, List.flatMap_cons, List.flatMap_nil]; omega
        have hbF : (numB [a1, a2, a3, a4, (ops.length : Int)] ++ ops.flatMap opB ++ textB [a6]).length + [a7, a8].length ≤ 1000000000 := by
          have := HLen.out
          simp only [List.length_append, numB_len, List.length_cons, List.length_nil, textB, List.flatMap_cons, List.flatMap_nil]; omega
        have hsT : ∀ s ∈ [a6], s.size ≤ 9000000000000000000 := by
          intro s hs
          simp only [List.mem_cons, List.not_mem_nil, or_false] at hs
          subst hs
          omega
        have HbT := Lib.hid hbT
        have HbF := Lib.hid hbF
        have HsT := Lib.hid hsT
        clear hbT hbF hsT t1 c0 c1 c2 c3 c4 c5 c6 c7 fz lt
        go_region_held3 (fun W => W.cell? ⟨nb, 5, none⟩ = some (.string a6) ∧ W.cell? ⟨nb, 6, none⟩ = some (.bool a7) ∧ W.cell? ⟨nb, 7, none⟩ = some (.bool a8))
          (first
            | exact ⟨e5, e6, e7⟩
            | exact ⟨((Sep.f2 (X1))).c 5 rfl, ((Sep.f2 (X1))).c 6 rfl, ((Sep.f2 (X1))).c 7 rfl⟩
            | exact ⟨((Sep.f2 (X0))).c 5 rfl, ((Sep.f2 (X0))).c 6 rfl, ((Sep.f2 (X0))).c 7 rfl⟩
            | exact ⟨((Sep.f3 (X2))).c 5 rfl, ((Sep.f3 (X2))).c 6 rfl, ((Sep.f3 (X2))).c 7 rfl⟩
            | exact ⟨((Sep.f3 (X3))).c 5 rfl, ((Sep.f3 (X3))).c 6 rfl, ((Sep.f3 (X3))).c 7 rfl⟩
            | exact ⟨((Sep.f2 (H9))).c 5 rfl, ((Sep.f2 (H9))).c 6 rfl, ((Sep.f2 (H9))).c 7 rfl⟩
            | exact ⟨((Sep.f3 (H9))).c 5 rfl, ((Sep.f3 (H9))).c 6 rfl, ((Sep.f3 (H9))).c 7 rfl⟩
            | exact ⟨((Sep.f3 ((H9.mkc _ _)))).c 5 rfl, ((Sep.f3 ((H9.mkc _ _)))).c 6 rfl, ((Sep.f3 ((H9.mkc _ _)))).c 7 rfl⟩
            | exact ⟨((Sep.f3 (H10))).c 5 rfl, ((Sep.f3 (H10))).c 6 rfl, ((Sep.f3 (H10))).c 7 rfl⟩)
          (first
            | (go_at_call 71; refine Calls.mono (layText_any _ _ _ _ _ _ [a6] HbT.out HsT.out (by simp) ((Sep.f1 (X1)))) ?_; rintro e w9 ⟨v9, rfl, H9⟩)
            | (go_at_call 71; refine Calls.mono (layText_any _ _ _ _ _ _ [a6] HbT.out HsT.out (by simp) ((Sep.f2 (X2)))) ?_; rintro e w9 ⟨v9, rfl, H9⟩)
            | (go_at_call 71; refine Calls.mono (layText_any _ _ _ _ _ _ [a6] HbT.out HsT.out (by simp) ((Sep.f2 (Sep.f1 (X3))))) ?_; rintro e w9 ⟨v9, rfl, H9⟩)
            | (go_at_call 70; refine Calls.mono (layFlag_any _ _ _ _ _ _ [a7, a8] HbF.out ((Sep.f1 ((H9.mkc _ _))))) ?_; rintro e w10 ⟨v10, rfl, H10⟩)
            | (go_at_call 70; refine Calls.mono (layFlag_any _ _ _ _ _ _ [a7, a8] HbF.out ((Sep.f1 (Sep.f2 (H9))))) ?_; rintro e w10 ⟨v10, rfl, H10⟩))
        all_goals
          rw [← HL0.out] at H10
          obtain ⟨p10, k10, rfl⟩ : ∃ p c, v10 = .slice p L.length c := H10.rowSlice
          have hcv := conv_string (P := Tryz.prog) 121 9 5 Tryz.underlying121 Tryz.underlying5 Tryz.underlying9 H10
          have HBl := Lib.hid H10.below
          clear H9 H10 X0 X1 X2 X3 e0 e1 e2 e3 e4 e5 e6 e7 fze lte H8
          by_cases hL : 488 < L.length
          · have hLi : 488 < (L.length : Int) := by omega
            go_wp2
            go_ret2
            rw [HRs.out, if_pos hL]
            exact ⟨rfl, HBl.out⟩
          · have hLi : ¬ 488 < (L.length : Int) := by omega
            go_wp2
            go_ret2
            rw [HRs.out, if_neg hL]
            exact ⟨rfl, HBl.out⟩
end Go.Proofs.YtpeflgfldbjflaaGreatDoor
end
