/- WHAT IS PROVED HERE: Package op: Read. -/
import Derived.Test.YtpeflgfldbjflaaGreatDoorG06
import Derived.Test.YtpeflgfldbjflaaGreatDoorG03
set_option linter.unusedVariables false
set_option linter.unusedSimpArgs false
set_option linter.unusedSectionVars false
set_option linter.unnecessarySimpa false
section
namespace Go.Orch
open Go.RowKit
def readOp (r : Rd) : OpV × Rd :=
  let a := r.num 4
  let b := a.2.num 281474976710655
  let c := b.2.text 60
  let d := c.2.text 61
  let e := d.2.flag
  let f := e.2.flag
  (⟨(a.1 : Int), c.1, d.1, (b.1 : Int) - 1, e.1, f.1⟩, f.2)
def readOps : Nat → Rd → List OpV × Rd
  | 0, r => ([], r)
  | n + 1, r => let p := readOps n r
    let q := readOp p.2
    (p.1 ++ [q.1], q.2)
def readCmd (s : ByteArray) : CmdV × Int :=
  let a := Rd.num ⟨s, false⟩ 5
  let b := a.2.num 281474976710655
  let c := b.2.num 281474976710655
  let d := c.2.num 281474976710655
  let n := d.2.num 4
  let o := readOps n.1 n.2
  let p := o.2.text 60
  let k := p.2.flag
  let q := k.2.flag
  if q.2.done = true ∧ CmdV.right ⟨(a.1 : Int), (b.1 : Int), (c.1 : Int), (d.1 : Int), o.1, p.1, k.1, q.1⟩ = true ∧ s.size ≤ 488 then (⟨(a.1 : Int), (b.1 : Int), (c.1 : Int), (d.1 : Int), o.1, p.1, k.1, q.1⟩, 0) else (cmdZ, 2)
theorem Rd.text_left (r : Rd) (n : Nat) : (r.text n).2.s.size ≤ r.s.size := by
  unfold Rd.text
  split
  · exact r.take_left 2
  · split
    · exact Nat.zero_le _
    · exact Nat.le_trans (Rd.take_left _ _) (r.take_left 2)
theorem Rd.flag_left (r : Rd) : r.flag.2.s.size ≤ r.s.size := by
  unfold Rd.flag
  split
  · exact r.take_left 1
  · split
    · exact Nat.zero_le _
    · exact r.take_left 1
theorem readOp_left (r : Rd) : (readOp r).2.s.size ≤ r.s.size := by
  unfold readOp
  simp only
  refine Nat.le_trans (Rd.flag_left _) (Nat.le_trans (Rd.flag_left _) (Nat.le_trans (Rd.text_left _ _) (Nat.le_trans (Rd.text_left _ _) (Nat.le_trans (Rd.num_left _ _) (Rd.num_left _ _)))))
theorem readOps_left : ∀ (n : Nat) (r : Rd), (readOps n r).2.s.size ≤ r.s.size
  | 0, _ => Nat.le_refl _
  | n + 1, r => Nat.le_trans (readOp_left _) (readOps_left n r)
theorem readOps_len : ∀ (n : Nat) (r : Rd), (readOps n r).1.length = n
  | 0, _ => rfl
  | n + 1, r => by simp [readOps, readOps_len n r]
end Go.Orch
namespace Go.Proofs.YtpeflgfldbjflaaGreatDoor
open Go.RowKit Go.Shelf Go.Orch
theorem op_info : (Tryz.prog.info? 91).map (fun i => (i.zero, i.size, i.bytes)) = some (some (.agg #[.int .i64 0, .string ⟨#[]⟩, .string ⟨#[]⟩, .int .i64 0, .bool false, .bool false]), 6, 56) := by kernel_rfl
set_option maxRecDepth 100000 in
set_option maxHeartbeats 4000000 in
theorem opRead_any (R w : World) (l : List HP) (s : ByteArray) (hs : s.size ≤ maxLen) (H : Sep R w l) :
    Calls Tryz.prog 14 #[.string s] w fun e w' => ∃ v, e = .returned (.tuple #[.agg (cmdC (readCmd s).1 v).toArray, .int .i64 (readCmd s).2]) ∧ Sep R w' (opS v (readCmd s).1.ops :: l) := by
  have hE : readCmd s = readCmd s := rfl
  conv at hE => rhs; unfold readCmd; simp only
  obtain ⟨a, ha⟩ : ∃ a, a = Rd.num ⟨s, false⟩ 5 := ⟨_, rfl⟩
  rw [← ha] at hE
  obtain ⟨b, hb⟩ : ∃ b, b = a.2.num 281474976710655 := ⟨_, rfl⟩
  rw [← hb] at hE
  obtain ⟨c, hc⟩ : ∃ c, c = b.2.num 281474976710655 := ⟨_, rfl⟩
  rw [← hc] at hE
  obtain ⟨d, hd⟩ : ∃ d, d = c.2.num 281474976710655 := ⟨_, rfl⟩
  rw [← hd] at hE
  obtain ⟨n, hn⟩ : ∃ n, n = d.2.num 4 := ⟨_, rfl⟩
  rw [← hn] at hE
  have la : a.2.s.size ≤ maxLen := by rw [ha]; exact Nat.le_trans (Rd.num_left _ _) hs
  have lb : b.2.s.size ≤ maxLen := by rw [hb]; exact Nat.le_trans (Rd.num_left _ _) la
  have lc : c.2.s.size ≤ maxLen := by rw [hc]; exact Nat.le_trans (Rd.num_left _ _) lb
  have ld : d.2.s.size ≤ maxLen := by rw [hd]; exact Nat.le_trans (Rd.num_left _ _) lc
  have ln : n.2.s.size ≤ maxLen := by rw [hn]; exact Nat.le_trans (Rd.num_left _ _) ld
  have hn4 : n.1 ≤ 4 := by rw [hn]; exact Rd.num_le _ _
  have LN := Lib.hid ln
  have N1 := Lib.hid (fun R w l rb H => ha ▸ num_any R w l rb 5 ⟨s, false⟩ hs H)
  have N2 := Lib.hid (fun R w l rb H => hb ▸ num_any R w l rb 281474976710655 a.2 la H)
  have N3 := Lib.hid (fun R w l rb H => hc ▸ num_any R w l rb 281474976710655 b.2 lb H)
  have N4 := Lib.hid (fun R w l rb H => hd ▸ num_any R w l rb 281474976710655 c.2 lc H)
  have N5 := Lib.hid (fun R w l rb H => hn ▸ num_any R w l rb 4 d.2 ld H)
  clear ha hb hc hd hn la lb lc ld ln
  have HE := Lib.hid hE
  clear hE
  generalize readCmd s = rc at *
  have H1 := Lib.hid H
  clear H
  go_enter Tryz.func14, Tryz.ntmps14
  go_wp2_with fail
  refine Calls.mono (read_any R _ _ s (H1.out.mkc _ _)) ?_
  rintro e w1 ⟨rb, rfl, H2⟩
  have H3 := Lib.hid H2
  clear H2
  generalize w.heap.size = zb at *
  go_wp2_with fail
  refine Calls.mono (N1.out _ _ _ _ H3.out) ?_
  rintro e w2 ⟨rfl, H4⟩
  have H5 := Lib.hid H4
  clear H4 H3
  go_wp2_with fail
  refine Calls.mono (N2.out _ _ _ _ H5.out) ?_
  rintro e w3 ⟨rfl, H4⟩
  have H6 := Lib.hid H4
  clear H4 H5
  go_wp2_with fail
  refine Calls.mono (N3.out _ _ _ _ H6.out) ?_
  rintro e w4 ⟨rfl, H4⟩
  have H7 := Lib.hid H4
  clear H4 H6
  go_wp2_with fail
  refine Calls.mono (N4.out _ _ _ _ H7.out) ?_
  rintro e w5 ⟨rfl, H4⟩
  have H8 := Lib.hid H4
  clear H4 H7
  go_wp2_with fail
  refine Calls.mono (N5.out _ _ _ _ ((Sep.f1 ((H8.out.mkc _ _))))) ?_
  rintro e w6 ⟨rfl, H4⟩
  have H9 := Lib.hid (H4.nilRec (sz := 6) (enc := opC))
  clear H4 H8 N1 N2 N3 N4 N5
  generalize w5.heap.size = cb at *
  go_wp2_with fail
  go_loopw [20] (fun i wr => ∃ j : Nat, j ≤ n.1 ∧ i = .int .i64 j ∧ ∃ p k, Sep R wr (opS (.slice p (readOps j n.2).1.length k) (readOps j n.2).1 :: rdAt rb (readOps j n.2).2 :: cellsAt cb #[.int .i64 a.1, .int .i64 b.1, .int .i64 c.1, .int .i64 d.1, .slice p (readOps j n.2).1.length k, .string ⟨#[]⟩, .bool false, .bool false] :: cellsAt zb #[.int .i64 0, .int .i64 0, .int .i64 0, .int .i64 0, .slice none 0 0, .string ⟨#[]⟩, .bool false, .bool false] :: l)) (fun i _ => n.1 - (intOf i).toNat)
  case atStart => exact ⟨0, Nat.zero_le _, rfl, none, 0, H9.out⟩
  case round =>
    obtain ⟨j, hj, rfl, p, k, H10⟩ := hrel
    by_cases hlt : j < n.1
    · obtain ⟨o, ho⟩ : ∃ o, o = readOps j n.2 := ⟨_, rfl⟩
      have hstep : readOps (j + 1) n.2 = (o.1 ++ [(readOp o.2).1], (readOp o.2).2) := by rw [ho]; rfl
      have lo : o.2.s.size ≤ maxLen := by rw [ho]; exact Nat.le_trans (readOps_left _ _) LN.out
      have lol : o.1.length ≤ 4 := by rw [ho, readOps_len]; omega
      rw [← ho] at H10
      clear ho
      obtain ⟨x1, h1⟩ : ∃ x, x = o.2.num 4 := ⟨_, rfl⟩
      obtain ⟨x2, h2⟩ : ∃ x, x = x1.2.num 281474976710655 := ⟨_, rfl⟩
      obtain ⟨x3, h3⟩ : ∃ x, x = x2.2.text 60 := ⟨_, rfl⟩
      obtain ⟨x4, h4⟩ : ∃ x, x = x3.2.text 61 := ⟨_, rfl⟩
      obtain ⟨x5, h5⟩ : ∃ x, x = x4.2.flag := ⟨_, rfl⟩
      obtain ⟨x6, h6⟩ : ∃ x, x = x5.2.flag := ⟨_, rfl⟩
      have hq : readOp o.2 = (⟨(x1.1 : Int), x3.1, x4.1, (x2.1 : Int) - 1, x5.1, x6.1⟩, x6.2) := by rw [h6, h5, h4, h3, h2, h1]; rfl
      rw [hq] at hstep
      have HS := Lib.hid hstep
      clear hstep hq
      have l1 : x1.2.s.size ≤ maxLen := by rw [h1]; exact Nat.le_trans (Rd.num_left _ _) lo
      have l2 : x2.2.s.size ≤ maxLen := by rw [h2]; exact Nat.le_trans (Rd.num_left _ _) l1
      have l3 : x3.2.s.size ≤ maxLen := by rw [h3]; exact Nat.le_trans (Rd.text_left _ _) l2
      have l4 : x4.2.s.size ≤ maxLen := by rw [h4]; exact Nat.le_trans (Rd.text_left _ _) l3
      have l5 : x5.2.s.size ≤ maxLen := by rw [h5]; exact Nat.le_trans (Rd.flag_left _) l4
      have hx2 : x2.1 ≤ 281474976710655 := by rw [h2]; exact Rd.num_le _ _
      have N1 := Lib.hid (fun R w l rb H => h1 ▸ num_any R w l rb 4 o.2 lo H)
      have N2 := Lib.hid (fun R w l rb H => h2 ▸ num_any R w l rb 281474976710655 x1.2 l1 H)
      have N3 := Lib.hid (fun R w l rb H => h3 ▸ text_any R w l rb 60 x2.2 l2 H)
      have N4 := Lib.hid (fun R w l rb H => h4 ▸ text_any R w l rb 61 x3.2 l3 H)
      have N5 := Lib.hid (fun R w l rb H => h5 ▸ flag_any R w l rb x4.2 l4 H)
      have N6 := Lib.hid (fun R w l rb H => h6 ▸ flag_any R w l rb x5.2 l5 H)
      clear h1 h2 h3 h4 h5 h6 lo l1 l2 l3 l4 l5
      obtain ⟨x2n, x2r⟩ := x2
      simp only at hx2
      have H11 := Lib.hid H10
      clear H10
      have hlti : (j : Int) < (n.1 : Int) := by omega
      go_wp2_with fail
      refine Calls.mono (N1.out _ _ _ _ ((Sep.f1 (H11.out)))) ?_
      rintro e w7 ⟨rfl, H12⟩
      have H13 := Lib.hid H12
      clear H12 H11
      go_wp2_with fail
      refine Calls.mono (N2.out _ _ _ _ H13.out) ?_
      rintro e w8 ⟨rfl, H12⟩
      have H14 := Lib.hid H12
      clear H12 H13
      go_wp2_with fail
      refine Calls.mono (N3.out _ _ _ _ ((Sep.f1 ((H14.out.mkc _ _))))) ?_
      rintro e w9 ⟨rfl, H12⟩
      have H15 := Lib.hid H12
      clear H12 H14
      generalize w8.heap.size = ob at *
      go_wp2_with fail
      refine Calls.mono (N4.out _ _ _ _ H15.out) ?_
      rintro e w10 ⟨rfl, H12⟩
      have H16 := Lib.hid H12
      clear H12 H15
      go_wp2_with fail
      refine Calls.mono (N5.out _ _ _ _ H16.out) ?_
      rintro e w11 ⟨rfl, H12⟩
      have H17 := Lib.hid H12
      clear H12 H16
      go_wp2_with fail
      refine Calls.mono (N6.out _ _ _ _ H17.out) ?_
      rintro e w12 ⟨rfl, H12⟩
      obtain ⟨o0, o1, o2, o3, o4, o5, ofz, olt⟩ := ((Sep.f1 (H12))).c6
      obtain ⟨c0, c1, c2, c3, c4, c5, c6, c7, fz, lt⟩ := ((Sep.f3 (H12))).c8
      have H18 := Lib.hid ((((((Sep.f1 (H12))).st 1 (.string x3.1)).st 2 (.string x4.1)).st 4 (.bool x5.1)).st 5 (.bool x6.1))
      have g4 := ((Sep.f3 (H18.out))).c 4 rfl
      clear H12 H17 N1 N2 N3 N4 N5 N6
      go_wp2_with (at_builtin; refine Hid.out ?_)
      have H18' := H18.out
      have hsz : ((((w12.setCell ⟨ob, 1, none⟩ (.string x3.1)).setCell ⟨ob, 2, none⟩ (.string x4.1)).setCell ⟨ob, 4, none⟩ (.bool x5.1)).setCell ⟨ob, 5, none⟩ (.bool x6.1)).heap.size = w12.heap.size := by simp
      generalize (((w12.setCell ⟨ob, 1, none⟩ (.string x3.1)).setCell ⟨ob, 2, none⟩ (.string x4.1)).setCell ⟨ob, 4, none⟩ (.bool x5.1)).setCell ⟨ob, 5, none⟩ (.bool x6.1) = W at *
      have H19 := H18'.mkc #[.int .i64 x1.1, .string x3.1, .string x4.1, .int .i64 ((x2n : Int) - 1), .bool x5.1, .bool x6.1] 91
      rw [hsz] at H19
      refine Lib.hid (wpList_append_rec (sz := 6) (enc := opC) (by decide) (fun _ => rfl) rfl _ _ 55 55 91 rfl Tryz.underlying55 Tryz.underlying55 (.inr ⟨_, rfl⟩) op_info rfl (news := [⟨(x1.1 : Int), x3.1, x4.1, (x2n : Int) - 1, x5.1, x6.1⟩]) rfl rfl (Src.cells _ 0 _ _ rfl (fun j v hj => H19.c (0 + j) (by simpa [opC] using hj)) (by simp [opC, Value.oneCell'])) ((Sep.f3 (H19))) ?c1 ?c2 ?_)
      case c1 => simp [maxLen]; omega
      case c2 => simp; omega
      intro v' w13 H20
      obtain ⟨p', k', rfl⟩ : ∃ p c, v' = .slice p (o.1 ++ [(⟨(x1.1 : Int), x3.1, x4.1, (x2n : Int) - 1, x5.1, x6.1⟩ : OpV)]).length c := H20.recSlice
      obtain ⟨d0, d1, d2, d3, d4, d5, d6, d7, dfz, dlt⟩ := ((Sep.f4 (H20))).c8
      have H20b := ((Sep.f2 (Sep.f2 (H20)))).drop.drop
      have H21 := Lib.hid (((Sep.f2 (H20b))).st 4 (.slice p' (o.1 ++ [(⟨(x1.1 : Int), x3.1, x4.1, (x2n : Int) - 1, x5.1, x6.1⟩ : OpV)]).length k'))
      have hll : (o.1 ++ [(⟨(x1.1 : Int), x3.1, x4.1, (x2n : Int) - 1, x5.1, x6.1⟩ : OpV)]).length = o.1.length + 1 := by simp
      clear H19 H20 H20b H18 H18' hsz g4 o0 o1 o2 o3 o4 o5 ofz olt c0 c1 c2 c3 c4 c5 c6 c7 fz lt
      go_wp2_with fail
      go_roundw
      case rel =>
        refine ⟨j + 1, hlt, by go_num, p', k', ?_⟩
        rw [HS.out]
        have h21 := (Sep.f2 (Sep.f2 (H21.out)))
        simp only [hll] at h21 ⊢
        exact h21
      case measure => simp [intOf]; omega
    · obtain rfl : j = n.1 := by omega
      have hlti : ¬ (n.1 : Int) < (n.1 : Int) := by omega
      have hol : (readOps n.1 n.2).1.length = n.1 := readOps_len _ _
      have lo : (readOps n.1 n.2).2.s.size ≤ maxLen := Nat.le_trans (readOps_left _ _) LN.out
      generalize readOps n.1 n.2 = o at *
      obtain ⟨x1, h1⟩ : ∃ x, x = o.2.text 60 := ⟨_, rfl⟩
      obtain ⟨x2, h2⟩ : ∃ x, x = x1.2.flag := ⟨_, rfl⟩
      obtain ⟨x3, h3⟩ : ∃ x, x = x2.2.flag := ⟨_, rfl⟩
      have hE2 := HE.out
      rw [← h1, ← h2, ← h3] at hE2
      have HE2 := Lib.hid hE2
      have l1 : x1.2.s.size ≤ maxLen := by rw [h1]; exact Nat.le_trans (Rd.text_left _ _) lo
      have l2 : x2.2.s.size ≤ maxLen := by rw [h2]; exact Nat.le_trans (Rd.flag_left _) l1
      have N1 := Lib.hid (fun R w l rb H => h1 ▸ text_any R w l rb 60 o.2 lo H)
      have N2 := Lib.hid (fun R w l rb H => h2 ▸ flag_any R w l rb x1.2 l1 H)
      have N3 := Lib.hid (fun R w l rb H => h3 ▸ flag_any R w l rb x2.2 l2 H)
      have hol4 : o.1.length ≤ 1000000 := by omega
      clear h1 h2 h3 lo l1 l2 hE2 HE hol
      have H11 := Lib.hid H10
      clear H10
      go_wp2_with fail
      refine Calls.mono (N1.out _ _ _ _ ((Sep.f1 (H11.out)))) ?_
      rintro e w7 ⟨rfl, H12⟩
      have H13 := Lib.hid H12
      clear H12 H11
      go_wp2_with fail
      refine Calls.mono (N2.out _ _ _ _ H13.out) ?_
      rintro e w8 ⟨rfl, H12⟩
      have H14 := Lib.hid H12
      clear H12 H13
      go_wp2_with fail
      refine Calls.mono (N3.out _ _ _ _ H14.out) ?_
      rintro e w9 ⟨rfl, H12⟩
      obtain ⟨c0, c1, c2, c3, c4, c5, c6, c7, fz, lt⟩ := ((Sep.f2 (H12))).c8
      have H15 := (((Sep.f2 (H12))).st 5 (.string x1.1)).st 6 (.bool x2.1) |>.st 7 (.bool x3.1)
      have H16 : Sep R _ (rdAt rb x3.2 :: opS (.slice p o.1.length k) o.1 :: cellsAt cb (cmdC ⟨(a.1 : Int), (b.1 : Int), (c.1 : Int), (d.1 : Int), o.1, x1.1, x2.1, x3.1⟩ (.slice p o.1.length k)).toArray :: cellsAt zb #[.int .i64 0, .int .i64 0, .int .i64 0, .int .i64 0, .slice none 0 0, .string ⟨#[]⟩, .bool false, .bool false] :: l) := (Sep.f2 (Sep.f2 (H15)))
      have hdn := done_any R _ _ rb x3.2 H16
      have HDn := Lib.hid hdn
      have H17 := Lib.hid H16
      clear H12 H14 H15 H16 N1 N2 N3 hdn
      go_wp2_with fail
      generalize ((w9.setCell ⟨cb, 5, none⟩ (.string x1.1)).setCell ⟨cb, 6, none⟩ (.bool x2.1)).setCell ⟨cb, 7, none⟩ (.bool x3.1) = W at *
      clear c0 c1 c2 c3 c4 c5 c6 c7 fz lt
      refine Calls.mono HDn.out ?_
      rintro e w10 ⟨rfl, rfl⟩
      have H18 := H17.out
      obtain ⟨c0, c1, c2, c3, c4, c5, c6, c7, fz, lt⟩ := ((Sep.f2 (H18))).c8
      obtain ⟨z0, z1, z2, z3, z4, z5, z6, z7, zfz, zlt⟩ := ((Sep.f3 (H18))).c8
      clear HDn
      cases hd : x3.2.done with
      | false =>
        have HRC : Hid (rc = (cmdZ, 2)) := Lib.hid (by rw [HE2.out, if_neg]; simp [hd])
        clear HE2 hd H18
        go_wp2
        refine bodyPost_ret (v := .tuple #[.agg (cmdC cmdZ (.slice none 0 0)).toArray, .int .i64 2]) (by simp [results, Tryz.results14, go_sem, cmdC, cmdZ, z0, z1, z2, z3, z4, z5, z6, z7, zfz, zlt]) rfl ⟨.slice none 0 0, ?_⟩
        rw [HRC.out]
        refine ⟨rfl, ?_⟩
        exact (((((((((Sep.f3 (H17.out))).st 0 _).st 1 _).st 2 _).st 3 _).st 4 _).st 5 _).st 6 _).st 7 _ |>.drop.drop.drop.drop.nilRec (sz := 6) (enc := opC)
      | true =>
        have hrt := cmdRight_any ⟨(a.1 : Int), (b.1 : Int), (c.1 : Int), (d.1 : Int), o.1, x1.1, x2.1, x3.1⟩ (.slice p o.1.length k) W hol4 ((Sep.f1 (H18))).rowIn
        rw [hd] at HE2
        clear hd
        have HRT := Lib.hid hrt
        clear hrt H18
        obtain ⟨cv, hcv⟩ : ∃ cv : CmdV, cv = ⟨(a.1 : Int), (b.1 : Int), (c.1 : Int), (d.1 : Int), o.1, x1.1, x2.1, x3.1⟩ := ⟨_, rfl⟩
        have hE3 := HE2.out
        have hRT := HRT.out
        rw [← hcv] at hE3 hRT
        have hct : (cmdC cv (.slice p o.1.length k)).toArray = #[.int .i64 a.1, .int .i64 b.1, .int .i64 c.1, .int .i64 d.1, .slice p o.1.length k, .string x1.1, .bool x2.1, .bool x3.1] := by rw [hcv]; rfl
        have hco : cv.ops = o.1 := by rw [hcv]
        have HCO := Lib.hid hco
        have HCT := Lib.hid hct
        rw [hct] at hRT
        have HRT2 := Lib.hid hRT
        have HE3 := Lib.hid hE3
        clear hct hco hRT hE3 HE2 HRT hcv
        cases hr : cv.right with
        | false =>
          rw [hr] at HRT2
          have HRC : Hid (rc = (cmdZ, 2)) := Lib.hid (by rw [HE3.out, if_neg]; simp [hr])
          clear HE3 hr
          go_wp2_with fail
          refine Calls.mono HRT2.out ?_
          rintro e w11 ⟨rfl, hb⟩
          have H19 := H17.out.kept hb
          obtain ⟨z0, z1, z2, z3, z4, z5, z6, z7, zfz, zlt⟩ := ((Sep.f3 (H19))).c8
          have H17 := Lib.hid H19
          clear hb H19
          go_wp2
          refine bodyPost_ret (v := .tuple #[.agg (cmdC cmdZ (.slice none 0 0)).toArray, .int .i64 2]) (by simp [results, Tryz.results14, go_sem, cmdC, cmdZ, z0, z1, z2, z3, z4, z5, z6, z7, zfz, zlt]) rfl ⟨.slice none 0 0, ?_⟩
          rw [HRC.out]
          refine ⟨rfl, ?_⟩
          exact (((((((((Sep.f3 (H17.out))).st 0 _).st 1 _).st 2 _).st 3 _).st 4 _).st 5 _).st 6 _).st 7 _ |>.drop.drop.drop.drop.nilRec (sz := 6) (enc := opC)
        | true =>
          rw [hr] at HRT2
          by_cases hL : s.size ≤ 488
          · have HRC : Hid (rc = (cv, 0)) := Lib.hid (by rw [HE3.out, if_pos]; exact ⟨rfl, hr, hL⟩)
            have hLi : ¬ 488 < (s.size : Int) := by omega
            clear HE3 hr
            go_wp2_with fail
            refine Calls.mono HRT2.out ?_
            rintro e w11 ⟨rfl, hb⟩
            have H19 := H17.out.kept hb
            obtain ⟨z0, z1, z2, z3, z4, z5, z6, z7, zfz, zlt⟩ := ((Sep.f3 (H19))).c8
            obtain ⟨c0, c1, c2, c3, c4, c5, c6, c7, fz, lt⟩ := ((Sep.f2 (H19))).c8
            have H17 := Lib.hid H19
            clear hb H19
            go_wp2
            refine bodyPost_ret (v := .tuple #[.agg (cmdC cv (.slice p o.1.length k)).toArray, .int .i64 0]) (by rw [HCT.out]; simp [results, Tryz.results14, go_sem, z0, z1, z2, z3, z4, z5, z6, z7, zfz, zlt]) rfl ⟨.slice p o.1.length k, ?_⟩
            rw [HRC.out]
            refine ⟨rfl, ?_⟩
            rw [HCO.out]
            exact ((Sep.f1 (((((((((((Sep.f3 (H17.out))).st 0 _).st 1 _).st 2 _).st 3 _).st 4 _).st 5 _).st 6 _).st 7 _ |>.drop.drop)))).drop
          · have HRC : Hid (rc = (cmdZ, 2)) := Lib.hid (by rw [HE3.out, if_neg]; intro h; exact hL h.2.2)
            have hLi : 488 < (s.size : Int) := by omega
            clear HE3 hr
            go_wp2_with fail
            refine Calls.mono HRT2.out ?_
            rintro e w11 ⟨rfl, hb⟩
            have H19 := H17.out.kept hb
            obtain ⟨z0, z1, z2, z3, z4, z5, z6, z7, zfz, zlt⟩ := ((Sep.f3 (H19))).c8
            have H17 := Lib.hid H19
            clear hb H19
            go_wp2
            refine bodyPost_ret (v := .tuple #[.agg (cmdC cmdZ (.slice none 0 0)).toArray, .int .i64 2]) (by simp [results, Tryz.results14, go_sem, cmdC, cmdZ, z0, z1, z2, z3, z4, z5, z6, z7, zfz, zlt]) rfl ⟨.slice none 0 0, ?_⟩
            rw [HRC.out]
            refine ⟨rfl, ?_⟩
            exact (((((((((Sep.f3 (H17.out))).st 0 _).st 1 _).st 2 _).st 3 _).st 4 _).st 5 _).st 6 _).st 7 _ |>.drop.drop.drop.drop.nilRec (sz := 6) (enc := opC)
end Go.Proofs.YtpeflgfldbjflaaGreatDoor
end
