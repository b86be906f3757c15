/- WHAT IS PROVED HERE: Package judge: Commit. -/
import Derived.Test.YtpeflgfldbjflaaGreatDoorG38
set_option linter.unusedVariables false
set_option linter.unusedSimpArgs false
set_option linter.unusedSectionVars false
set_option linter.unnecessarySimpa false
section
namespace Go.Orch
open Go.RowKit
theorem Sep.juSt {R w : World} {l : List HP} {b : Nat} {J : JuV} (k : Nat) (hk : k < J.states.length) (H : Orch.Sep R w (juAt b J :: l)) : ∃ (tb eb : Nat) (sv : Value) (bs : List Nat) (hb : k < bs.length) (L : List HP), bs.length = J.states.length ∧
    Orch.Sep R w (cellsAt b (juCells tb eb sv J) :: mapAt intK tb (textM J.texts) :: listS ptrV sv bs :: stAt bs[k] J.states[k] :: L) ∧
    (∀ w', Orch.Sep R w' (cellsAt b (juCells tb eb sv J) :: mapAt intK tb (textM J.texts) :: listS ptrV sv bs :: stAt bs[k] J.states[k] :: L) → Orch.Sep R w' (juAt b J :: l)) ∧
    (∀ w' E, Orch.Sep R w' (E :: cellsAt b (juCells tb eb sv J) :: mapAt intK tb (textM J.texts) :: listS ptrV sv bs :: stAt bs[k] J.states[k] :: L) → Orch.Sep R w' (juAt b J :: E :: l)) := by
  obtain ⟨tb, eb, sv, bs, es, h1, h2, H1⟩ := H.ju
  have hb : k < bs.length := by omega
  have p : ∀ (A B C D E : HP) (X Y M : List HP) (P : (List.zipWith stAt bs J.states ++ M).Perm (E :: Y)), (A :: B :: C :: D :: (X ++ (List.zipWith stAt bs J.states ++ M))).Perm (A :: B :: C :: E :: (D :: (X ++ Y))) := fun A B C D E X Y M P => by
    refine List.Perm.cons A (List.Perm.cons B (List.Perm.cons C ?_))
    refine List.Perm.trans (List.Perm.cons D ((List.Perm.append_left X P).trans List.perm_middle)) (List.Perm.swap E D _)
  have P := fun M => st_perm bs J.states M k hb hk
  refine ⟨tb, eb, sv, bs, hb, _, h2, Sep.perm H1 (p _ _ _ _ _ _ _ _ (P l)), fun w' H' => Sep.mkju h1 h2 (Sep.perm H' (p _ _ _ _ _ _ _ _ (P l)).symm), fun w' E H' => ?_⟩
  have q : (E :: cellsAt b (juCells tb eb sv J) :: mapAt intK tb (textM J.texts) :: listS ptrV sv bs :: stAt bs[k] J.states[k] :: mapAt intK eb (evM es) :: (evRows es ++ ((List.zipWith stAt bs J.states).eraseIdx k ++ l))).Perm (cellsAt b (juCells tb eb sv J) :: mapAt intK tb (textM J.texts) :: listS ptrV sv bs :: stAt bs[k] J.states[k] :: mapAt intK eb (evM es) :: (evRows es ++ ((List.zipWith stAt bs J.states).eraseIdx k ++ E :: l))) := by
    simpa using (List.perm_middle (a := E) (l₁ := cellsAt b (juCells tb eb sv J) :: mapAt intK tb (textM J.texts) :: listS ptrV sv bs :: stAt bs[k] J.states[k] :: mapAt intK eb (evM es) :: (evRows es ++ (List.zipWith stAt bs J.states).eraseIdx k)) (l₂ := l)).symm
  exact Sep.mkju h1 h2 (Sep.perm H' (q.trans (p _ _ _ _ _ _ _ _ (P (E :: l))).symm))
def juNext (J : JuV) (i : Int) (text : ByteArray) (S : StV) : JuV := { J with texts := aput J.texts i text, states := J.states ++ [(stApply S text).2], events := hear_ J.events (stApply S text).2 }
theorem aput_text (m : List (Int × ByteArray)) (i : Int) (t : ByteArray) : aput (textM m) i (.string t) = textM (aput m i t) := aput_map Value.string i t m
theorem aget_text (m : List (Int × ByteArray)) (i : Int) : aget (textM m) i = (aget m i).map Value.string := aget_map Value.string i m
end Go.Orch
namespace Go.Proofs.YtpeflgfldbjflaaGreatDoor
open Go.RowKit Go.Orch Go.Shelf
theorem zero_text (w : World) : (zeroValue 9).run Tryz.prog w = .ok (.string ⟨#[]⟩) w := by kernel_rfl
theorem cap_ok1 {m k : Nat} (h : m = k + 1) (hk : k ≤ 100000) (b : Nat) : m + [b].length ≤ maxLen := by
  unfold maxLen
  simp only [List.length_cons, List.length_nil]
  omega
theorem cap_ok2 {m k : Nat} (h : m = k + 1) (hk : k ≤ 100000) (b : Nat) : (m + [b].length) * 8 ≤ 140737488355328 := by
  simp only [List.length_cons, List.length_nil]
  omega
theorem st_info : (Tryz.prog.info? 36).map (fun i => (i.zero, i.size, i.bytes)) = some (some (.pointer none), 1, 8) := by kernel_rfl
theorem lookT {R w : World} {l : List HP} {tb : Nat} {m : List (Int × ByteArray)} (H : Orch.Sep R w (mapAt intK tb (textM m) :: l)) (i : Int) (r : Option ByteArray) (hr : aget m i = r) :
    (Instr.lookup 70 (.map (some tb)) (.int .i64 i) true).run Tryz.prog w = .ok (.tuple #[.string (r.getD ⟨#[]⟩), .bool r.isSome]) w := by
  have := run_lookup (P := Tryz.prog) (t := 70) (kt := 3) (e := 9) intK_same Tryz.underlying70 Tryz.underlying3 H i (zero_text w) true
  rw [aget_text, hr] at this
  cases r <;> simpa [intK] using this
theorem lookT1 {R w : World} {l : List HP} {tb : Nat} {m : List (Int × ByteArray)} (H : Orch.Sep R w (mapAt intK tb (textM m) :: l)) (i : Int) (r : Option ByteArray) (hr : aget m i = r) :
    (Instr.lookup 70 (.map (some tb)) (.int .i64 i) false).run Tryz.prog w = .ok (.string (r.getD ⟨#[]⟩)) w := by
  have := run_lookup (P := Tryz.prog) (t := 70) (kt := 3) (e := 9) intK_same Tryz.underlying70 Tryz.underlying3 H i (zero_text w) false
  rw [aget_text, hr] at this
  cases r <;> simpa [intK] using this
theorem juCommit_old (R w : World) (l : List HP) (jb : Nat) (J : JuV) (i : Int) (t text : ByteArray) (h0 : aget J.texts i = some t) (H : Orch.Sep R w (juAt jb J :: l)) :
    Calls Tryz.prog 9 #[.pointer (some ⟨jb, 0, none⟩), .int .i64 i, .string text] w fun e w' => e = .returned (.bool (decide (t = text))) ∧ Orch.Sep R w' (juAt jb (bad_ J (decide (t ≠ text))) :: l) := by
  have HB := Lib.hid (fun (is : Bool) => juBad_any R w l jb J is H)
  obtain ⟨tb, eb, sv, bs, es, h1, h2, H1⟩ := H.ju
  have c0 : w.cell? ⟨jb, 0, none⟩ = some (.map (some tb)) := H1.c 0 rfl
  have hl := lookT ((Sep.f1 (H1))) i (some t) h0
  simp only [Option.getD_some, Option.isSome_some] at hl
  have hb : (!t.toList == text.toList) = decide (t ≠ text) := by rw [tl_beq1]; simp
  have hd : (t.toList == text.toList) = decide (t = text) := tl_beq1 _ _
  rw [← hb, ← hd]
  clear H H1 h1 h2 hd hb
  go_enter Tryz.func9, Tryz.ntmps9
  go_wp2_with fail
  refine Calls.mono (HB.out _) ?_
  rintro e w1 ⟨rfl, H2⟩
  have H3 := Lib.hid H2
  clear H2
  go_wp2
  go_ret
  exact ⟨rfl, H3.out⟩
set_option maxRecDepth 100000 in
set_option maxHeartbeats 4000000 in
theorem juCommit_new (R w : World) (l : List HP) (G : GoodR R) (jb n N : Nat) (J : JuV) (S : StV) (k : Nat) (hk : k < J.states.length) (hk2 : J.states.length = k + 1) (hkS : J.states[k] = S) (hk3 : k ≤ 100000) (text : ByteArray) (ht : text.size ≤ 1000000) (hS : S.ok n) (hn : n ≤ 5000000)
    (hE : evsLe J.events N) (hN : N + 17 * (n + 50000) ≤ 1000000000) (h0 : aget J.texts ((k : Int) + 1) = none) (h1 : aget (aput J.texts ((k : Int) + 1) text) ((k : Int) + 2) = none) (H : Orch.Sep R w (juAt jb J :: l)) :
    Calls Tryz.prog 9 #[.pointer (some ⟨jb, 0, none⟩), .int .i64 ((k : Int) + 1), .string text] w fun e w' => e = .returned (.bool true) ∧ Orch.Sep R w' (juAt jb (juNext J ((k : Int) + 1) text S) :: l) := by
  obtain ⟨tb, eb, sv, bs, es, q1, q2, H1⟩ := H.ju
  have c0 : w.cell? ⟨jb, 0, none⟩ = some (.map (some tb)) := H1.c 0 rfl
  have hl := lookT ((Sep.f1 (H1))) ((k : Int) + 1) none h0
  simp only [Option.getD_none, Option.isSome_none] at hl
  have HE := Lib.hid hE
  have HS := Lib.hid hS
  have hn2 : n + 50000 ≤ 10000000 := Nat.le_trans (Nat.add_le_add_right hn 50000) (by decide)
  have hn3 : n ≤ 70000000 := by omega
  have ht2 : text.size ≤ maxLen := by unfold maxLen; omega
  have hT : aget (aput J.texts ((k : Int) + 1) text) ((k : Int) + 1) = some text := aget_aput _ _ _
  have HT := Lib.hid hT
  have HT1 := Lib.hid h1
  have HQ1 := Lib.hid q1
  have HQ2 := Lib.hid q2
  have H2 := Lib.hid H1
  clear H H1 hE hS h0 h1 hT q1 q2
  go_enter Tryz.func9, Tryz.ntmps9
  go_wp2_with (at_mapUpdate; refine Hid.out ?_)
  refine Lib.hid (wpList_mapUpdate (v := .string text) intK_same rfl _ _ _ 70 3 9 rfl Tryz.underlying70 Tryz.underlying3 ((Sep.f1 (H2.out))) rfl rfl rfl ?_)
  intro w1 H3
  rw [aput_text] at H3
  obtain ⟨J1, hJ1⟩ : ∃ J1 : JuV, J1 = { J with texts := aput J.texts ((k : Int) + 1) text } := ⟨_, rfl⟩
  have H4 := Lib.hid (Sep.mkju (J := J1) (by rw [hJ1]; exact HQ1.out) (by rw [hJ1]; exact HQ2.out) (by rw [hJ1]; exact (Sep.f1 (H3))))
  clear c0 hl H3
  go_wp2_with fail
  refine wp_loop_rounds 2 ?_
  rw [rounds_succ]
  have hk1 : k < J1.states.length := by rw [hJ1]; exact hk
  obtain ⟨tb1, eb1, sv1, bs1, hb1, L1, hbl1, H5, _, hcl1⟩ := H4.out.juSt k hk1
  obtain ⟨ps1, cs1, rfl⟩ := ((Sep.f2 (H5))).listSlice
  have hbk : bs1.length = k + 1 := by rw [hbl1, hJ1]; exact hk2
  rw [hbk] at H5 hcl1
  have hJS : J1.states[k] = S := by subst hJ1; exact hkS
  rw [hJS] at H5 hcl1
  have HCl1 := Lib.hid hcl1
  have H6 := Lib.hid H5
  have hJt : J1.texts = aput J.texts ((k : Int) + 1) text := by rw [hJ1]
  have hlk := lookT ((Sep.f1 (H5.drew))) ((k : Int) + 1) (some text) (by rw [hJt]; exact HT.out)
  simp only [Option.getD_some, Option.isSome_some] at hlk
  have c0 : w1.cell? ⟨jb, 0, none⟩ = some (.map (some tb1)) := H5.c 0 rfl
  have c1 : w1.cell? ⟨jb, 1, none⟩ = some (.slice ps1 (k + 1) cs1) := H5.c 1 rfl
  clear H5 hcl1 hJt
  go_wp2_with fail
  go_region_held3 (fun W => W.cell? ⟨jb, 0, none⟩ = some (.map (some tb1)) ∧ W.cell? ⟨jb, 1, none⟩ = some (.slice ps1 (k + 1) cs1))
    (exact ⟨c0, c1⟩) (fail)
  obtain ⟨ob, off, rfl, hc⟩ := ((Sep.f2 (H6.out))).listElem k hb1
  have hcp : w1.cell? ⟨ob, off + k, none⟩ = some (.pointer (some ⟨bs1[k], 0, none⟩)) := hc
  have HCln := Lib.hid (stClone_any R _ _ bs1[k] n S HS.out (by omega) ((Sep.f3 (H6.out.drew.drew))))
  generalize hpb : bs1[k] = pb at *
  have HPb := Lib.hid hpb
  clear hc hlk c0 hpb
  have i1 : (k : Int) + 1 - 1 = (k : Int) := by omega
  have i2 : IntKind.i64.wrap (k : Int) = (k : Int) := by rw [IntKind.wrap_i64]; omega
  have i3 : IntKind.i64.wrap ((k : Int) + 1 - 1) = (k : Int) := by rw [IntKind.wrap_i64]; omega
  have i4 : (0 : Int) ≤ (k : Int) := by omega
  have i5 : (k : Int) < (k : Int) + 1 := by omega
  go_wp2_with fail
  go_region_held3 (fun W => W.cell? ⟨jb, 1, none⟩ = some (.slice (some ⟨ob, off, none⟩) (k + 1) cs1) ∧ W.cell? ⟨ob, off + k, none⟩ = some (.pointer (some ⟨pb, 0, none⟩)))
    (first
      | exact ⟨c1, hcp⟩
      | exact ⟨((Sep.f2 (H8))).c 1 rfl, by have := ((Sep.f4 (H8))).listCell k hb1; rw [HPb.out] at this; exact this⟩)
    (first
      | (go_at_call 23; refine Calls.mono HCln.out ?_; rintro e w2 ⟨b2, rfl, H8⟩))
  have H9 := Lib.hid (HCl1.out _ _ ((Sep.f3 (Sep.f4 (Sep.f4 (Sep.f4 (H8)))))))
  clear H8 hcp c1 HCln
  go_wp2_with fail
  obtain ⟨S2, hS2⟩ : ∃ S2, S2 = (stApply S text).2 := ⟨_, rfl⟩
  have hap := stApply_any R _ _ G b2 n S HS.out hn3 text ht2 ((Sep.f1 (H9.out)))
  have hok := apply_ok HS.out hn3 text
  rw [← hS2] at hap hok
  have HAp := Lib.hid hap
  have HOk := Lib.hid hok
  have HS2 := Lib.hid hS2
  clear hap hok hS2
  generalize (stApply S text).1 = res at *
  obtain ⟨r1, r2, r3, r4⟩ := res
  refine Calls.mono HAp.out ?_
  rintro e w3 ⟨v3, rfl, H10⟩
  have H11 := Lib.hid (H10.drop)
  simp only [resC]
  clear H10 HAp
  go_wp2_with fail
  have hE1 : evsLe J1.events N := by rw [hJ1]; exact HE.out
  refine Calls.mono (juHear_any R _ _ b2 jb (n + 50000) N S2 J1 HOk.out hn2 hE1 hN H11.out) ?_
  rintro e w4 ⟨rfl, H12⟩
  obtain ⟨tb3, eb3, sv3, bs3, es3, q3, q4, H13⟩ := ((Sep.f1 (H12))).ju
  obtain ⟨ps3, cs3, rfl⟩ := ((Sep.f2 (H13))).listSlice
  have hl3 : bs3.length = k + 1 := by rw [q4]; simp only; rw [hJ1]; exact hk2
  rw [hl3] at H13
  have HL3 := Lib.hid hl3
  have c1 : w4.cell? ⟨jb, 1, none⟩ = some (.slice ps3 (k + 1) cs3) := H13.c 1 rfl
  have HQ3 := Lib.hid q3
  have HQ4 := Lib.hid q4
  have H14 := Lib.hid H13
  clear H12 H13 q3 q4 hE1 hl3
  go_wp2_with (at_builtin; refine Hid.out ?_)
  refine Lib.hid (wpList_append_list (enc := ptrV) (news := [b2]) rfl _ _ 26 26 36 rfl Tryz.underlying26 Tryz.underlying26 (.inr ⟨_, rfl⟩) st_info rfl rfl rfl (Orch.Src.one1 b2 rfl rfl (H14.out.mkc _ _)) ((Sep.f3 ((H14.out.mkc _ _)))) ?c1 ?c2 ?_)
  case c1 => exact cap_ok1 HL3.out hk3 b2
  case c2 => exact cap_ok2 HL3.out hk3 b2
  intro v' w5 H15
  obtain ⟨p5, c5, hv5⟩ := H15.listSlice
  have hl5 : (bs3 ++ [b2]).length = k + 2 := by rw [List.length_append, HL3.out]; rfl
  rw [hl5] at hv5
  subst hv5
  have k1 : w5.cell? ⟨jb, 1, none⟩ = some (.slice ps3 (k + 1) cs3) := ((Sep.f2 (H15))).c 1 rfl
  have kfz := ((Sep.f2 (H15))).fz
  have H16 := ((Sep.f2 ((((Sep.f2 (H15))).st 1 (.slice p5 (k + 2) c5))))).drop
  have e0 : World.cell? _ ⟨jb, 0, none⟩ = some (.map (some tb3)) := H16.c 0 rfl
  have e1 : World.cell? _ ⟨jb, 1, none⟩ = some (.slice p5 (k + 2) c5) := H16.c 1 rfl
  have hJt : J1.texts = aput J.texts ((k : Int) + 1) text := by rw [hJ1]
  have hlk := lookT ((Sep.f2 (H16.drew))) ((k : Int) + 2) none (by rw [hJt]; exact HT1.out)
  simp only [Option.getD_none, Option.isSome_none] at hlk
  have H17 := (Sep.f3 (Sep.f3 (Sep.f2 (Sep.f3 (H16)))))
  have hst : List.zipWith stAt bs3 J1.states ++ stAt b2 S2 :: l = List.zipWith stAt (bs3 ++ [b2]) (J1.states ++ [S2]) ++ l := by
    rw [List.zipWith_append (by have := HQ4.out; simpa using this)]
    simp
  rw [hst] at H17
  have H18 := Lib.hid (Sep.mkju (J := juNext J ((k : Int) + 1) text S) (by have := HQ3.out; rw [this]; simp only [juNext]; rw [← HS2.out, hJ1]) (by rw [hl5]; simp only [juNext, List.length_append, hk2]; rfl) (by simp only [juNext]; rw [← HS2.out]; have := H17; rw [hJ1] at this; exact this))
  clear c1 H15 H16 H17 hst hJt hl5
  go_wp2_with fail
  rw [rounds_succ]
  go_wp2_with fail
  go_region_held3 (fun W => W.cell? ⟨jb, 0, none⟩ = some (.map (some tb3)) ∧ W.cell? ⟨jb, 1, none⟩ = some (.slice p5 (k + 2) c5))
    (exact ⟨e0, e1⟩) (fail)
  go_wp2
  go_ret
  exact ⟨rfl, H18.out.drew⟩
end Go.Proofs.YtpeflgfldbjflaaGreatDoor
end
