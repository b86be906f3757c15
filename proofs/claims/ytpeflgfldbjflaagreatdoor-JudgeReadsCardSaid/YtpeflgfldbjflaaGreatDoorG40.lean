/- WHAT IS PROVED HERE: The laws' own functions: what Fixed comes to, and its states as one assertion; The laws' own functions: Fixed. -/
import Derived.Test.YtpeflgfldbjflaaGreatDoorG11
import Derived.Test.YtpeflgfldbjflaaGreatDoorG39
set_option linter.unusedVariables false
set_option linter.unusedSimpArgs false
set_option linter.unusedSectionVars false
set_option linter.unnecessarySimpa false
section
namespace Go.Orch
open Go.RowKit Go.Proofs
def fixF (ts : List ByteArray) : List StV := ts.foldl (fun Ss t => Ss ++ [(stApply (Ss.getLastD stZ) t).2]) [stZ]
theorem fixF_snoc (ts : List ByteArray) (t : ByteArray) : fixF (ts ++ [t]) = fixF ts ++ [(stApply ((fixF ts).getLastD stZ) t).2] := by simp [fixF]
theorem snoc_ind {α : Type} {p : List α → Prop} (h0 : p []) (h1 : ∀ l a, p l → p (l ++ [a])) (l : List α) : p l := by
  have : ∀ n (l : List α), l.length = n → p l := by
    intro n
    induction n with
    | zero => intro l hl; rw [List.eq_nil_of_length_eq_zero hl]; exact h0
    | succ n ih =>
      intro l hl
      rcases List.eq_nil_or_concat l with h | ⟨l', a, h⟩
      · rw [h]; exact h0
      · rw [h]
        simp only [List.concat_eq_append] at h ⊢
        exact h1 _ _ (ih _ (by rw [h] at hl; simpa using hl))
  exact this _ l rfl
theorem fixF_len (ts : List ByteArray) : (fixF ts).length = ts.length + 1 := by
  refine snoc_ind (p := fun ts => (fixF ts).length = ts.length + 1) rfl (fun l a ih => ?_) ts
  rw [fixF_snoc, List.length_append, ih, List.length_append]; rfl
theorem stZ_ok : stZ.ok 0 := by
  refine ⟨⟨by decide, fun x hx => ?_, by decide⟩, ⟨⟨by decide, fun x hx => by simp [stZ] at hx, by decide⟩, fun x hx => by simp [stZ] at hx⟩, ⟨by decide, by decide, fun id => ?_, by decide, by decide⟩, by decide, by decide⟩
  · have : x = (slash, nodeZ) := by simpa [stZ] using hx
    subst this
    exact ⟨by decide, by decide, by decide⟩
  · simp [BookV.no, stZ, aget]
theorem fixF_ok (ts : List ByteArray) (hn : ts.length ≤ 1000) : ∀ k (hk : k < (fixF ts).length), ((fixF ts)[k]).ok (50000 * k) := by
  revert hn
  refine snoc_ind (p := fun ts => ts.length ≤ 1000 → ∀ k (hk : k < (fixF ts).length), ((fixF ts)[k]).ok (50000 * k)) ?_ (fun l a ih hn => ?_) ts
  · intro _ k hk
    have : k = 0 := by have : k < 1 := hk; omega
    subst this
    exact stZ_ok
  · intro k hk
    have hl : l.length ≤ 1000 := by rw [List.length_append] at hn; omega
    have hlen := fixF_len l
    have hk2 : k < (fixF l).length + 1 := by rw [fixF_snoc, List.length_append] at hk; exact hk
    by_cases h : k < (fixF l).length
    · have e : (fixF (l ++ [a]))[k] = (fixF l)[k] := by
        simp only [fixF_snoc]
        rw [List.getElem_append_left h]
      rw [e]
      exact ih hl k h
    · have hk3 : k = (fixF l).length := by omega
      have e : (fixF (l ++ [a]))[k] = (stApply ((fixF l).getLastD stZ) a).2 := by
        simp only [fixF_snoc]
        subst hk3
        simp
      rw [e]
      have hne : fixF l ≠ [] := fun h => by rw [h] at hlen; simp at hlen
      have e2 : (fixF l).getLastD stZ = (fixF l)[l.length]'(by omega) := by
        have h5 : (fixF l)[(fixF l).length - 1]? = some ((fixF l)[l.length]'(by omega)) := by
          rw [show (fixF l).length - 1 = l.length by omega]
          exact List.getElem?_eq_getElem (by omega)
        rw [List.getLastD_eq_getLast?, List.getLast?_eq_getElem?, h5]
        rfl
      rw [e2]
      have h2 := apply_ok (ih hl l.length (by omega)) (by omega) a
      have h3 : 50000 * k = 50000 * l.length + 50000 := by rw [hk3, hlen, Nat.mul_add]
      rw [h3]
      exact h2
theorem fixF_last (ts : List ByteArray) (h : ts.length < (fixF ts).length) : (fixF ts).getLastD stZ = (fixF ts)[ts.length] := by
  have h5 : (fixF ts)[(fixF ts).length - 1]? = some ((fixF ts)[ts.length]) := by
    rw [show (fixF ts).length - 1 = ts.length by rw [fixF_len]; rfl]
    exact List.getElem?_eq_getElem h
  rw [List.getLastD_eq_getLast?, List.getLast?_eq_getElem?, h5]
  rfl
def stsAt (bs : List Nat) (Ss : List StV) : HP := sepl (List.zipWith stAt bs Ss)
theorem Sep.stsTake {R w : World} {l : List HP} {bs : List Nat} {Ss : List StV} (k : Nat) (hk : k < bs.length) (hk2 : k < Ss.length) (H : Orch.Sep R w (stsAt bs Ss :: l)) : ∃ X : HP, Orch.Sep R w (stAt bs[k] Ss[k] :: X :: l) ∧ ∀ w' l', Orch.Sep R w' (stAt bs[k] Ss[k] :: X :: l') → Orch.Sep R w' (stsAt bs Ss :: l') := by
  refine ⟨sepl ((List.zipWith stAt bs Ss).eraseIdx k), (Sep.f1 ((Sep.join ((Sep.perm (Sep.stTake k hk hk2 (Sep.apart H)) (List.perm_middle (l₁ := (List.zipWith stAt bs Ss).eraseIdx k)).symm))))), fun w' l' H' => ?_⟩
  exact Sep.join (Sep.stPut k hk hk2 (Sep.perm (Sep.apart ((Sep.f1 (H')))) (List.perm_middle (l₁ := (List.zipWith stAt bs Ss).eraseIdx k))))
theorem Sep.stsTake' {R w : World} {l : List HP} {bs : List Nat} {Ss : List StV} (k : Nat) (hk : k < bs.length) (hk2 : k < Ss.length) (pb : Nat) (hpb : bs[k] = pb) (S : StV) (hS : Ss[k] = S) (H : Orch.Sep R w (stsAt bs Ss :: l)) : ∃ X : HP, Orch.Sep R w (stAt pb S :: X :: l) ∧ ∀ w' l', Orch.Sep R w' (stAt pb S :: X :: l') → Orch.Sep R w' (stsAt bs Ss :: l') := by
  subst hpb hS
  exact Sep.stsTake k hk hk2 H
theorem fixF_okLast (ts : List ByteArray) (hn : ts.length ≤ 1000) : ((fixF ts).getLastD stZ).ok (50000 * ts.length) := by
  have h : ts.length < (fixF ts).length := by rw [fixF_len]; omega
  have := fixF_ok ts hn ts.length h
  rw [← fixF_last ts h] at this
  exact this
theorem Sep.stsMore {R w : World} {l : List HP} {bs : List Nat} {Ss : List StV} {b : Nat} {S : StV} (hl : bs.length = Ss.length) (H : Orch.Sep R w (stAt b S :: stsAt bs Ss :: l)) : Orch.Sep R w (stsAt (bs ++ [b]) (Ss ++ [S]) :: l) :=
  Sep.join (Sep.stMore hl (Sep.perm (Sep.apart ((Sep.f1 (H)))) (List.perm_middle (l₁ := List.zipWith stAt bs Ss))))
theorem Sep.sts1 {R w : World} {l : List HP} {b : Nat} {S : StV} (H : Orch.Sep R w (stAt b S :: l)) : Orch.Sep R w (stsAt [b] [S] :: l) := Sep.join (l' := [stAt b S]) H
end Go.Orch
end
section
namespace Go.Orch
open Go.RowKit
theorem bytes_small (c : CmdV) : c.bytes.1.size ≤ 488 := by
  unfold CmdV.bytes
  split
  · exact Nat.zero_le _
  split
  · exact Nat.zero_le _
  · rename_i h
    show (bytesOfB c.lay).size ≤ 488
    have : (bytesOfB c.lay).size = c.lay.length := by simp [bytesOfB, ByteArray.size]
    omega
end Go.Orch
namespace Go.Proofs.YtpeflgfldbjflaaGreatDoor
open Go.RowKit Go.Orch Go.Shelf
theorem cap_ok3 {m k : Nat} (h : m = k) (hk : k ≤ 100000) (b : ByteArray) : m + [b].length ≤ maxLen := by
  unfold maxLen
  simp only [List.length_cons, List.length_nil]
  omega
theorem cap_ok4 {m k : Nat} (h : m = k) (hk : k ≤ 100000) (b : ByteArray) : (m + [b].length) * 16 ≤ 140737488355328 := by
  simp only [List.length_cons, List.length_nil]
  omega
set_option maxRecDepth 100000 in
set_option maxHeartbeats 4000000 in
theorem fixed_any (R w : World) (l : List HP) (G : GoodR R) (cs : List CmdE) (v : Value) (hv : RowIn R cmdE v cs) (hl : cs.length ≤ 40) (hops : ∀ x ∈ cs, x.1.ops.length ≤ 10 ∧ x.inR R) (H : Orch.Sep R w l) :
    Calls Tryz.prog 7 #[v] w fun e w' => ∃ v1 v2, e = .returned (.tuple #[v1, v2]) ∧ ∃ ts bs, (ts.length = cs.length + 3 ∧ (∀ t ∈ ts, t.size ≤ 488) ∧ bs.length = ts.length + 1) ∧ Orch.Sep R w' (strS v1 ts :: listS ptrV v2 bs :: stsAt bs (fixF ts) :: l) := by
  have H0 : Orch.Sep R _ (strS (.slice (some ⟨w.heap.size, 0, none⟩) 0 0) [] :: l) := (H.mkc #[] 9).imp fun h hh => ⟨rfl, Or.inr ⟨w.heap.size, 0, [], [], rfl, Nat.le_refl _, Nat.zero_le _, by simp, hh⟩⟩
  have HC := Lib.hid (fun w l H => cmds_any R w l cs v hv hl hops H)
  have H1 := Lib.hid H0
  clear H H0
  go_enter Tryz.func7, Tryz.ntmps7
  go_wp2_with fail
  refine Calls.mono (stNew_any R _ _ H1.out) ?_
  rintro e w1 ⟨sb, rfl, H2⟩
  have H3 : Orch.Sep R _ (listS ptrV (.slice (some ⟨w1.heap.size, 0, none⟩) 1 1) [sb] :: _) := (H2.mkc #[.pointer (some ⟨sb, 0, none⟩)] 36).imp (B := listS ptrV (.slice (some ⟨w1.heap.size, 0, none⟩) 1 1) [sb]) (fun h hh => ⟨rfl, Or.inr ⟨w1.heap.size, 1, [], [], rfl, Nat.le_refl _, by decide, by simp, hh⟩⟩)
  have H4 := Lib.hid (((Sep.f1 (H3))).sts1)
  clear H2 H3 H1
  go_wp2_with fail
  refine Calls.mono (HC.out _ _ H4.out) ?_
  rintro e w2 ⟨cv, rfl, ds, hds, H5⟩
  obtain ⟨p, k, rfl⟩ := H5.recSlice
  have HDs := Lib.hid hds
  have hdl : ds.length ≤ 43 := by have := hds.1; omega
  have H6 := Lib.hid ((Sep.f3 (Sep.f2 (Sep.f2 (H5)))))
  clear hds H5 H4 HC
  go_wp2_with fail
  go_loopw [4, 5, 16] (fun tv sv i wr => ∃ (j : Nat) (ts : List ByteArray) (bs : List Nat), j ≤ ds.length ∧ i = .int .i64 j ∧ ts.length = j ∧ (∀ t ∈ ts, t.size ≤ 488) ∧ bs.length = j + 1 ∧ Orch.Sep R wr (strS tv ts :: stsAt bs (fixF ts) :: listS ptrV sv bs :: cmdS (.slice p ds.length k) ds :: l)) (fun _ _ i _ => ds.length - (intOf i).toNat)
  case atStart => exact ⟨0, [], [sb], Nat.zero_le _, rfl, rfl, by simp, rfl, (Sep.f3 (Sep.f3 (Sep.f3 (Sep.f3 (H6.out)))))⟩
  case round =>
    obtain ⟨j, ts, bs, hj, rfl, ht1, ht2, hb1, H7⟩ := hrel
    have HT2 := Lib.hid ht2
    have HT1 := Lib.hid ht1
    have HB1 := Lib.hid hb1
    clear ht2
    by_cases hlt : j < ds.length
    · have hlti : (j : Int) < (ds.length : Int) := by omega
      obtain ⟨cb, off, hpe, d0, d1, d2, d3, d4, d5, d6, d7⟩ : ∃ (cb : Nat) (off : Nat), p = some ⟨cb, off, none⟩ ∧ wr.cell? ⟨cb, off + j * 8, none⟩ = some (.int .i64 ds[j].1.kind) ∧ wr.cell? ⟨cb, off + j * 8 + 1, none⟩ = some (.int .i64 ds[j].1.session) ∧ wr.cell? ⟨cb, off + j * 8 + 2, none⟩ = some (.int .i64 ds[j].1.req) ∧ wr.cell? ⟨cb, off + j * 8 + 3, none⟩ = some (.int .i64 ds[j].1.noted) ∧ wr.cell? ⟨cb, off + j * 8 + 4, none⟩ = some ds[j].2 ∧ wr.cell? ⟨cb, off + j * 8 + 5, none⟩ = some (.string ds[j].1.path) ∧ wr.cell? ⟨cb, off + j * 8 + 6, none⟩ = some (.bool ds[j].1.kids) ∧ wr.cell? ⟨cb, off + j * 8 + 7, none⟩ = some (.bool ds[j].1.once) := by
        rcases ((Sep.f3 (H7))).recOpen with ⟨_, h0, _⟩ | ⟨b', cap, pre, post, h0, h1, h2, h3, h4, H1⟩
        · rw [h0] at hlt; exact absurd hlt (Nat.not_lt_zero _)
        · injection h0 with h0 _ _
          exact ⟨b', pre.length, h0, H1.elem (sz := 8) cmdE_len j hlt 0 rfl, H1.elem (sz := 8) cmdE_len j hlt 1 rfl, H1.elem (sz := 8) cmdE_len j hlt 2 rfl, H1.elem (sz := 8) cmdE_len j hlt 3 rfl, H1.elem (sz := 8) cmdE_len j hlt 4 rfl, H1.elem (sz := 8) cmdE_len j hlt 5 rfl, H1.elem (sz := 8) cmdE_len j hlt 6 rfl, H1.elem (sz := 8) cmdE_len j hlt 7 rfl⟩
      subst hpe
      have hx := HDs.out.2 ds[j] (List.getElem_mem hlt)
      obtain ⟨tp, tc, rfl⟩ := H7.listSlice
      obtain ⟨sp, sc, hsv⟩ := ((Sep.f2 (H7))).listSlice
      rw [hb1] at hsv
      subst hsv
      have H8 := Lib.hid H7
      clear H7
      generalize ds[j] = x at *
      have HTx := Lib.hid (fun w l H => lawText_any R w l x.1 x.2 (by omega) hx.2 H)
      have HX := Lib.hid hx.2
      have hts := bytes_small x.1
      clear hx
      obtain ⟨⟨a1, a2, a3, a4, ops, a6, a7, a8⟩, xv⟩ := x
      obtain ⟨xp, xk, hxv, _⟩ := HX.out
      simp only at d0 d1 d2 d3 d4 d5 d6 d7 hxv
      subst hxv
      simp only [cmdC] at HTx
      generalize (⟨a1, a2, a3, a4, ops, a6, a7, a8⟩ : CmdV).bytes.1 = t at *
      have HTs := Lib.hid hts
      clear hts ht1 hb1
      go_wp2_with fail
      refine Calls.mono (HTx.out _ _ (H8.out.mkc _ _)) ?_
      rintro e w3 ⟨rfl, H9⟩
      have H10 := Lib.hid H9.drop
      clear H9 HTx d0 d1 d2 d3 d4 d5 d6 d7
      have hj3 : j ≤ 100000 := by omega
      go_wp2_with (at_builtin; refine Hid.out ?_)
      refine Lib.hid (wpList_append_list (enc := Value.string) (news := [t]) rfl _ _ 25 25 9 rfl Tryz.underlying25 Tryz.underlying25 (.inr ⟨_, rfl⟩) str_info rfl rfl rfl (Orch.Src.one1 t rfl rfl (H10.out.mkc _ _)) ((Sep.f1 ((H10.out.mkc _ _)))) ?c1 ?c2 ?_)
      case c1 => exact cap_ok3 HT1.out hj3 t
      case c2 => exact cap_ok4 HT1.out hj3 t
      intro tv w4 H11
      have H12 := ((Sep.f1 (H11))).drop
      have hl1 : j < bs.length := by rw [HB1.out]; omega
      have hl2 : j < (fixF ts).length := by rw [fixF_len, HT1.out]; omega
      have hok := fixF_okLast ts (by rw [HT1.out]; omega)
      have hlast : (fixF ts)[j] = (fixF ts).getLastD stZ := by
        have h := fixF_last ts (by rw [fixF_len]; omega)
        refine Eq.trans ?_ h.symm
        congr 1
        exact HT1.out.symm
      obtain ⟨pb, hpb⟩ : ∃ pb, bs[j] = pb := ⟨_, rfl⟩
      rw [HT1.out] at hok
      obtain ⟨S1, hS1⟩ : ∃ S1, (fixF ts).getLastD stZ = S1 := ⟨_, rfl⟩
      rw [hS1] at hok hlast
      have HS1 := Lib.hid hS1
      obtain ⟨X, H13, hcl⟩ := Sep.stsTake' j hl1 hl2 pb hpb S1 hlast ((Sep.f1 (H12)))
      obtain ⟨ob, of2, rfl, hc⟩ := ((Sep.f3 (H13))).listElem j hl1
      have cp : w4.cell? ⟨ob, of2 + j, none⟩ = some (.pointer (some ⟨pb, 0, none⟩)) := hc.trans (congrArg some (congrArg ptrV hpb))
      have HCl := Lib.hid hcl
      have hn3 : 50000 * j ≤ 70000000 := by omega
      have HCln := Lib.hid (stClone_any R _ _ pb (50000 * j) S1 hok (by omega) H13)
      have HOk := Lib.hid hok
      have i1 : (j : Int) + 1 - 1 = (j : Int) := by omega
      clear H10 H11 H12 H13 hcl hc hok hlast hpb hS1
      go_wp2_with fail
      refine Calls.mono HCln.out ?_
      rintro e w5 ⟨b2, rfl, H14⟩
      have H15 := Lib.hid ((Sep.f1 ((HCl.out _ _ ((Sep.f2 (Sep.f2 (H14))))))))
      clear H14 HCln cp
      obtain ⟨S2, hS2⟩ : ∃ S2, S2 = (stApply S1 t).2 := ⟨_, rfl⟩
      have HS2 := Lib.hid hS2
      have hap := stApply_any R w5 _ G b2 (50000 * j) S1 HOk.out hn3 t (Nat.le_trans HTs.out (by unfold maxLen; omega)) H15.out
      rw [← hS2] at hap
      have HAp := Lib.hid hap
      clear hap hS2
      generalize (stApply S1 t).1 = res at *
      obtain ⟨q1, q2, q3, q4⟩ := res
      go_wp2_with fail
      refine Calls.mono HAp.out ?_
      rintro e w6 ⟨v6, rfl, H16⟩
      have H17 := Lib.hid (H16.drop)
      simp only [resC]
      clear H16 HAp
      go_wp2_with (at_builtin; refine Hid.out ?_)
      refine Lib.hid (wpList_append_list (enc := ptrV) (news := [b2]) rfl _ _ 26 26 36 rfl Tryz.underlying26 Tryz.underlying26 (.inr ⟨_, rfl⟩) st_info rfl rfl rfl (Orch.Src.one1 b2 rfl rfl (H17.out.mkc _ _)) ((Sep.f4 ((H17.out.mkc _ _)))) ?c3 ?c4 ?_)
      case c3 => exact cap_ok1 HB1.out hj3 b2
      case c4 => exact cap_ok2 HB1.out hj3 b2
      intro sv w7 H18
      have hfx : fixF (ts ++ [t]) = fixF ts ++ [S2] := by rw [fixF_snoc, HS1.out, ← HS2.out]
      have H19 := Sep.stsMore (by rw [fixF_len, HT1.out]; exact HB1.out) ((Sep.f2 (Sep.f2 (((Sep.f1 (H18))).drop))))
      rw [← hfx] at H19
      have H20 := Lib.hid ((Sep.f2 (Sep.f1 (Sep.f1 (H19)))))
      clear H18 H19 hfx H17
      go_wp2_with fail
      go_roundw
      case rel => exact ⟨j + 1, ts ++ [t], bs ++ [b2], hlt, by go_num, by rw [List.length_append, HT1.out]; rfl, fun u hu => by
        rcases List.mem_append.1 hu with hu | hu
        · exact HT2.out u hu
        · obtain rfl := List.mem_singleton.1 hu
          exact HTs.out, by rw [List.length_append, HB1.out]; rfl, H20.out⟩
      case measure => simp [intOf]; omega
    · obtain rfl : j = ds.length := by omega
      have hlti : ¬ (ds.length : Int) < (ds.length : Int) := by omega
      have H8 := Lib.hid ((Sep.f3 (H7))).drop
      clear H7 ht1 hb1
      go_wp2
      go_ret2
      exact ⟨_, _, rfl, ts, bs, ⟨by rw [HT1.out]; exact HDs.out.1, HT2.out, by rw [HB1.out, HT1.out]⟩, (Sep.f2 (Sep.f2 (Sep.f1 (H8.out))))⟩
end Go.Proofs.YtpeflgfldbjflaaGreatDoor
end
