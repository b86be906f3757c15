/- WHAT IS PROVED HERE: Laws for slices.Insert at structs. No program in sight; slices.Insert of one watch. -/
import Derived.Test.YtpeflgfldbjflaaGreatDoorG24
import Derived.Test.YtpeflgfldbjflaaGreatDoorG19
import Derived.Lib.Overlaps
import Derived.Lib.AppendZerosOnto
import Derived.Shelf.Spec.SlicesInsert
set_option linter.unusedVariables false
set_option linter.unusedSimpArgs false
set_option linter.unusedSectionVars false
set_option linter.unnecessarySimpa false
section
namespace Go.Orch
open Go.RowKit
theorem run_copy_k {P : Program} (w : World) (dT sT ty elem : TypeId) (sz b o dLen dCap : Nat) (a : Addr) (sLen sCap : Nat) (cs : List Value) (hu : P.underlying dT = some (.slice elem)) (hs : (P.info? elem).map (·.size) = some sz) (hn : cs.length = Nat.min sLen dLen * sz)
    (hsrc : ∀ j v, cs[j]? = some v → w.cell? (a.add j) = some v) (hc : ∀ j, j < cs.length → (w.cell? ⟨b, o + j, none⟩).isSome = true) (hf : ∀ j, w.frozen? ⟨b, o + j, none⟩ = false) (h1 : ∀ v ∈ cs, v.oneCell' = true) :
    (Builtin.copy_ #[dT, sT] ty #[.slice (some ⟨b, o, none⟩) dLen dCap, .slice (some a) sLen sCap]).run P w = .ok (goInt (Nat.min sLen dLen)) (w.setCells b o cs) := by
  have hl := run_loadCells_list (P := P) w a cs hsrc
  have hst := run_storeCells_cells (P := P) b o cs 0 w (by simpa using hc) (by intro j _; simpa using hf j) h1
  cases hq : P.info? elem with
  | none => simp [hq] at hs
  | some i =>
    have hi : i.size = sz := by simpa [hq] using hs
    rw [hn] at hl
    simp only [Nat.add_zero] at hst
    simp [Builtin.copy_, run_underlying hu, Builtin.lenOf, Builtin.firstCells, sizeOf, typeInfo, hq, hi, hl, hst]
section
variable {R w : World} {l : List HP} {α : Type} {enc : α → List Value} {sz : Nat}
theorem Sep.setMid {b : Nat} {A old B vs : List Value} {cs : Array Value} (hl : old.length = vs.length) (hcs : cs = (A ++ old ++ B).toArray) (H : Sep R w (Orch.cellsAt b cs :: l)) (o : Nat) (ho : o = A.length) : Sep R (w.setCells b o vs) (Orch.cellsAt b (A ++ vs ++ B).toArray :: l) := by
  subst ho hcs
  exact Sep.setCells B vs A old w hl H
theorem Sep.shift {b : Nat} {pre post : List Value} {ys : List α} (hk : ∀ x, (enc x).length = sz) (i : Nat) (hi : i < ys.length) (hp : sz ≤ post.length) (x : α) (H : Sep R w (rowE b pre enc ys post :: l)) :
    Sep R ((w.setCells b (pre.length + (i + 1) * sz) ((ys.drop i).flatMap enc)).setCells b (pre.length + i * sz) (enc x)) (rowE b pre enc (ys.take i ++ x :: ys.drop i) (post.drop sz) :: l) := by
  have e0 : ys.flatMap enc = (ys.take i).flatMap enc ++ enc ys[i] ++ (ys.drop (i + 1)).flatMap enc := by
    have := flatMap_split (enc := enc) ys i hi ys[i]
    rw [List.set_getElem_self] at this
    exact this
  have e1 : pre ++ ys.flatMap enc ++ post = (pre ++ (ys.take i).flatMap enc ++ enc ys[i]) ++ ((ys.drop (i + 1)).flatMap enc ++ post.take sz) ++ post.drop sz := by
    rw [e0]
    simp
  have h3 : (pre ++ (ys.take i).flatMap enc).length = pre.length + i * sz := by rw [List.length_append, flatMap_len hk, List.length_take, Nat.min_eq_left (by omega)]
  have h4 : (pre ++ (ys.take i).flatMap enc ++ enc ys[i]).length = pre.length + (i + 1) * sz := by rw [List.length_append, h3, hk, Nat.add_mul]; omega
  have H1 := Sep.setMid (vs := (ys.drop i).flatMap enc) (by
    rw [List.length_append, flatMap_len hk, flatMap_len hk, List.length_take, List.length_drop, List.length_drop, Nat.min_eq_left hp, ← Nat.succ_mul]
    congr 1
    omega) (congrArg List.toArray e1) H _ h4.symm
  have H2 := Sep.setMid (A := pre ++ (ys.take i).flatMap enc) (old := enc ys[i]) (B := (ys.drop i).flatMap enc ++ post.drop sz) (vs := enc x) (by rw [hk, hk]) (by simp) H1 _ h3.symm
  unfold rowE
  have e5 : pre ++ (ys.take i ++ x :: ys.drop i).flatMap enc ++ post.drop sz = pre ++ (ys.take i).flatMap enc ++ enc x ++ ((ys.drop i).flatMap enc ++ post.drop sz) := by simp
  rw [e5]
  exact H2
theorem Sep.shape {b : Nat} {cs : Array Value} (H : Sep R w (Orch.cellsAt b cs :: l)) : ∃ t, w.shape? b = some (t, cs.size) := by
  obtain ⟨t, H1⟩ := H.cellsE
  exact ⟨t, by simp [World.shape?, H1.block.2]⟩
end
end Go.Orch
end
section
namespace Go.Proofs.YtpeflgfldbjflaaGreatDoor
open Go.RowKit Go.Orch Go.Shelf
theorem watch_info : (Tryz.prog.info? 144).map (fun i => (i.zero, i.size, i.bytes)) = some (some (.agg #[.int .i64 0, .string ⟨#[]⟩, .bool false, .bool false]), 4, 32) := by kernel_rfl
theorem watch_size : (Tryz.prog.info? 144).map (·.size) = some 4 := by kernel_rfl
theorem watch_one (ys : List WatchV) : ∀ v ∈ ys.flatMap watchC, v.oneCell' = true := by
  intro v hv
  obtain ⟨y, _, h⟩ := List.mem_flatMap.1 hv
  simp only [watchC, List.mem_cons, List.not_mem_nil, or_false] at h
  rcases h with rfl | rfl | rfl | rfl <;> rfl
theorem insW_src {R w : World} {l : List HP} {vb c : Nat} (x : WatchV) (H : Sep R w (cellsAt vb (watchC x).toArray :: l)) : Orch.Src Tryz.prog w (.slice (some ⟨vb, 0, none⟩) 1 c) 4 1 ([x].flatMap watchC) :=
  Orch.Src.cells vb 0 c _ rfl (fun j u hj => H.c (0 + j) (by simpa using hj)) (watch_one [x])
set_option maxRecDepth 100000 in
set_option maxHeartbeats 4000000 in
theorem insW_end (R : World) (l : List HP) (v : Value) (xs : List WatchV) (x : WatchV) (vb : Nat) (hn : xs.length ≤ 1000) (w : World) (H : Sep R w (watchS v xs :: cellsAt vb (watchC x).toArray :: l)) :
    Calls Tryz.prog 132 #[v, .int .i64 xs.length, .slice (some ⟨vb, 0, none⟩) 1 1] w fun e w' => ∃ v', e = .returned v' ∧ Sep R w' (watchS v' (xs ++ [x]) :: cellsAt vb (watchC x).toArray :: l) := by
  obtain ⟨p, c, rfl⟩ := H.recSlice
  have hS := insW_src (c := 1) x ((Sep.f1 (H)))
  have HS := Lib.hid hS
  have H1 := Lib.hid H
  have hb1 : xs.length + [x].length ≤ maxLen := by simp [maxLen]; omega
  have hb2 : (xs.length + [x].length) * 32 ≤ 140737488355328 := by simp; omega
  clear H hS
  by_cases hc : c = xs.length
  · subst hc
    go_enter Tryz.func132, Tryz.ntmps132
    go_wp2_with (at_builtin; refine Hid.out ?_)
    all_goals
      refine Lib.hid (wpList_append_rec (sz := 4) (enc := watchC) (by decide) (fun _ => rfl) rfl _ _ 134 134 144 rfl Tryz.underlying134 Tryz.underlying134 (.inr ⟨_, rfl⟩) watch_info rfl (xs := xs) (news := [x]) rfl rfl HS.out H1.out hb1 hb2 ?_)
      intro v' w' H2
      have H3 := Lib.hid H2
      clear H2
      go_wp2
      go_ret
      exact ⟨_, rfl, H3.out⟩
  ·
    go_enter Tryz.func132, Tryz.ntmps132
    go_wp2_with (at_builtin; refine Hid.out ?_)
    all_goals
      refine Lib.hid (wpList_append_rec (sz := 4) (enc := watchC) (by decide) (fun _ => rfl) rfl _ _ 134 134 144 rfl Tryz.underlying134 Tryz.underlying134 (.inr ⟨_, rfl⟩) watch_info rfl (xs := xs) (news := [x]) rfl rfl HS.out H1.out hb1 hb2 ?_)
      intro v' w' H2
      have H3 := Lib.hid H2
      clear H2
      go_wp2
      go_ret
      exact ⟨_, rfl, H3.out⟩
theorem Sep.ne2 {R w : World} {l : List HP} {a b : Nat} {cs ds : Array Value} (H : Sep R w (cellsAt a cs :: cellsAt b ds :: l)) : a ≠ b := by
  obtain ⟨bel, h, s, h1, h2, d, s1, s2, ⟨t, e1⟩, h3, h4, d', s3, s4, ⟨t', e2⟩, _⟩ := H
  rintro rfl
  rcases d a with e | e
  · rw [show h1 a = _ from e1] at e; cases e
  · have := s3 a _ e2
    rw [e] at this; cases this
set_option maxRecDepth 100000 in
set_option maxHeartbeats 4000000 in
theorem insW_shift (R : World) (l : List HP) (b cap : Nat) (pre post : List Value) (xs : List WatchV) (i : Nat) (x : WatchV) (vb : Nat) (hi : i < xs.length) (hn : xs.length ≤ 1000) (hroom : xs.length + 1 ≤ cap) (hcm : cap ≤ maxLen) (hpost : (cap - xs.length) * 4 ≤ post.length) (w : World) (H : Sep R w (rowE b pre watchC xs post :: cellsAt vb (watchC x).toArray :: l)) :
    Calls Tryz.prog 132 #[.slice (some ⟨b, pre.length, none⟩) xs.length cap, .int .i64 i, .slice (some ⟨vb, 0, none⟩) 1 1] w fun e w' => e = .returned (.slice (some ⟨b, pre.length, none⟩) (xs.length + 1) cap) ∧ Sep R w' (rowE b pre watchC (xs.take i ++ x :: xs.drop i) (post.drop 4) :: cellsAt vb (watchC x).toArray :: l) := by
  have hne : vb ≠ b := (Sep.ne2 ((Sep.f1 (H)))) 
  obtain ⟨tA, hsa⟩ := ((Sep.f1 (H))).shape
  obtain ⟨tB, hsb⟩ := Sep.shape H
  have hfz := H.fz
  have hfv := ((Sep.f1 (H))).fz
  have hkB : (pre ++ xs.flatMap watchC ++ post).toArray.size ≠ 0 := by
    simp only [List.size_toArray, List.length_append, flatMap_len (enc := watchC) (sz := 4) (fun _ => rfl)]
    omega
  have hov : ∀ lb cb, (callFunc 151 #[.slice (some ⟨vb, 0, none⟩) 1 1, .slice (some ⟨b, pre.length + (i + 1) * 4, none⟩) lb cb]).run Tryz.prog w = .ok (.value (.bool false)) w := fun lb cb => by
    rw [run_callFunc_extern Tryz.func151 (by kernel_rfl) (by kernel_rfl) (by kernel_rfl) (e := Extern.SlicesOverlaps.overlaps #[134, 134] #[4]) (by kernel_rfl),
      Lib.run_overlaps_apart w 134 4 144 Tryz.underlying134 4 Tryz.sizeOf144 ⟨vb, 0, none⟩ ⟨b, pre.length + (i + 1) * 4, none⟩ 1 1 lb cb hne tA tB _ _ hsa hsb hkB (hfv _) (hfv _)]
    rfl
  have hsome := fun j hj => Sep.someCell (enc := watchC) (sz := 4) (fun _ => rfl) H j hj
  have hcp1 : ∀ ty dc sc, (Builtin.copy_ #[134, 134] ty #[.slice (some ⟨b, pre.length + (i + 1) * 4, none⟩) (xs.length - i) dc, .slice (some ⟨b, pre.length + i * 4, none⟩) (xs.length + 1 - i) sc]).run Tryz.prog w.drew = .ok (goInt ((xs.length - i : Nat) : Int)) (w.drew.setCells b (pre.length + (i + 1) * 4) ((xs.drop i).flatMap watchC)) := fun ty dc sc => by
    have hm : Nat.min (xs.length + 1 - i) (xs.length - i) = xs.length - i := by simp only [Nat.min_def]; split <;> omega
    have hl : ((xs.drop i).flatMap watchC).length = (xs.length - i) * 4 := by rw [flatMap_len (sz := 4) (fun _ => rfl), List.length_drop]
    have := run_copy_k (P := Tryz.prog) w.drew 134 134 ty 144 4 b (pre.length + (i + 1) * 4) (xs.length - i) dc ⟨b, pre.length + i * 4, none⟩ (xs.length + 1 - i) sc ((xs.drop i).flatMap watchC) Tryz.underlying134 watch_size (by rw [hm, hl])
      (fun j v hj => by
        rw [Addr.add_lit]
        have h1 : (xs.flatMap watchC)[i * 4 + j]? = some v := by
          have e : xs.flatMap watchC = (xs.take i).flatMap watchC ++ (xs.drop i).flatMap watchC := by rw [← List.flatMap_append, List.take_append_drop]
          rw [e, List.getElem?_append_right (by rw [flatMap_len (sz := 4) (fun _ => rfl), List.length_take]; omega), flatMap_len (sz := 4) (fun _ => rfl), List.length_take, Nat.min_eq_left (by omega), Nat.add_sub_cancel_left]
          exact hj
        rw [Nat.add_assoc]
        exact H.rowCells (sz := 4) _ _ h1)
      (fun j hj => hsome _ (by rw [hl] at hj; omega)) (fun j => hfz _) (watch_one _)
    rw [hm] at this
    exact this
  obtain ⟨W1, hW1⟩ : ∃ W1, W1 = w.drew.setCells b (pre.length + (i + 1) * 4) ((xs.drop i).flatMap watchC) := ⟨_, rfl⟩
  have hl1 : ((xs.drop i).flatMap watchC).length = (xs.length - i) * 4 := by rw [flatMap_len (sz := 4) (fun _ => rfl), List.length_drop]
  have hsp1 : ∀ k, k < pre.length + xs.length * 4 + post.length → (W1.cell? ⟨b, k, none⟩).isSome = true := fun k hk => by
    rw [hW1]
    exact isSome_setCells b ((xs.drop i).flatMap watchC) (pre.length + (i + 1) * 4) w.drew (fun j hj => hsome _ (by rw [hl1] at hj; omega)) _ (hsome k hk)
  have hcp2 : ∀ ty dc, (Builtin.copy_ #[134, 134] ty #[.slice (some ⟨b, pre.length + i * 4, none⟩) (xs.length + 1 - i) dc, .slice (some ⟨vb, 0, none⟩) 1 1]).run Tryz.prog W1 = .ok (goInt 1) (W1.setCells b (pre.length + i * 4) (watchC x)) := fun ty dc => by
    have hm : Nat.min 1 (xs.length + 1 - i) = 1 := by simp only [Nat.min_def]; split <;> omega
    have hlx : (watchC x).length = 4 := rfl
    have := run_copy_k (P := Tryz.prog) W1 134 134 ty 144 4 b (pre.length + i * 4) (xs.length + 1 - i) dc ⟨vb, 0, none⟩ 1 1 (watchC x) Tryz.underlying134 watch_size (by rw [hm, hlx])
      (fun j v hj => by
        rw [Addr.add_lit, hW1, World.cell?_setCells_out b _ _ _ _ (fun h _ => absurd h hne)]
        exact ((Sep.f1 (H))).c (0 + j) (by simpa using hj))
      (fun j hj => hsp1 _ (by omega)) (fun j => by rw [hW1, World.frozen?_setCells]; exact hfz _) (by simpa using watch_one [x])
    rw [hm] at this
    exact this
  have HF : Sep R (W1.setCells b (pre.length + i * 4) (watchC x)) (rowE b pre watchC (xs.take i ++ x :: xs.drop i) (post.drop 4) :: cellsAt vb (watchC x).toArray :: l) := by
    rw [hW1]
    exact Sep.shift (sz := 4) (fun _ => rfl) i hi (by omega) x H.drew
  rw [← hW1] at hcp1
  have H1 := Lib.hid HF
  clear H HF hsp1 hl1 hsome hW1 hsa hsb hfz hfv
  have mixed : Tryz.prog.follows .mixedOrders = true := by kernel_rfl
  have hw1 : IntKind.i64.wrap ((i : Int) + 1) = (i : Int) + 1 := by rw [IntKind.wrap_i64]; omega
  have hb1 : (0 : Int) ≤ (i : Int) + 1 := by omega
  have hin : i ≤ xs.length := by omega
  have htn : ((i : Int) + 1).toNat = i + 1 := by omega
  have hb2 : ¬ (cap = i + 1) := by omega
  have hb3 : (i : Int) ≤ (xs.length : Int) + 1 := by omega
  have hb4 : ¬ (cap = i) := by omega
  have hb5 : ¬ ((i : Int) = (xs.length : Int)) := by omega
  have hb6 : ¬ ((cap : Int) < (xs.length : Int) + 1) := by omega
  have hb7 : (xs.length : Int) + 1 ≤ (cap : Int) := by omega
  go_enter Tryz.func132, Tryz.ntmps132
  go_wp2_with (simp only [hov])
  go_region_law_o (refine step_copy_runI rfl _ _ 134 134 rfl _ _ (by simp [Act.eval, Act.put]) (by simp [Act.eval, Act.put]) (hcp1 _ _ _) ?_)
  go_wp2_with (at_builtin; refine wpList_copy_runI _ rfl _ _ 134 134 rfl _ _ rfl rfl (hcp2 _ _) ?_)
  go_ret
  exact ⟨rfl, H1.out⟩
end Go.Proofs.YtpeflgfldbjflaaGreatDoor
end
