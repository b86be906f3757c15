/- WHAT IS PROVED HERE: slices.Insert of one watch: no room; the whole; slices.Insert of one watch: in Ins1 to Ins3; Package watch: Add. -/
import Derived.Test.YtpeflgfldbjflaaGreatDoorG25
import Derived.Test.YtpeflgfldbjflaaGreatDoorG04
set_option linter.unusedVariables false
set_option linter.unusedSimpArgs false
set_option linter.unusedSectionVars false
set_option linter.unnecessarySimpa false
section
namespace Go.Proofs.YtpeflgfldbjflaaGreatDoor
open Go.RowKit Go.Orch Go.Shelf
set_option maxRecDepth 100000 in
set_option maxHeartbeats 4000000 in
theorem insW_grow (R : World) (l : List HP) (b cap : Nat) (pre post : List Value) (xs : List WatchV) (i : Nat) (x : WatchV) (vb : Nat) (hi : i < xs.length) (hn : xs.length ≤ 1000) (hnc : xs.length ≤ cap) (hroom : cap < xs.length + 1) (w : World) (H : Sep R w (rowE b pre watchC xs post :: cellsAt vb (watchC x).toArray :: l)) :
    Calls Tryz.prog 132 #[.slice (some ⟨b, pre.length, none⟩) xs.length cap, .int .i64 i, .slice (some ⟨vb, 0, none⟩) 1 1] w fun e w' => ∃ v', e = .returned v' ∧ Sep R w' (watchS v' (xs.take i ++ x :: xs.drop i) :: cellsAt vb (watchC x).toArray :: l) := by
  obtain ⟨i0, hi0, hz0, hzs, hzb⟩ : ∃ i, Tryz.prog.info? 144 = some i ∧ i.zero = some (.agg #[.int .i64 0, .string ⟨#[]⟩, .bool false, .bool false]) ∧ i.size = 4 ∧ i.bytes = 32 := by
    have h := watch_info
    cases hq : Tryz.prog.info? 144 with
    | none => simp [hq] at h
    | some i => simp [hq] at h; exact ⟨i, rfl, h.1, h.2.1, h.2.2⟩
  have hlf : (xs.flatMap watchC).length = xs.length * 4 := flatMap_len (enc := watchC) (sz := 4) (fun _ => rfl) xs
  have hlt : ((xs.take i).flatMap watchC).length = i * 4 := by rw [flatMap_len (enc := watchC) (sz := 4) (fun _ => rfl), List.length_take, Nat.min_eq_left (by omega)]
  have hld : ((xs.drop i).flatMap watchC).length = (xs.length - i) * 4 := by rw [flatMap_len (enc := watchC) (sz := 4) (fun _ => rfl), List.length_drop]
  have hsplit : xs.flatMap watchC = (xs.take i).flatMap watchC ++ (xs.drop i).flatMap watchC := by rw [← List.flatMap_append, List.take_append_drop]
  have hold : (Builtin.firstCells i0.size i (.slice (some ⟨b, pre.length, none⟩) i cap)).run Tryz.prog w.drew = .ok ((xs.take i).flatMap watchC).toArray w.drew := by
    rw [hzs]
    exact run_firstCells_some w.drew 4 i ⟨b, pre.length, none⟩ i cap _ hlt (fun j v hj => by
      rw [Addr.add_lit]
      exact H.rowCells (sz := 4) j v (by rw [hsplit, List.getElem?_append_left (by rw [hlt]; have := (List.getElem?_eq_some_iff.1 hj).1; omega)]; exact hj))
  have hik : i + (xs.length + 1 - i) = xs.length + 1 := by omega
  have hkk : (xs.length : Int) + 1 - (i : Int) = ((xs.length + 1 - i : Nat) : Int) := by omega
  obtain ⟨G, hG⟩ : ∃ G, G = grownCap w (xs.length + 1) cap 144 := ⟨_, rfl⟩
  obtain ⟨Z1, hZ1⟩ : ∃ Z1, Z1 = (Builtin.zeroCells (Value.agg #[.int .i64 0, .string ⟨#[]⟩, .bool false, .bool false]).cells (xs.length + 1 - i)).toList := ⟨_, rfl⟩
  obtain ⟨Z2, hZ2⟩ : ∃ Z2, Z2 = (Builtin.zeroCells (Value.agg #[.int .i64 0, .string ⟨#[]⟩, .bool false, .bool false]).cells (G - (xs.length + 1))).toList := ⟨_, rfl⟩
  have hl1 : Z1.length = (xs.length + 1 - i) * 4 := by rw [hZ1]; simp [Builtin.zeroCells, Value.cells]
  have hl2 : Z2.length = (G - (xs.length + 1)) * 4 := by rw [hZ2]; simp [Builtin.zeroCells, Value.cells]
  have hrz : ∀ ty, (Builtin.append_ #[134, 3] ty #[.slice (some ⟨b, pre.length, none⟩) i cap, .int .i64 ((xs.length : Int) + 1 - (i : Int))]).run Tryz.prog w =
      .ok (.slice (some ⟨w.heap.size, 0, none⟩) (xs.length + 1) G) (w.drew.alloc (.cells ((xs.take i).flatMap watchC ++ (Z1 ++ Z2)).toArray 144)) := fun ty => by
    have h := Lib.run_append_grow_zeros w 134 3 ty 144 i0 _ .i64 .i64 Tryz.underlying134 Tryz.underlying3 hi0 hz0 (some ⟨b, pre.length, none⟩) i cap ((xs.take i).flatMap watchC) hold (xs.length + 1 - i) (by omega) (by omega) (by omega) (by omega) (by rw [hzb]; omega) (by rw [hzb, hik]; exact growslice_fits hroom (by omega))
    rw [hik, ← hG] at h
    rw [hkk, h, hZ1, hZ2]
    congr 3
    apply Array.ext'
    simp
  have hGn : xs.length + 1 ≤ G := by rw [hG]; exact grownCap_ge w _ _ _
  have hG63 : G ≤ maxLen := by rw [hG]; exact grownCap_le_maxLen w (xs.length + 1) cap _ (by unfold maxLen; omega)
  have hNb : vb ≠ w.heap.size := by have := ((Sep.f1 (H))).clt; omega
  have hbN : b ≠ w.heap.size := by have : b < w.heap.size := Sep.clt H; omega
  have H1 := H.drew.mkc ((xs.take i).flatMap watchC ++ (Z1 ++ Z2)).toArray 144
  have hN : w.drew.heap.size = w.heap.size := rfl
  rw [hN] at H1
  obtain ⟨W1, hW1⟩ : ∃ W1, W1 = w.drew.alloc (.cells ((xs.take i).flatMap watchC ++ (Z1 ++ Z2)).toArray 144) := ⟨_, rfl⟩
  rw [← hW1] at H1 hrz
  generalize hNN : w.heap.size = N at *
  have e1 : (xs.take i).flatMap watchC ++ (Z1 ++ Z2) = (xs.take i).flatMap watchC ++ Z1.take 4 ++ (Z1.drop 4 ++ Z2) := by
    have : Z1 = Z1.take 4 ++ Z1.drop 4 := (List.take_append_drop 4 Z1).symm
    calc _ = (xs.take i).flatMap watchC ++ ((Z1.take 4 ++ Z1.drop 4) ++ Z2) := by rw [← this]
      _ = _ := by simp only [List.append_assoc]
  have hlx : (watchC x).length = 4 := rfl
  have H2 := Sep.setMid (vs := watchC x) (by rw [List.length_take, hl1, hlx]; omega) (congrArg List.toArray e1) H1 (i * 4) hlt.symm
  obtain ⟨W2, hW2⟩ : ∃ W2, W2 = W1.setCells N (i * 4) (watchC x) := ⟨_, rfl⟩
  rw [← hW2] at H2
  have e2 : (xs.take i).flatMap watchC ++ watchC x ++ (Z1.drop 4 ++ Z2) = ((xs.take i).flatMap watchC ++ watchC x) ++ Z1.drop 4 ++ Z2 := by simp only [List.append_assoc]
  have H3 := Sep.setMid (vs := (xs.drop i).flatMap watchC) (by rw [List.length_drop, hl1, hld]; omega) (congrArg List.toArray e2) H2.drew ((i + 1) * 4) (by rw [List.length_append, hlt, hlx]; omega)
  have hcs : ∀ {cs : Array Value} {w : World} {l : List HP}, Sep R w (cellsAt N cs :: l) → ∀ j, j < cs.size → (w.cell? ⟨N, j, none⟩).isSome = true := fun H j hj => by rw [H.c j (Array.getElem?_eq_getElem hj)]; rfl
  have hcpA : ∀ ty dc, (Builtin.copy_ #[134, 134] ty #[.slice (some ⟨N, i * 4, none⟩) (xs.length + 1 - i) dc, .slice (some ⟨vb, 0, none⟩) 1 1]).run Tryz.prog W1 = .ok (goInt 1) W2 := fun ty dc => by
    have hm : Nat.min 1 (xs.length + 1 - i) = 1 := by simp only [Nat.min_def]; split <;> omega
    have := run_copy_k (P := Tryz.prog) W1 134 134 ty 144 4 N (i * 4) (xs.length + 1 - i) dc ⟨vb, 0, none⟩ 1 1 (watchC x) Tryz.underlying134 watch_size (by rw [hm, hlx])
      (fun j v hj => by
        rw [Addr.add_lit]
        exact ((Sep.f2 (H1))).c (0 + j) (by simpa using hj))
      (fun j hj => hcs H1 _ (by rw [hlx] at hj; simp only [List.size_toArray, List.length_append, hlt, hl1]; omega)) (fun j => H1.fz _) (by simpa using watch_one [x])
    rw [hm, ← hW2] at this
    exact this
  have hcpB : ∀ ty dc sc, (Builtin.copy_ #[134, 134] ty #[.slice (some ⟨N, (i + 1) * 4, none⟩) (xs.length - i) dc, .slice (some ⟨b, pre.length + i * 4, none⟩) (xs.length - i) sc]).run Tryz.prog W2.drew = .ok (goInt ((xs.length - i : Nat) : Int)) (W2.drew.setCells N ((i + 1) * 4) ((xs.drop i).flatMap watchC)) := fun ty dc sc => by
    have hm : Nat.min (xs.length - i) (xs.length - i) = xs.length - i := Nat.min_self _
    have := run_copy_k (P := Tryz.prog) W2.drew 134 134 ty 144 4 N ((i + 1) * 4) (xs.length - i) dc ⟨b, pre.length + i * 4, none⟩ (xs.length - i) sc ((xs.drop i).flatMap watchC) Tryz.underlying134 watch_size (by rw [hm, hld])
      (fun j v hj => by
        rw [Addr.add_lit]
        have h1 : (xs.flatMap watchC)[i * 4 + j]? = some v := by
          rw [hsplit, List.getElem?_append_right (by rw [hlt]; omega), hlt, Nat.add_sub_cancel_left]
          exact hj
        rw [Nat.add_assoc]
        exact ((Sep.f1 (H2.drew))).rowCells (sz := 4) _ _ h1)
      (fun j hj => hcs H2.drew _ (by rw [hld] at hj; simp only [List.size_toArray, List.length_append, hlt, hlx, List.length_drop, hl1]; omega)) (fun j => H2.drew.fz _) (watch_one _)
    rw [hm] at this
    exact this
  have HF := Lib.hid H3
  clear hold hcs H H1 H2 H3 e1 e2 hW1 hW2 hZ1 hZ2 hG hsplit hNb hbN hN
  have hlz : Z2.length = (G - (xs.length + 1)) * 4 := hl2
  have HZ := Lib.hid hlz
  have mixed : Tryz.prog.follows .mixedOrders = true := by kernel_rfl
  have hw1 : IntKind.i64.wrap ((i : Int) + 1) = (i : Int) + 1 := by rw [IntKind.wrap_i64]; omega
  have hb1 : (0 : Int) ≤ (i : Int) + 1 := by omega
  have hin : i ≤ xs.length := by omega
  have htn : ((i : Int) + 1).toNat = i + 1 := by omega
  have hb2 : ¬ (G = i + 1) := by omega
  have hb3 : (i : Int) ≤ (xs.length : Int) + 1 := by omega
  have hb4 : ¬ (G = i) := by omega
  have hb5 : ¬ ((i : Int) = (xs.length : Int)) := by omega
  have hb6 : (cap : Int) < (xs.length : Int) + 1 := by omega
  have hb7 : (i : Int) ≤ (xs.length : Int) := by omega
  have hb8 : ¬ (cap = i) := by omega
  have hG63' : G ≤ 9223372036854775807 := hG63
  clear hl1 hl2 hlz hlt hld hlf hlx hik hkk hi0 hz0 hzs hzb hG63
  go_enter Tryz.func132, Tryz.ntmps132
  go_wp2_with (first
    | (at_builtin; refine Lib.wpList_append_run _ rfl _ _ _ _ rfl _ _ rfl rfl _ _ (hrz _) ?_)
    | (at_builtin; refine wpList_copy_runI _ rfl _ _ 134 134 rfl _ _ rfl rfl (hcpA _ _) ?_))
  go_region_law_o (refine step_copy_runI rfl _ _ 134 134 rfl _ _ (by simp [Act.eval, Act.put]) (by simp [Act.eval, Act.put]) (hcpB _ _ _) ?_)
  go_wp2
  go_ret
  refine ⟨_, rfl, ?_⟩
  have hx : (xs.take i ++ x :: xs.drop i).flatMap watchC = (xs.take i).flatMap watchC ++ watchC x ++ (xs.drop i).flatMap watchC := by simp
  have hl : xs.length + 1 = (xs.take i ++ x :: xs.drop i).length := by
    simp only [List.length_append, List.length_cons, List.length_take, List.length_drop]; omega
  have HX := HF.out
  rw [← hx] at HX
  have HY := (Sep.f2 (HX))
  have HR : Sep R (W2.drew.setCells N ((i + 1) * 4) ((xs.drop i).flatMap watchC)) (rowE N [] watchC (xs.take i ++ x :: xs.drop i) Z2 :: cellsAt vb (watchC x).toArray :: l) := by
    have HQ := ((Sep.f1 (HX))).drop
    exact HQ
  exact Sep.recClose (enc := watchC) (sz := 4) (pre := []) (n := xs.length + 1) hl hGn hG63' (by rw [HZ.out]; exact Nat.le_refl _) (flatMap_len (enc := watchC) (sz := 4) (fun _ => rfl) _) HR
theorem insW_any (R : World) (l : List HP) (v : Value) (xs : List WatchV) (i : Nat) (x : WatchV) (vb : Nat) (hi : i ≤ xs.length) (hn : xs.length ≤ 1000) (w : World) (H : Sep R w (watchS v xs :: cellsAt vb (watchC x).toArray :: l)) :
    Calls Tryz.prog 132 #[v, .int .i64 i, .slice (some ⟨vb, 0, none⟩) 1 1] w fun e w' => ∃ v', e = .returned v' ∧ Sep R w' (watchS v' (xs.take i ++ x :: xs.drop i) :: l) := by
  rcases Nat.lt_or_ge i xs.length with hlt | hge
  · rcases H.recOpen with ⟨_, h0, _⟩ | ⟨b, cap, pre, post, rfl, h1, h2, h3, h4, H1⟩
    · rw [h0] at hlt; exact absurd hlt (Nat.not_lt_zero _)
    rcases Nat.lt_or_ge cap (xs.length + 1) with hc | hc
    · refine Calls.mono (insW_grow R l b cap pre post xs i x vb hlt hn h1 hc w H1) ?_
      rintro e w' ⟨v', rfl, H2⟩
      exact ⟨v', rfl, ((Sep.f1 (H2))).drop⟩
    · refine Calls.mono (insW_shift R l b cap pre post xs i x vb hlt hn hc h2 h3 w H1) ?_
      rintro e w' ⟨rfl, H2⟩
      have hl : (xs.take i ++ x :: xs.drop i).length = xs.length + 1 := by
        simp only [List.length_append, List.length_cons, List.length_take, List.length_drop]; omega
      exact ⟨_, rfl, ((Sep.f1 ((Sep.recClose (enc := watchC) (sz := 4) (n := xs.length + 1) hl.symm hc h2 (by rw [List.length_drop]; omega) (flatMap_len (enc := watchC) (sz := 4) (fun _ => rfl) _) H2)))).drop⟩
  · obtain rfl : i = xs.length := by omega
    refine Calls.mono (insW_end R l v xs x vb hn w H) ?_
    rintro e w' ⟨v', rfl, H2⟩
    rw [List.take_length, List.drop_length]
    exact ⟨v', rfl, ((Sep.f1 (H2))).drop⟩
end Go.Proofs.YtpeflgfldbjflaaGreatDoor
end
section
namespace Go.Orch
open Go.RowKit Go.Proofs
def bookAdd (B : BookV) (x : WatchV) : Int × BookV :=
  if x.session < 1 then (1, B) else if 281474976710655 < x.session then (1, B)
  else if pathCheck x.path ≠ 0 then (pathCheck x.path, B)
  else if bsIs B.watches x = true then (0, B)
  else if 40 ≤ B.watches.length then (16, B)
  else (0, { B with watches := B.watches.take (bsAt B.watches x) ++ x :: B.watches.drop (bsAt B.watches x) })
end Go.Orch
namespace Go.Proofs.YtpeflgfldbjflaaGreatDoor
open Go.RowKit Go.Orch Go.Shelf
abbrev ldWa : Op := Op.load 134 (Operand.tmp 47)
set_option maxRecDepth 100000 in
set_option maxHeartbeats 4000000 in
theorem bookAdd_any (R w : World) (l : List HP) (G : GoodR R) (b : Nat) (B : BookV) (x : WatchV) (hs : x.path.size ≤ 1000000000) (hn : B.watches.length ≤ 1000) (H : Sep R w (bookAt b B :: l)) :
    Calls Tryz.prog 109 #[.pointer (some ⟨b, 0, none⟩), .agg (watchC x).toArray] w fun e w' => e = .returned (.int .i64 (bookAdd B x).1) ∧ Sep R w' (bookAt b (bookAdd B x).2 :: l) := by
  obtain ⟨x1, x2, x3, x4⟩ := x
  show Calls Tryz.prog 109 #[.pointer (some ⟨b, 0, none⟩), .agg #[.int .i64 x1, .string x2, .bool x3, .bool x4]] w _
  unfold bookAdd
  simp only at hs ⊢
  have HP := Lib.hid (fun w l H => check_any R w l G x2 (by omega) H)
  have H0 := Lib.hid H
  clear H
  by_cases h1 : x1 < 1
  · rw [if_pos h1]
    go_enter Tryz.func109, Tryz.ntmps109
    go_wp2
    go_ret
    exact ⟨rfl, (H0.out.mkc _ _).drop⟩
  rw [if_neg h1]
  by_cases h2 : 281474976710655 < x1
  · rw [if_pos h2]
    go_enter Tryz.func109, Tryz.ntmps109
    go_wp2
    go_ret
    exact ⟨rfl, (H0.out.mkc _ _).drop⟩
  rw [if_neg h2]
  by_cases h3 : pathCheck x2 = 0
  case neg =>
    rw [if_pos h3]
    generalize pathCheck x2 = pc at *
    have hb : (pc != 0) = true := by simpa using h3
    clear h3
    go_enter Tryz.func109, Tryz.ntmps109
    go_wp2_with fail
    refine Calls.mono (HP.out _ _ (H0.out.mkc _ _)) ?_
    rintro e w1 ⟨rfl, H1⟩
    generalize w.heap.size = nb at *
    have H3 := Lib.hid H1
    clear H1
    go_wp2
    go_ret
    exact ⟨rfl, H3.out.drop⟩
  rw [if_neg (by simpa using h3)]
  rw [h3] at HP
  clear h3
  have hle := bsAt_le B.watches ⟨x1, x2, x3, x4⟩
  cases hbi : bsIs B.watches ⟨x1, x2, x3, x4⟩ with
  | true =>
    rw [if_pos rfl]
    go_enter Tryz.func109, Tryz.ntmps109
    go_wp2_with fail
    refine Calls.mono (HP.out _ _ (H0.out.mkc _ _)) ?_
    rintro e w1 ⟨rfl, H1⟩
    generalize w.heap.size = nb at *
    obtain ⟨wv, ev, mb, m, hm, H2⟩ := ((Sep.f1 (H1))).book
    obtain ⟨p, k, rfl⟩ := ((Sep.f1 (H2))).recSlice
    have HM := Lib.hid hm
    have H3 := Lib.hid H2.drew
    clear H1 H2 hm
    go_wp2_with fail
    obtain ⟨n0, n1, n2, n3, nfz, nlt⟩ := ((Sep.f4 (H3.out))).c4
    obtain ⟨c0, c1, c2, fz, lt⟩ := H3.out.c3
    have HB := Lib.hid (bsearchW_any R _ (.slice p B.watches.length k) B.watches ⟨x1, x2, x3, x4⟩ hn _ ((Sep.f1 (H3.out))))
    go_region_held3 (fun W => W.cell? ⟨b, 0, none⟩ = some (.slice p B.watches.length k) ∧ W.cell? ⟨nb, 0, none⟩ = some (.int .i64 x1) ∧ W.cell? ⟨nb, 1, none⟩ = some (.string x2) ∧ W.cell? ⟨nb, 2, none⟩ = some (.bool x3) ∧ W.cell? ⟨nb, 3, none⟩ = some (.bool x4))
      (first
        | exact ⟨c0, n0, n1, n2, n3⟩
        | exact ⟨((Sep.f1 (H9))).c 0 rfl, ((Sep.f4 (H9))).c 0 rfl, ((Sep.f4 (H9))).c 1 rfl, ((Sep.f4 (H9))).c 2 rfl, ((Sep.f4 (H9))).c 3 rfl⟩)
      (first
        | (go_at_call 130; refine Calls.mono HB.out ?_; rintro e w9 ⟨rfl, H9⟩))
    have H4 := Lib.hid ((Sep.f1 (H9)))
    clear H9 HB n0 n1 n2 n3 nfz nlt c0 c1 c2 fz lt
    obtain ⟨c0, c1, c2, fz, lt⟩ := H4.out.c3
    go_wp2
    go_ret
    exact ⟨rfl, ((Sep.f1 ((H4.out.mkbook (B := B) HM.out)))).drop⟩
  | false =>
    rw [if_neg (by simp)]
    by_cases h4 : 40 ≤ B.watches.length
    · rw [if_pos h4]
      have h4i : 40 ≤ (B.watches.length : Int) := by omega
      go_enter Tryz.func109, Tryz.ntmps109
      go_wp2_with fail
      refine Calls.mono (HP.out _ _ (H0.out.mkc _ _)) ?_
      rintro e w1 ⟨rfl, H1⟩
      generalize w.heap.size = nb at *
      obtain ⟨wv, ev, mb, m, hm, H2⟩ := ((Sep.f1 (H1))).book
      obtain ⟨p, k, rfl⟩ := ((Sep.f1 (H2))).recSlice
      have HM := Lib.hid hm
      have H3 := Lib.hid H2.drew
      clear H1 H2 hm
      go_wp2_with fail
      obtain ⟨n0, n1, n2, n3, nfz, nlt⟩ := ((Sep.f4 (H3.out))).c4
      obtain ⟨c0, c1, c2, fz, lt⟩ := H3.out.c3
      have HB := Lib.hid (bsearchW_any R _ (.slice p B.watches.length k) B.watches ⟨x1, x2, x3, x4⟩ hn _ ((Sep.f1 (H3.out))))
      go_region_held3 (fun W => W.cell? ⟨b, 0, none⟩ = some (.slice p B.watches.length k) ∧ W.cell? ⟨nb, 0, none⟩ = some (.int .i64 x1) ∧ W.cell? ⟨nb, 1, none⟩ = some (.string x2) ∧ W.cell? ⟨nb, 2, none⟩ = some (.bool x3) ∧ W.cell? ⟨nb, 3, none⟩ = some (.bool x4))
        (first
          | exact ⟨c0, n0, n1, n2, n3⟩
          | exact ⟨((Sep.f1 (H9))).c 0 rfl, ((Sep.f4 (H9))).c 0 rfl, ((Sep.f4 (H9))).c 1 rfl, ((Sep.f4 (H9))).c 2 rfl, ((Sep.f4 (H9))).c 3 rfl⟩)
        (first
          | (go_at_call 130; refine Calls.mono HB.out ?_; rintro e w9 ⟨rfl, H9⟩))
      have H4 := Lib.hid ((Sep.f1 (H9)))
      clear H9 HB n0 n1 n2 n3 nfz nlt c0 c1 c2 fz lt
      obtain ⟨c0, c1, c2, fz, lt⟩ := H4.out.c3
      go_wp2
      go_ret
      exact ⟨rfl, ((Sep.f1 ((H4.out.mkbook (B := B) HM.out)))).drop⟩
    · rw [if_neg h4]
      have h4i : ¬ 40 ≤ (B.watches.length : Int) := by omega
      go_enter Tryz.func109, Tryz.ntmps109
      go_wp2_with fail
      refine Calls.mono (HP.out _ _ (H0.out.mkc _ _)) ?_
      rintro e w1 ⟨rfl, H1⟩
      generalize w.heap.size = nb at *
      obtain ⟨wv, ev, mb, m, hm, H2⟩ := ((Sep.f1 (H1))).book
      obtain ⟨p, k, rfl⟩ := ((Sep.f1 (H2))).recSlice
      have HM := Lib.hid hm
      have H3 := Lib.hid H2.drew
      clear H1 H2 hm
      go_wp2_with fail
      obtain ⟨n0, n1, n2, n3, nfz, nlt⟩ := ((Sep.f4 (H3.out))).c4
      obtain ⟨c0, c1, c2, fz, lt⟩ := H3.out.c3
      have HB := Lib.hid (bsearchW_any R _ (.slice p B.watches.length k) B.watches ⟨x1, x2, x3, x4⟩ hn _ ((Sep.f1 (H3.out))))
      go_region_held3 (fun W => W.cell? ⟨b, 0, none⟩ = some (.slice p B.watches.length k) ∧ W.cell? ⟨nb, 0, none⟩ = some (.int .i64 x1) ∧ W.cell? ⟨nb, 1, none⟩ = some (.string x2) ∧ W.cell? ⟨nb, 2, none⟩ = some (.bool x3) ∧ W.cell? ⟨nb, 3, none⟩ = some (.bool x4))
        (first
          | exact ⟨c0, n0, n1, n2, n3⟩
          | exact ⟨((Sep.f1 (H9))).c 0 rfl, ((Sep.f4 (H9))).c 0 rfl, ((Sep.f4 (H9))).c 1 rfl, ((Sep.f4 (H9))).c 2 rfl, ((Sep.f4 (H9))).c 3 rfl⟩)
        (first
          | (go_at_call 130; refine Calls.mono HB.out ?_; rintro e w9 ⟨rfl, H9⟩))
      have H4 := Lib.hid ((Sep.f1 (H9)))
      clear H9 HB n0 n1 n2 n3 nfz nlt c0 c1 c2 fz lt
      obtain ⟨c0, c1, c2, fz, lt⟩ := H4.out.c3
      go_wp2_with fail
      have X := (H4.out.mkc #[.int .i64 x1, .string x2, .bool x3, .bool x4] 144).drew
      have HI := Lib.hid (insW_any R _ (.slice p B.watches.length k) B.watches (bsAt B.watches ⟨x1, x2, x3, x4⟩) ⟨x1, x2, x3, x4⟩ _ hle hn _ ((Sep.f2 (X))))
      obtain ⟨n0, n1, n2, n3, nfz, nlt⟩ := ((Sep.f4 (H4.out.drew))).c4
      have c0a : ∀ oo, (w9.drew.alloc oo).cell? ⟨b, 0, none⟩ = some (.slice p B.watches.length k) := fun oo => Lib.cell?_alloc_some oo c0
      have c0c : ∀ oo, (w9.alloc oo).drew.cell? ⟨b, 0, none⟩ = some (.slice p B.watches.length k) := fun oo => Lib.cell?_alloc_some (W := w9) oo c0
      have c0b : ∀ oo, (w9.alloc oo).cell? ⟨b, 0, none⟩ = some (.slice p B.watches.length k) := fun oo => Lib.cell?_alloc_some (W := w9) oo c0
      rw [show Op.load 134 (Operand.tmp 47) = ldWa from rfl]
      go_region_held3 (fun W => W.cell? ⟨nb, 0, none⟩ = some (.int .i64 x1) ∧ W.cell? ⟨nb, 1, none⟩ = some (.string x2) ∧ W.cell? ⟨nb, 2, none⟩ = some (.bool x3) ∧ W.cell? ⟨nb, 3, none⟩ = some (.bool x4))
        (first
          | exact ⟨n0, n1, n2, n3⟩
          | exact ⟨((Sep.f5 (X))).c 0 rfl, ((Sep.f5 (X))).c 1 rfl, ((Sep.f5 (X))).c 2 rfl, ((Sep.f5 (X))).c 3 rfl⟩
          | exact ⟨((Sep.f4 (H10))).c 0 rfl, ((Sep.f4 (H10))).c 1 rfl, ((Sep.f4 (H10))).c 2 rfl, ((Sep.f4 (H10))).c 3 rfl⟩
          | exact (let Y := ((Sep.f1 (H10))).st 0 _; ⟨((Sep.f4 (Y))).c 0 rfl, ((Sep.f4 (Y))).c 1 rfl, ((Sep.f4 (Y))).c 2 rfl, ((Sep.f4 (Y))).c 3 rfl⟩))
        (first
          | (go_at_call 132; (with_reducible refine Calls.mono HI.out ?_); rintro e w10 ⟨v10, rfl, H10⟩; obtain ⟨p10, k10, rfl⟩ := H10.recSlice; generalize (B.watches.take (bsAt B.watches ⟨x1, x2, x3, x4⟩) ++ ⟨x1, x2, x3, x4⟩ :: B.watches.drop (bsAt B.watches ⟨x1, x2, x3, x4⟩)).length = nn at H10 ⊢; obtain ⟨e0, e1, e2, efz, elt⟩ := ((Sep.f1 (H10))).c3))
      all_goals
        have Y := Lib.hid (((Sep.f1 (H10))).st 0 (.slice p10 nn k10))
        clear H10 X HI n0 n1 n2 n3 nfz nlt c0 c1 c2 fz lt c0a c0b c0c e0 e1 e2 efz elt
        go_wp2
        go_ret
        exact ⟨rfl, ((Sep.f1 ((Y.out.mkbook (B := { B with watches := B.watches.take (bsAt B.watches ⟨x1, x2, x3, x4⟩) ++ ⟨x1, x2, x3, x4⟩ :: B.watches.drop (bsAt B.watches ⟨x1, x2, x3, x4⟩) }) HM.out)))).drop⟩
end Go.Proofs.YtpeflgfldbjflaaGreatDoor
end
