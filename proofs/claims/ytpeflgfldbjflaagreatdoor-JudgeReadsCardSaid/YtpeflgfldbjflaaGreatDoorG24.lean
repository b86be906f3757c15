/- WHAT IS PROVED HERE: Package watch: order, BinarySearchFunc over watches. -/
import Derived.Test.YtpeflgfldbjflaaGreatDoorG18
import Derived.Test.YtpeflgfldbjflaaGreatDoorG01
import Derived.Test.YtpeflgfldbjflaaGreatDoorG06
import Derived.Deep.RegionHeld3
import Derived.Deep.QuietTactic
import Derived.BigQuiet
set_option linter.unusedVariables false
set_option linter.unusedSimpArgs false
set_option linter.unusedSectionVars false
set_option linter.unnecessarySimpa false
section
namespace Go.Orch
open Go.RowKit
def cmpS (a b : ByteArray) : Int := if Op.bytesLess a.toList b.toList = true then -1 else if (a.toList == b.toList) = true then 0 else 1
def b2i (b : Bool) : Int := if b then 1 else 0
def cmpOr : List Int → Int
  | [] => 0
  | x :: xs => if x ≠ 0 then x else cmpOr xs
def orderV (a b : WatchV) : Int := cmpOr [Lib.compareInt a.session b.session, cmpS a.path b.path, Lib.compareInt (b2i a.kids) (b2i b.kids), Lib.compareInt (b2i a.once) (b2i b.once)]
theorem cmpOr_drop (xs : List Int) (k : Nat) (hk : k < xs.length) : cmpOr (xs.drop k) = if xs[k] ≠ 0 then xs[k] else cmpOr (xs.drop (k + 1)) := by
  rw [List.drop_eq_getElem_cons hk]; rfl
instance : Inhabited WatchV := ⟨⟨0, ⟨#[]⟩, false, false⟩⟩
def bsW (ys : List WatchV) (x : WatchV) : Nat → Nat → Nat → Nat
  | 0, i, _ => i
  | f + 1, i, j => if i < j then (if orderV (ys.getD ((i + j) / 2) default) x < 0 then bsW ys x f ((i + j) / 2 + 1) j else bsW ys x f i ((i + j) / 2)) else i
def bsAt (ys : List WatchV) (x : WatchV) : Nat := bsW ys x (ys.length + 1) 0 ys.length
def bsIs (ys : List WatchV) (x : WatchV) : Bool := decide (bsAt ys x < ys.length) && decide (orderV (ys.getD (bsAt ys x) default) x = 0)
theorem bsW_le (ys : List WatchV) (x : WatchV) : ∀ (f i j : Nat), i ≤ j → bsW ys x f i j ≤ j
  | 0, _, _, h => h
  | f + 1, i, j, h => by
    unfold bsW
    split
    · split
      · exact bsW_le ys x f _ j (by omega)
      · exact Nat.le_trans (bsW_le ys x f i _ (by omega)) (by omega)
    · exact h
theorem bsAt_le (ys : List WatchV) (x : WatchV) : bsAt ys x ≤ ys.length := bsW_le ys x _ 0 _ (Nat.zero_le _)
end Go.Orch
namespace Go.Proofs.YtpeflgfldbjflaaGreatDoor
open Go.RowKit Go.Orch Go.Shelf
theorem isNaNS_any (s : ByteArray) (w : World) : Calls Tryz.prog 120 #[.string s] w fun e w' => e = .returned (.bool false) ∧ w = w' := by
  have h : (s.toList != s.toList) = false := by simp
  go_enter Tryz.func120, Tryz.ntmps120
  go_wp2
  go_ret
  exact ⟨rfl, rfl⟩
theorem compareS_any (a b : ByteArray) (w : World) : Calls Tryz.prog 150 #[.string a, .string b] w fun e w' => e = .returned (.int .i64 (cmpS a b)) ∧ w = w' := by
  unfold cmpS
  have h1 := isNaNS_any a
  have h2 := isNaNS_any b
  have H1 := Lib.hid h1
  have H2 := Lib.hid h2
  clear h1 h2
  cases e1 : Op.bytesLess a.toList b.toList <;> cases e2 : (a.toList == b.toList)
  all_goals
    go_enter Tryz.func150, Tryz.ntmps150
    go_wp2_with fail
    refine Calls.mono (H1.out _) ?_
    rintro e w' ⟨rfl, rfl⟩
    go_wp2_with fail
    refine Calls.mono (H2.out _) ?_
    rintro e w' ⟨rfl, rfl⟩
    go_wp2
    go_ret
    exact ⟨rfl, rfl⟩
theorem order1_any (b : Bool) (w : World) : Calls Tryz.prog 147 #[.bool b] w fun e w' => e = .returned (.int .i64 (b2i b)) ∧ w = w' := by
  cases b
  all_goals
    go_enter Tryz.func147, Tryz.ntmps147
    go_wp2
    go_ret
    exact ⟨rfl, rfl⟩
theorem cmpOr_any (R : World) (l : List HP) (lb : Nat) (xs : List Int) (hx : xs.length ≤ 1000) (w : World) (H : Sep R w (cellsAt lb (xs.map intV).toArray :: l)) :
    Calls Tryz.prog 148 #[.slice (some ⟨lb, 0, none⟩) xs.length xs.length] w fun e w' => e = .returned (.int .i64 (cmpOr xs)) ∧ w = w' := by
  have H1 := Lib.hid H
  clear H
  go_enter Tryz.func148, Tryz.ntmps148
  go_wp2_with fail
  go_loop [8] (fun i => ∃ k : Nat, k ≤ xs.length ∧ i = .int .i64 k ∧ cmpOr (xs.drop k) = cmpOr xs) (fun i => xs.length - (intOf i).toNat)
  case atStart => exact ⟨0, Nat.zero_le _, rfl, rfl⟩
  case round =>
    obtain ⟨k, hk, rfl, hd⟩ := hrel
    have HD := Lib.hid hd
    clear hd
    by_cases hlt : k < xs.length
    · have hc := H1.out.c k (v := intV xs[k]) (by simp [hlt])
      have hst := cmpOr_drop xs k hlt
      have HS := Lib.hid hst
      clear hst
      generalize xs[k] = x at *
      unfold intV at hc
      have hlti : (k : Int) < (xs.length : Int) := by omega
      by_cases hz : x = 0
      · have hb : (x != 0) = false := by simp [hz]
        have HZ := Lib.hid hz
        clear hz
        go_wp2
        go_round
        case rel => exact ⟨k + 1, hlt, by go_num, by rw [← HD.out, HS.out, if_neg (by simp [HZ.out])]⟩
        case measure => simp [intOf]; omega
      · have hb : (x != 0) = true := by simpa using hz
        have HZ := Lib.hid hz
        clear hz
        go_wp2
        go_ret
        refine ⟨?_, rfl⟩
        rw [← HD.out, HS.out, if_pos HZ.out]
        rfl
    · obtain rfl : k = xs.length := by omega
      have hlti : ¬ (xs.length : Int) < (xs.length : Int) := by omega
      go_wp2
      go_ret
      refine ⟨?_, rfl⟩
      rw [← HD.out, List.drop_length]
      rfl
set_option maxRecDepth 100000 in
set_option maxHeartbeats 2000000 in
theorem order_any (a b : WatchV) (w : World) : Calls Tryz.prog 131 #[.agg (watchC a).toArray, .agg (watchC b).toArray] w fun e w' => e = .returned (.int .i64 (orderV a b)) ∧ Below w.heap.size w w' := by
  unfold orderV
  obtain ⟨a1, a2, a3, a4⟩ := a
  obtain ⟨b1, b2, b3, b4⟩ := b
  simp only
  have C1 := Lib.hid (fun w => calls_symm (Tryz.cmp_Compare_int a1 b1 w))
  have C2 := Lib.hid (fun w => compareS_any a2 b2 w)
  have C3 := Lib.hid (fun w => calls_symm (Tryz.cmp_Compare_int (b2i a3) (b2i b3) w))
  have C4 := Lib.hid (fun w => calls_symm (Tryz.cmp_Compare_int (b2i a4) (b2i b4) w))
  have O1 := Lib.hid (fun w => order1_any a3 w)
  have O2 := Lib.hid (fun w => order1_any b3 w)
  have O3 := Lib.hid (fun w => order1_any a4 w)
  have O4 := Lib.hid (fun w => order1_any b4 w)
  generalize Lib.compareInt a1 b1 = x1 at *
  generalize cmpS a2 b2 = x2 at *
  generalize Lib.compareInt (b2i a3) (b2i b3) = x3 at *
  generalize Lib.compareInt (b2i a4) (b2i b4) = x4 at *
  generalize b2i a3 = y1 at *
  generalize b2i b3 = y2 at *
  generalize b2i a4 = y3 at *
  generalize b2i b4 = y4 at *
  show Calls Tryz.prog 131 #[.agg #[.int .i64 a1, .string a2, .bool a3, .bool a4], .agg #[.int .i64 b1, .string b2, .bool b3, .bool b4]] w _
  have H := (((Sep.self w).mkc #[.int .i64 a1, .string a2, .bool a3, .bool a4] 144).mkc #[.int .i64 b1, .string b2, .bool b3, .bool b4] 144).drew
  simp only [World.size_alloc] at H
  have H2 := Lib.hid H
  obtain ⟨d0, d1, d2, d3, dfz, dlt⟩ := H.c4
  obtain ⟨c0, c1, c2, c3, cfz, clt⟩ := ((Sep.f1 (H))).c4
  clear H
  have CF := Lib.hid (And.intro c0 (And.intro c1 (And.intro c2 (And.intro c3 (And.intro d0 (And.intro d1 (And.intro d2 d3)))))))
  clear c0 c1 c2 c3 d0 d1 d2 d3 cfz clt dfz dlt
  have X4 := H2.out.mkc #[.int .i64 x1, .int .i64 x2, .int .i64 x3, .int .i64 x4] 3
  simp only [World.size_alloc, World.size_drew] at X4
  have X5 := Lib.hid X4
  clear X4
  go_enter Tryz.func131, Tryz.ntmps131
  go_wp2_with fail
  go_region_held3 (fun W => W.cell? ⟨w.heap.size, 0, none⟩ = some (.int .i64 a1) ∧ W.cell? ⟨w.heap.size, 1, none⟩ = some (.string a2) ∧ W.cell? ⟨w.heap.size, 2, none⟩ = some (.bool a3) ∧ W.cell? ⟨w.heap.size, 3, none⟩ = some (.bool a4) ∧ W.cell? ⟨w.heap.size + 1, 0, none⟩ = some (.int .i64 b1) ∧ W.cell? ⟨w.heap.size + 1, 1, none⟩ = some (.string b2) ∧ W.cell? ⟨w.heap.size + 1, 2, none⟩ = some (.bool b3) ∧ W.cell? ⟨w.heap.size + 1, 3, none⟩ = some (.bool b4))
    (first
      | exact CF.out
      | exact (let X := (H2.out.mkc #[.int .i64 x1, .int .i64 x2, .int .i64 x3, .int .i64 x4] 3); ⟨((Sep.f2 (X))).c 0 rfl, ((Sep.f2 (X))).c 1 rfl, ((Sep.f2 (X))).c 2 rfl, ((Sep.f2 (X))).c 3 rfl, ((Sep.f1 (X))).c 0 rfl, ((Sep.f1 (X))).c 1 rfl, ((Sep.f1 (X))).c 2 rfl, ((Sep.f1 (X))).c 3 rfl⟩))
    (first
      | (go_at_call 149; (with_reducible refine Calls.mono (C1.out _) ?_); rintro e w9 ⟨rfl, rfl⟩)
      | (go_at_call 149; (with_reducible refine Calls.mono (C3.out _) ?_); rintro e w9 ⟨rfl, rfl⟩)
      | (go_at_call 149; (with_reducible refine Calls.mono (C4.out _) ?_); rintro e w9 ⟨rfl, rfl⟩)
      | (go_at_call 150; (with_reducible refine Calls.mono (C2.out _) ?_); rintro e w9 ⟨rfl, rfl⟩)
      | (go_at_call 147; (with_reducible refine Calls.mono (O1.out _) ?_); rintro e w9 ⟨rfl, rfl⟩)
      | (go_at_call 147; (with_reducible refine Calls.mono (O2.out _) ?_); rintro e w9 ⟨rfl, rfl⟩)
      | (go_at_call 147; (with_reducible refine Calls.mono (O3.out _) ?_); rintro e w9 ⟨rfl, rfl⟩)
      | (go_at_call 147; (with_reducible refine Calls.mono (O4.out _) ?_); rintro e w9 ⟨rfl, rfl⟩)
      | (go_at_call 148; refine Calls.mono (cmpOr_any w _ _ [x1, x2, x3, x4] (by simp) _ X5.out) ?_; rintro e w9 ⟨rfl, rfl⟩))
  all_goals
    go_wp2
    go_ret
    exact ⟨rfl, (H2.out.mkc _ _).below⟩
set_option maxRecDepth 100000 in
set_option maxHeartbeats 2000000 in
theorem bsearchW_any (R : World) (l : List HP) (v : Value) (ys : List WatchV) (x : WatchV) (hn : ys.length ≤ 1000) (w : World) (H : Sep R w (watchS v ys :: l)) :
    Calls Tryz.prog 130 #[v, .agg (watchC x).toArray, .func (.func 131) #[] #[]] w fun e w' => e = .returned (.tuple #[.int .i64 (bsAt ys x), .bool (bsIs ys x)]) ∧ Sep R w' (watchS v ys :: l) := by
  obtain ⟨p, c, rfl⟩ := H.recSlice
  obtain ⟨x1, x2, x3, x4⟩ := x
  have HO := Lib.hid (fun (a : WatchV) (W : World) => order_any a ⟨x1, x2, x3, x4⟩ W)
  show Calls Tryz.prog 130 #[.slice p ys.length c, .agg #[.int .i64 x1, .string x2, .bool x3, .bool x4], .func (.func 131) #[] #[]] w _
  unfold bsIs
  have hle := bsAt_le ys ⟨x1, x2, x3, x4⟩
  have hst : bsW ys ⟨x1, x2, x3, x4⟩ (ys.length + 1) 0 ys.length = bsAt ys ⟨x1, x2, x3, x4⟩ := rfl
  have HSt := Lib.hid hst
  clear hst
  generalize bsAt ys ⟨x1, x2, x3, x4⟩ = r at *
  obtain ⟨bq, hbq⟩ : ∃ bq : Bool, bq = (decide (r < ys.length) && decide (orderV (ys.getD r default) ⟨x1, x2, x3, x4⟩ = 0)) := ⟨_, rfl⟩
  rw [← hbq]
  have HBq := Lib.hid hbq
  clear hbq
  have H2 := Lib.hid (H.mkc #[.int .i64 x1, .string x2, .bool x3, .bool x4] 144)
  clear H
  go_enter Tryz.func130, Tryz.ntmps130
  go_wp2_with fail
  generalize w.heap.size = nb at *
  go_loopw [9, 10] (fun i j wr => ∃ (f ii jj : Nat), i = .int .i64 ii ∧ j = .int .i64 jj ∧ ii ≤ jj ∧ jj ≤ ys.length ∧ jj - ii < f ∧ bsW ys ⟨x1, x2, x3, x4⟩ f ii jj = r ∧ Sep R wr (cellsAt nb #[.int .i64 x1, .string x2, .bool x3, .bool x4] :: watchS (.slice p ys.length c) ys :: l)) (fun i j _ => (intOf j).toNat - (intOf i).toNat)
  case atStart => exact ⟨ys.length + 1, 0, ys.length, rfl, rfl, Nat.zero_le _, Nat.le_refl _, by omega, HSt.out, H2.out⟩
  case round =>
    obtain ⟨f, ii, jj, rfl, rfl, hij, hjn, hf, hb, H3⟩ := hrel
    by_cases hlt : ii < jj
    · obtain ⟨f', rfl⟩ : ∃ f', f = f' + 1 := ⟨f - 1, by omega⟩
      have hlti : (ii : Int) < (jj : Int) := by omega
      have hb1 : (ii : Int) + (jj : Int) ≤ 100000 := by omega
      obtain ⟨h, hh⟩ : ∃ h : Nat, h = (ii + jj) / 2 := ⟨_, rfl⟩
      have hmid : ((ii : Int) + (jj : Int)) / 2 = (h : Int) := by omega
      have hhl : h < ys.length := by omega
      have hhj : h < jj := by omega
      have hih : ii ≤ h := by omega
      have hhli : (h : Int) < (ys.length : Int) := by omega
      have hbs : r = if orderV ys[h] ⟨x1, x2, x3, x4⟩ < 0 then bsW ys ⟨x1, x2, x3, x4⟩ f' (h + 1) jj else bsW ys ⟨x1, x2, x3, x4⟩ f' ii h := by
        rw [← hb]
        show (if ii < jj then _ else _) = _
        rw [if_pos hlt, ← hh, show ys.getD h default = ys[h] by simp [List.getD, hhl]]
      have HBs := Lib.hid hbs
      obtain ⟨p', c', hv, hq⟩ := ((Sep.f1 (H3))).rowIn
      injection hv with hv1 hv2 hv3
      subst hv1 hv3
      rcases hq with hq | ⟨b, off, rfl, hq⟩
      · subst hq; exact absurd hhl (by simp)
      have q := fun k u hu => row_elem (k := 4) (enc := watchC) (fun _ => rfl) hq h hhl k u hu
      have q0 := q 0 _ rfl
      have q1 := q 1 _ rfl
      have q2 := q 2 _ rfl
      have q3 := q 3 _ rfl
      rw [Nat.add_zero] at q0
      obtain ⟨n0, n1, n2, n3, nfz, nlt⟩ := H3.c4
      have H4 := Lib.hid H3.drew
      clear q hq hb hbs H3 hh
      generalize ys[h] = y at *
      have HO2 := Lib.hid (HO.out y wr.drew)
      generalize hov : orderV y ⟨x1, x2, x3, x4⟩ = ov at *
      have HOv := Lib.hid hov
      clear hov
      obtain ⟨y1, y2, y3, y4⟩ := y
      simp only at q0 q1 q2 q3
      have HO3 : Hid (Calls Tryz.prog 131 #[.agg #[.int .i64 y1, .string y2, .bool y3, .bool y4], .agg #[.int .i64 x1, .string x2, .bool x3, .bool x4]] wr.drew fun e w' => e = .returned (.int .i64 ov) ∧ Below wr.drew.heap.size wr.drew w') := Lib.hid HO2.out
      clear HO2
      by_cases hneg : ov < 0
      · go_wp2_with fail
        go_region_held3 (fun W => W.cell? ⟨b, off + h * 4, none⟩ = some (.int .i64 y1) ∧ W.cell? ⟨b, off + h * 4 + 1, none⟩ = some (.string y2) ∧ W.cell? ⟨b, off + h * 4 + 2, none⟩ = some (.bool y3) ∧ W.cell? ⟨b, off + h * 4 + 3, none⟩ = some (.bool y4) ∧ W.cell? ⟨nb, 0, none⟩ = some (.int .i64 x1) ∧ W.cell? ⟨nb, 1, none⟩ = some (.string x2) ∧ W.cell? ⟨nb, 2, none⟩ = some (.bool x3) ∧ W.cell? ⟨nb, 3, none⟩ = some (.bool x4))
          (first
            | exact ⟨q0, q1, q2, q3, n0, n1, n2, n3⟩
            | exact ⟨by rw [hb9.cell (p := ⟨b, _, none⟩) (cell_lt q0)]; exact q0, by rw [hb9.cell (p := ⟨b, _, none⟩) (cell_lt q0)]; exact q1, by rw [hb9.cell (p := ⟨b, _, none⟩) (cell_lt q0)]; exact q2, by rw [hb9.cell (p := ⟨b, _, none⟩) (cell_lt q0)]; exact q3, by rw [hb9.cell (p := ⟨nb, _, none⟩) (cell_lt n0)]; exact n0, by rw [hb9.cell (p := ⟨nb, _, none⟩) (cell_lt n0)]; exact n1, by rw [hb9.cell (p := ⟨nb, _, none⟩) (cell_lt n0)]; exact n2, by rw [hb9.cell (p := ⟨nb, _, none⟩) (cell_lt n0)]; exact n3⟩)
          (first
            | (go_at_call 131; (with_reducible refine Calls.mono HO3.out ?_); rintro e w9 ⟨rfl, hb9⟩))
        have H5 := Lib.hid (H4.out.kept hb9)
        clear hb9
        go_wp2_with fail
        go_roundw
        case rel => exact ⟨f', h + 1, jj, by go_num, rfl, by omega, by omega, by omega, by rw [HBs.out, if_pos hneg], H5.out⟩
        case measure => simp [intOf]; omega
      · go_wp2_with fail
        go_region_held3 (fun W => W.cell? ⟨b, off + h * 4, none⟩ = some (.int .i64 y1) ∧ W.cell? ⟨b, off + h * 4 + 1, none⟩ = some (.string y2) ∧ W.cell? ⟨b, off + h * 4 + 2, none⟩ = some (.bool y3) ∧ W.cell? ⟨b, off + h * 4 + 3, none⟩ = some (.bool y4) ∧ W.cell? ⟨nb, 0, none⟩ = some (.int .i64 x1) ∧ W.cell? ⟨nb, 1, none⟩ = some (.string x2) ∧ W.cell? ⟨nb, 2, none⟩ = some (.bool x3) ∧ W.cell? ⟨nb, 3, none⟩ = some (.bool x4))
          (first
            | exact ⟨q0, q1, q2, q3, n0, n1, n2, n3⟩
            | exact ⟨by rw [hb9.cell (p := ⟨b, _, none⟩) (cell_lt q0)]; exact q0, by rw [hb9.cell (p := ⟨b, _, none⟩) (cell_lt q0)]; exact q1, by rw [hb9.cell (p := ⟨b, _, none⟩) (cell_lt q0)]; exact q2, by rw [hb9.cell (p := ⟨b, _, none⟩) (cell_lt q0)]; exact q3, by rw [hb9.cell (p := ⟨nb, _, none⟩) (cell_lt n0)]; exact n0, by rw [hb9.cell (p := ⟨nb, _, none⟩) (cell_lt n0)]; exact n1, by rw [hb9.cell (p := ⟨nb, _, none⟩) (cell_lt n0)]; exact n2, by rw [hb9.cell (p := ⟨nb, _, none⟩) (cell_lt n0)]; exact n3⟩)
          (first
            | (go_at_call 131; (with_reducible refine Calls.mono HO3.out ?_); rintro e w9 ⟨rfl, hb9⟩))
        have H5 := Lib.hid (H4.out.kept hb9)
        clear hb9
        go_wp2_with fail
        go_roundw
        case rel => exact ⟨f', ii, h, rfl, rfl, by omega, by omega, by omega, by rw [HBs.out, if_neg (by omega)], H5.out⟩
        case measure => simp [intOf]; omega
    · obtain rfl : ii = jj := by omega
      have hr : r = ii := by
        rw [← hb]
        obtain ⟨f', rfl⟩ : ∃ f', f = f' + 1 := ⟨f - 1, by omega⟩
        show (if ii < ii then _ else ii) = ii
        rw [if_neg (by omega)]
      subst hr
      have hlti : ¬ (r : Int) < (r : Int) := by omega
      clear hb hf hlt
      by_cases hrn : r < ys.length
      · have hrni : (r : Int) < (ys.length : Int) := by omega
        have hgd : ys.getD r default = ys[r] := by simp [List.getD, hrn]
        have hbq := HBq.out
        rw [hgd, decide_eq_true hrn, Bool.true_and] at hbq
        have HBq := Lib.hid hbq
        clear hbq
        obtain ⟨p', c', hv, hq⟩ := ((Sep.f1 (H3))).rowIn
        injection hv with hv1 hv2 hv3
        subst hv1 hv3
        rcases hq with hq | ⟨b, off, rfl, hq⟩
        · subst hq; exact absurd hrn (by simp)
        have q := fun k u hu => row_elem (k := 4) (enc := watchC) (fun _ => rfl) hq r hrn k u hu
        have q0 := q 0 _ rfl
        have q1 := q 1 _ rfl
        have q2 := q 2 _ rfl
        have q3 := q 3 _ rfl
        rw [Nat.add_zero] at q0
        obtain ⟨n0, n1, n2, n3, nfz, nlt⟩ := H3.c4
        have H4 := Lib.hid H3.drew
        clear q hq H3 hgd
        generalize ys[r] = y at *
        have HO2 := Lib.hid (HO.out y wr.drew)
        generalize orderV y ⟨x1, x2, x3, x4⟩ = ov at *
        obtain ⟨y1, y2, y3, y4⟩ := y
        simp only at q0 q1 q2 q3
        have HO3 : Hid (Calls Tryz.prog 131 #[.agg #[.int .i64 y1, .string y2, .bool y3, .bool y4], .agg #[.int .i64 x1, .string x2, .bool x3, .bool x4]] wr.drew fun e w' => e = .returned (.int .i64 ov) ∧ Below wr.drew.heap.size wr.drew w') := Lib.hid HO2.out
        clear HO2
        obtain ⟨fz, hfz⟩ : ∃ fz : Bool, (ov == 0) = fz := ⟨_, rfl⟩
        have hbq := HBq.out
        rw [show decide (ov = 0) = fz from by rw [← hfz]; by_cases h : ov = 0 <;> simp [h]] at hbq
        subst hbq
        go_wp2_with fail
        go_region_held3 (fun W => W.cell? ⟨b, off + r * 4, none⟩ = some (.int .i64 y1) ∧ W.cell? ⟨b, off + r * 4 + 1, none⟩ = some (.string y2) ∧ W.cell? ⟨b, off + r * 4 + 2, none⟩ = some (.bool y3) ∧ W.cell? ⟨b, off + r * 4 + 3, none⟩ = some (.bool y4) ∧ W.cell? ⟨nb, 0, none⟩ = some (.int .i64 x1) ∧ W.cell? ⟨nb, 1, none⟩ = some (.string x2) ∧ W.cell? ⟨nb, 2, none⟩ = some (.bool x3) ∧ W.cell? ⟨nb, 3, none⟩ = some (.bool x4))
          (first
            | exact ⟨q0, q1, q2, q3, n0, n1, n2, n3⟩
            | exact ⟨by rw [hb9.cell (p := ⟨b, _, none⟩) (cell_lt q0)]; exact q0, by rw [hb9.cell (p := ⟨b, _, none⟩) (cell_lt q0)]; exact q1, by rw [hb9.cell (p := ⟨b, _, none⟩) (cell_lt q0)]; exact q2, by rw [hb9.cell (p := ⟨b, _, none⟩) (cell_lt q0)]; exact q3, by rw [hb9.cell (p := ⟨nb, _, none⟩) (cell_lt n0)]; exact n0, by rw [hb9.cell (p := ⟨nb, _, none⟩) (cell_lt n0)]; exact n1, by rw [hb9.cell (p := ⟨nb, _, none⟩) (cell_lt n0)]; exact n2, by rw [hb9.cell (p := ⟨nb, _, none⟩) (cell_lt n0)]; exact n3⟩)
          (first
            | (go_at_call 131; (with_reducible refine Calls.mono HO3.out ?_); rintro e w9 ⟨rfl, hb9⟩))
        have H5 := Lib.hid (H4.out.kept hb9)
        clear hb9
        go_wp2
        go_ret2
        exact ⟨rfl, H5.out.drop⟩
      · have hrni : ¬ (r : Int) < (ys.length : Int) := by omega
        have hbq := HBq.out
        rw [decide_eq_false hrn, Bool.false_and] at hbq
        have HBq := Lib.hid hbq
        clear hbq
        have H4 := Lib.hid H3
        clear H3
        go_wp2
        go_quiet (fail)
        go_wp2
        go_ret2
        exact ⟨by rw [HBq.out]; rfl, (H4.out.drewN _).drop⟩
end Go.Proofs.YtpeflgfldbjflaaGreatDoor
end
