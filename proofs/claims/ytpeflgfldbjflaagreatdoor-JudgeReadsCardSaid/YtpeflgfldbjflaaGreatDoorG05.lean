/- WHAT IS PROVED HERE: Laying numbers: pith.Num; Laying texts and flags: pith.Text, pith.Flag. -/
import Derived.Test.YtpeflgfldbjflaaGreatDoorG03
set_option linter.unusedVariables false
set_option linter.unusedSimpArgs false
set_option linter.unusedSectionVars false
set_option linter.unnecessarySimpa false
section
namespace Go.Orch
open Go.RowKit
def clampN (n : Int) : Nat := (min (max n 0) 281474976710655).toNat
def be6at (x j : Nat) : UInt8 := UInt8.ofNat (x / 2 ^ (8 * (5 - j)))
def be6 (x : Nat) : List UInt8 := [be6at x 0, be6at x 1, be6at x 2, be6at x 3, be6at x 4, be6at x 5]
def numB (ns : List Int) : List UInt8 := ns.flatMap fun n => be6 (clampN n)
theorem be6at_nat (x j : Nat) : ((be6at x j).toNat : Int) = ((x / 2 ^ (8 * (5 - j)) % 256 : Nat) : Int) := by
  unfold be6at; rw [UInt8.toNat_ofNat']
theorem numB_take (ns : List Int) (k : Nat) (h : k < ns.length) : numB (ns.take (k + 1)) = numB (ns.take k) ++ be6 (clampN ns[k]) := by
  unfold numB; rw [List.take_succ_eq_append_getElem h, List.flatMap_append]; simp
theorem numB_len (ns : List Int) : (numB ns).length = 6 * ns.length := by
  induction ns with
  | nil => rfl
  | cons n ns ih =>
    have : numB (n :: ns) = be6 (clampN n) ++ numB ns := by simp [numB]
    rw [this, List.length_append, ih]; simp [be6]; omega
end Go.Orch
namespace Go.Proofs.YtpeflgfldbjflaaGreatDoor
open Go.RowKit Go.Orch
theorem num_info : (Tryz.prog.info? 5).map (fun i => (i.zero, i.size, i.bytes)) = some (some (.int .u8 0), 1, 1) := by kernel_rfl
set_option maxRecDepth 100000 in
set_option maxHeartbeats 1000000 in
theorem layNum_any (R w : World) (l : List HP) (v : Value) (xs : List UInt8) (lb : Nat) (ns : List Int) (hb : xs.length + 6 * ns.length ≤ 1000000000)
    (H : Sep R w (bytesS v xs :: cellsAt lb (ns.map intV).toArray :: l)) :
    Calls Tryz.prog 69 #[v, .slice (some ⟨lb, 0, none⟩) ns.length ns.length] w fun e w' => ∃ v', e = .returned v' ∧ Sep R w' (bytesS v' (xs ++ numB ns) :: cellsAt lb (ns.map intV).toArray :: l) := by
  have H1 := Lib.hid H; clear H
  go_enter Tryz.func69, Tryz.ntmps69
  go_wp2_with fail
  go_loopw [0, 11] (fun v i wr => ∃ k : Nat, k ≤ ns.length ∧ i = .int .i64 k ∧ Sep R wr (bytesS v (xs ++ numB (ns.take k)) :: cellsAt lb (ns.map intV).toArray :: l)) (fun _ i _ => ns.length - (intOf i).toNat)
  case atStart => exact ⟨0, Nat.zero_le _, rfl, by simpa [numB] using H1.out⟩
  case round =>
    obtain ⟨k, hk, rfl, H2⟩ := hrel
    by_cases hlt : k < ns.length
    · have hc : wr.cell? ⟨lb, k, none⟩ = some (.int .i64 ns[k]) := H2.swap.c k (by simp [hlt, intV])
      have H3 := Lib.hid H2; clear H2
      obtain ⟨wo, rfl⟩ : ∃ wo : World, wo = wr := ⟨_, rfl⟩
      have hnx := Lib.hid (numB_take ns k hlt)
      generalize ns[k] = n at *
      obtain ⟨y, hy, hy0⟩ : ∃ y : Int, (if n < 0 then 0 else n) = y ∧ 0 ≤ y := ⟨_, rfl, by split <;> omega⟩
      obtain ⟨x, hx, hx0, hxc⟩ : ∃ x : Nat, (if 281474976710655 < y then 281474976710655 else y) = (x : Int) ∧ x ≤ 281474976710655 ∧ clampN n = x := by
        refine ⟨clampN n, ?_, ?_, rfl⟩ <;> unfold clampN <;> omega
      have Hxc := Lib.hid hxc
      clear hxc
      go_wp2_with fail
      clear hx hy hc
      obtain ⟨wi, rfl⟩ : ∃ wi : World, wi = wo := ⟨_, rfl⟩
      go_loopw [0, 8] (fun v i wr => ∃ j : Nat, j ≤ 6 ∧ i = .int .i64 (40 - 8 * (j : Int)) ∧ Sep R wr (bytesS v (xs ++ numB (ns.take k) ++ (be6 x).take j) :: cellsAt lb (ns.map intV).toArray :: l)) (fun _ i _ => (intOf i + 8).toNat)
      case atStart => exact ⟨0, by omega, rfl, by simpa using H3.out⟩
      case round =>
        obtain ⟨j, hj, rfl, H4⟩ := hrel
        have H5 := Lib.hid H4; clear H4
        have hcase : j = 0 ∨ j = 1 ∨ j = 2 ∨ j = 3 ∨ j = 4 ∨ j = 5 ∨ j = 6 := by omega
        rcases hcase with rfl | rfl | rfl | rfl | rfl | rfl | rfl
        · go_wp2_with (at_builtin; refine Hid.out ?_)
          refine Lib.hid (wpList_append_bytes rfl _ _ 121 121 5 rfl Tryz.underlying121 Tryz.underlying121 (.inr ⟨_, rfl⟩) num_info rfl rfl (Src.byte1 (be6at x 0) ?c1 (H5.out.mkc _ _)) (H5.out.mkc _ _).swap ?c2 ?_)
          case c1 => rw [be6at_nat]; omega
          case c2 => simp [numB_len, be6]; omega
          intro v' w' H6
          have H7 := Lib.hid H6.swap.drop; clear H6
          go_wp2_with fail
          go_roundw
          case rel => exact ⟨1, by omega, rfl, by have := H7.out; simpa [be6] using this⟩
          case measure => simp [intOf]
        · go_wp2_with (at_builtin; refine Hid.out ?_)
          refine Lib.hid (wpList_append_bytes rfl _ _ 121 121 5 rfl Tryz.underlying121 Tryz.underlying121 (.inr ⟨_, rfl⟩) num_info rfl rfl (Src.byte1 (be6at x 1) ?c1 (H5.out.mkc _ _)) (H5.out.mkc _ _).swap ?c2 ?_)
          case c1 => rw [be6at_nat]; omega
          case c2 => simp [numB_len, be6]; omega
          intro v' w' H6
          have H7 := Lib.hid H6.swap.drop; clear H6
          go_wp2_with fail
          go_roundw
          case rel => exact ⟨2, by omega, rfl, by have := H7.out; simpa [be6] using this⟩
          case measure => simp [intOf]
        · go_wp2_with (at_builtin; refine Hid.out ?_)
          refine Lib.hid (wpList_append_bytes rfl _ _ 121 121 5 rfl Tryz.underlying121 Tryz.underlying121 (.inr ⟨_, rfl⟩) num_info rfl rfl (Src.byte1 (be6at x 2) ?c1 (H5.out.mkc _ _)) (H5.out.mkc _ _).swap ?c2 ?_)
          case c1 => rw [be6at_nat]; omega
          case c2 => simp [numB_len, be6]; omega
          intro v' w' H6
          have H7 := Lib.hid H6.swap.drop; clear H6
          go_wp2_with fail
          go_roundw
          case rel => exact ⟨3, by omega, rfl, by have := H7.out; simpa [be6] using this⟩
          case measure => simp [intOf]
        · go_wp2_with (at_builtin; refine Hid.out ?_)
          refine Lib.hid (wpList_append_bytes rfl _ _ 121 121 5 rfl Tryz.underlying121 Tryz.underlying121 (.inr ⟨_, rfl⟩) num_info rfl rfl (Src.byte1 (be6at x 3) ?c1 (H5.out.mkc _ _)) (H5.out.mkc _ _).swap ?c2 ?_)
          case c1 => rw [be6at_nat]; omega
          case c2 => simp [numB_len, be6]; omega
          intro v' w' H6
          have H7 := Lib.hid H6.swap.drop; clear H6
          go_wp2_with fail
          go_roundw
          case rel => exact ⟨4, by omega, rfl, by have := H7.out; simpa [be6] using this⟩
          case measure => simp [intOf]
        · go_wp2_with (at_builtin; refine Hid.out ?_)
          refine Lib.hid (wpList_append_bytes rfl _ _ 121 121 5 rfl Tryz.underlying121 Tryz.underlying121 (.inr ⟨_, rfl⟩) num_info rfl rfl (Src.byte1 (be6at x 4) ?c1 (H5.out.mkc _ _)) (H5.out.mkc _ _).swap ?c2 ?_)
          case c1 => rw [be6at_nat]; omega
          case c2 => simp [numB_len, be6]; omega
          intro v' w' H6
          have H7 := Lib.hid H6.swap.drop; clear H6
          go_wp2_with fail
          go_roundw
          case rel => exact ⟨5, by omega, rfl, by have := H7.out; simpa [be6] using this⟩
          case measure => simp [intOf]
        · go_wp2_with (at_builtin; refine Hid.out ?_)
          refine Lib.hid (wpList_append_bytes rfl _ _ 121 121 5 rfl Tryz.underlying121 Tryz.underlying121 (.inr ⟨_, rfl⟩) num_info rfl rfl (Src.byte1 (be6at x 5) ?c1 (H5.out.mkc _ _)) (H5.out.mkc _ _).swap ?c2 ?_)
          case c1 => rw [be6at_nat]; omega
          case c2 => simp [numB_len, be6]; omega
          intro v' w' H6
          have H7 := Lib.hid H6.swap.drop; clear H6
          go_wp2_with fail
          go_roundw
          case rel => exact ⟨6, by omega, rfl, by have := H7.out; simpa [be6] using this⟩
          case measure => simp [intOf]
        · rw [show (be6 x).take 6 = be6 x from rfl] at H5
          have H6 : Sep R wr (bytesS u0 (xs ++ numB (ns.take (k + 1))) :: cellsAt lb (ns.map intV).toArray :: l) := by
            rw [hnx.out, Hxc.out, ← List.append_assoc]; exact H5.out
          have H7 := Lib.hid H6; clear H6
          go_wp2_with fail
          go_roundw
          case rel => exact ⟨k + 1, by omega, by go_num, H7.out⟩
          case measure => simp [intOf]; omega
    · have hk' : k = ns.length := by omega
      subst hk'
      rw [List.take_of_length_le (by simp)] at H2
      have H3 := Lib.hid H2; clear H2
      go_wp2_with fail
      go_ret
      exact ⟨_, rfl, H3.out⟩
end Go.Proofs.YtpeflgfldbjflaaGreatDoor
end
section
namespace Go.Orch
open Go.RowKit
def clipT (s : ByteArray) : ByteArray := s.extract 0 (min s.size 65535)
def text1 (s : ByteArray) : List UInt8 := [UInt8.ofNat (min s.size 65535 / 256), UInt8.ofNat (min s.size 65535)] ++ (clipT s).data.toList
def textB (ss : List ByteArray) : List UInt8 := ss.flatMap text1
theorem textB_take (ss : List ByteArray) (k : Nat) (h : k < ss.length) : textB (ss.take (k + 1)) = textB (ss.take k) ++ text1 ss[k] := by
  unfold textB; rw [List.take_succ_eq_append_getElem h, List.flatMap_append]; simp
theorem textB_le (ss : List ByteArray) (k : Nat) : (textB (ss.take k)).length ≤ (textB ss).length := by
  have : textB ss = textB (ss.take k) ++ textB (ss.drop k) := by unfold textB; rw [← List.flatMap_append, List.take_append_drop]
  rw [this, List.length_append]; omega
def flag1 (b : Bool) : UInt8 := if b then 1 else 0
def flagB (bs : List Bool) : List UInt8 := bs.map flag1
theorem flagB_take (bs : List Bool) (k : Nat) (h : k < bs.length) : flagB (bs.take (k + 1)) = flagB (bs.take k) ++ [flag1 bs[k]] := by
  unfold flagB; rw [List.take_succ_eq_append_getElem h, List.map_append]; simp
end Go.Orch
namespace Go.Proofs.YtpeflgfldbjflaaGreatDoor
open Go.RowKit Go.Orch
set_option maxRecDepth 100000 in
set_option maxHeartbeats 1000000 in
theorem layFlag_any (R w : World) (l : List HP) (v : Value) (xs : List UInt8) (lb : Nat) (ns : List Bool) (hb : xs.length + ns.length ≤ 1000000000)
    (H : Sep R w (bytesS v xs :: cellsAt lb (ns.map Value.bool).toArray :: l)) :
    Calls Tryz.prog 70 #[v, .slice (some ⟨lb, 0, none⟩) ns.length ns.length] w fun e w' => ∃ v', e = .returned v' ∧ Sep R w' (bytesS v' (xs ++ flagB ns) :: cellsAt lb (ns.map Value.bool).toArray :: l) := by
  have H1 := Lib.hid H; clear H
  go_enter Tryz.func70, Tryz.ntmps70
  go_wp2_with fail
  go_loopw [0, 10] (fun v i wr => ∃ k : Nat, k ≤ ns.length ∧ i = .int .i64 k ∧ Sep R wr (bytesS v (xs ++ flagB (ns.take k)) :: cellsAt lb (ns.map Value.bool).toArray :: l)) (fun _ i _ => ns.length - (intOf i).toNat)
  case atStart => exact ⟨0, Nat.zero_le _, rfl, by simpa [flagB] using H1.out⟩
  case round =>
    obtain ⟨k, hk, rfl, H2⟩ := hrel
    by_cases hlt : k < ns.length
    · have hc : wr.cell? ⟨lb, k, none⟩ = some (.bool ns[k]) := H2.swap.c k (by simp [hlt])
      have hl : (flagB (ns.take k)).length = k := by simp [flagB]; omega
      have HL := Lib.hid hl
      have H3 := Lib.hid H2; clear H2 hl
      have hnx := Lib.hid (flagB_take ns k hlt)
      generalize ns[k] = n at *
      cases n
      · go_wp2_with (at_builtin; refine Hid.out ?_)
        refine Lib.hid (wpList_append_bytes rfl _ _ 121 121 5 rfl Tryz.underlying121 Tryz.underlying121 (.inr ⟨_, rfl⟩) num_info rfl rfl (Src.byte1 (flag1 false) rfl (H3.out.mkc _ _)) (H3.out.mkc _ _).swap ?c2 ?_)
        case c2 => rw [List.length_append, HL.out]; simp; omega
        intro v' w' H6
        have H7 := Lib.hid H6.swap.drop; clear H6
        go_wp2_with fail
        go_roundw
        case rel => exact ⟨k + 1, by omega, by go_num, by rw [hnx.out, ← List.append_assoc]; exact H7.out⟩
        case measure => simp [intOf]; omega
      · go_wp2_with (at_builtin; refine Hid.out ?_)
        refine Lib.hid (wpList_append_bytes rfl _ _ 121 121 5 rfl Tryz.underlying121 Tryz.underlying121 (.inr ⟨_, rfl⟩) num_info rfl rfl (Src.byte1 (flag1 true) rfl (H3.out.mkc _ _)) (H3.out.mkc _ _).swap ?c2 ?_)
        case c2 => rw [List.length_append, HL.out]; simp; omega
        intro v' w' H6
        have H7 := Lib.hid H6.swap.drop; clear H6
        go_wp2_with fail
        go_roundw
        case rel => exact ⟨k + 1, by omega, by go_num, by rw [hnx.out, ← List.append_assoc]; exact H7.out⟩
        case measure => simp [intOf]; omega
    · have hk' : k = ns.length := by omega
      subst hk'
      rw [List.take_of_length_le (by simp)] at H2
      have H3 := Lib.hid H2; clear H2
      go_wp2_with fail
      go_ret
      exact ⟨_, rfl, H3.out⟩
set_option maxRecDepth 100000 in
set_option maxHeartbeats 1000000 in
theorem layText_any (R w : World) (l : List HP) (v : Value) (xs : List UInt8) (lb : Nat) (ns : List ByteArray) (hb : xs.length + (textB ns).length ≤ 1000000000) (hs : ∀ s ∈ ns, s.size ≤ 9000000000000000000) (hn : ns.length ≤ 1000000000)
    (H : Sep R w (bytesS v xs :: cellsAt lb (ns.map Value.string).toArray :: l)) :
    Calls Tryz.prog 71 #[v, .slice (some ⟨lb, 0, none⟩) ns.length ns.length] w fun e w' => ∃ v', e = .returned v' ∧ Sep R w' (bytesS v' (xs ++ textB ns) :: cellsAt lb (ns.map Value.string).toArray :: l) := by
  have H1 := Lib.hid H; clear H
  have HB := Lib.hid hb; clear hb
  have HS := Lib.hid hs; clear hs
  go_enter Tryz.func71, Tryz.ntmps71
  go_wp2_with fail
  go_loopw [0, 9] (fun v i wr => ∃ k : Nat, k ≤ ns.length ∧ i = .int .i64 k ∧ Sep R wr (bytesS v (xs ++ textB (ns.take k)) :: cellsAt lb (ns.map Value.string).toArray :: l)) (fun _ i _ => ns.length - (intOf i).toNat)
  case atStart => exact ⟨0, Nat.zero_le _, rfl, by simpa [textB] using H1.out⟩
  case round =>
    obtain ⟨k, hk, rfl, H2⟩ := hrel
    by_cases hlt : k < ns.length
    · have hc : wr.cell? ⟨lb, k, none⟩ = some (.string ns[k]) := H2.swap.c k (by simp [hlt])
      have hsz := HS.out ns[k] (by simp)
      have hnx := textB_take ns k hlt
      have hle := textB_le ns (k + 1)
      rw [hnx] at hle
      have H3 := Lib.hid H2; clear H2
      have HN := Lib.hid hnx; clear hnx
      generalize ns[k] = s at *
      obtain ⟨m, hm, hmmin, hm1, hm2⟩ : ∃ m : Nat, (if 65535 < (s.size : Int) then 65535 else (s.size : Int)) = (m : Int) ∧ min s.size 65535 = m ∧ m ≤ s.size ∧ m ≤ 65535 := by
        refine ⟨min s.size 65535, ?_, rfl, ?_, ?_⟩ <;> omega
      have ht : text1 s = [UInt8.ofNat (m / 256), UInt8.ofNat m] ++ (s.extract 0 m).data.toList := by unfold text1 clipT; rw [hmmin]
      have he : (s.extract 0 m).size = m := by simp [ByteArray.size_extract]; omega
      have he2 : (s.extract 0 m).data.toList.length = m := by simpa using he
      rw [ht, List.length_append, List.length_append, he2] at hle
      rw [ht] at HN
      have hb0 : ((m / 256 : Nat) : Int) = ((UInt8.ofNat (m / 256)).toNat : Int) := by rw [UInt8.toNat_ofNat']; omega
      have hb1 : ((m % 256 : Nat) : Int) = ((UInt8.ofNat m).toNat : Int) := by rw [UInt8.toNat_ofNat']
      have HB0 := Lib.hid hb0
      have HB1 := Lib.hid hb1
      have HLE := Lib.hid hle
      have HE2 := Lib.hid he2
      clear hb0 hb1 hle he2 hmmin ht
      go_wp2_with (at_builtin; refine Hid.out ?_)
      refine Lib.hid (wpList_append_bytes rfl _ _ 121 121 5 rfl Tryz.underlying121 Tryz.underlying121 (.inr ⟨_, rfl⟩) num_info rfl rfl (Src.byte2 (UInt8.ofNat (m / 256)) (UInt8.ofNat m) ?c1 ?c3 (H3.out.mkc _ _)) (H3.out.mkc _ _).swap ?c2 ?_)
      case c1 => rw [← HB0.out]; omega
      case c3 => rw [← HB1.out]; omega
      case c2 => have := HLE.out; have := HB.out; simp at *; omega
      intro v' w' H6
      have H7 := Lib.hid H6.swap.drop; clear H6
      go_wp2_with (at_builtin; refine Hid.out ?_)
      refine Lib.hid (wpList_append_bytes rfl _ _ 121 9 5 rfl Tryz.underlying121 Tryz.underlying9 (.inl rfl) num_info rfl rfl (Src.string _) H7.out ?c2 ?_)
      case c2 => have := HLE.out; have := HB.out; have := HE2.out; simp at *; omega
      intro v2 w2 H8
      have H9 := Lib.hid H8; clear H8
      go_wp2_with fail
      go_roundw
      case rel => exact ⟨k + 1, by omega, by go_num, by rw [HN.out, ← List.append_assoc, ← List.append_assoc]; exact H9.out⟩
      case measure => simp [intOf]; omega
    · have hk' : k = ns.length := by omega
      subst hk'
      rw [List.take_of_length_le (by simp)] at H2
      have H3 := Lib.hid H2; clear H2
      go_wp2_with fail
      go_ret
      exact ⟨_, rfl, H3.out⟩
end Go.Proofs.YtpeflgfldbjflaaGreatDoor
end
