/- WHAT IS PROVED HERE: The reader of package pith: what each of its functions comes to. -/
import Derived.Test.YtpeflgfldbjflaaGreatDoorProg
import Derived.Test.YtpeflgfldbjflaaGreatDoorG02
import Derived.WalkKit
import Derived.Lib.Hide
import Derived.Deep.QuietTactic
import Derived.BigQuiet
set_option linter.unusedVariables false
set_option linter.unusedSimpArgs false
set_option linter.unusedSectionVars false
set_option linter.unnecessarySimpa false
section
namespace Go.Orch
open Go.RowKit
structure Rd where
  s : ByteArray
  bad : Bool
def Rd.fail : Rd := ⟨⟨#[]⟩, true⟩
def Rd.take (r : Rd) (n : Nat) : ByteArray × Rd := if r.bad || decide (r.s.size < n) then (⟨#[]⟩, Rd.fail) else (r.s.extract 0 n, ⟨r.s.extract n r.s.size, false⟩)
def Rd.num (r : Rd) (most : Nat) : Nat × Rd := if most < beN (r.take 6).1.data.toList then (0, Rd.fail) else (beN (r.take 6).1.data.toList, (r.take 6).2)
def Rd.ok (r : Rd) : Bool := !r.bad
def Rd.done (r : Rd) : Bool := !r.bad && decide (r.s.data.toList = [])
def Rd.text (r : Rd) (most : Nat) : ByteArray × Rd :=
  if (r.take 2).1.data.toList = [] then (⟨#[]⟩, (r.take 2).2)
  else if most < beN (r.take 2).1.data.toList then (⟨#[]⟩, Rd.fail)
  else (r.take 2).2.take (beN (r.take 2).1.data.toList)
def Rd.flag (r : Rd) : Bool × Rd :=
  if (r.take 1).1.data.toList = [] then (false, (r.take 1).2)
  else if 1 < beN (r.take 1).1.data.toList then (false, Rd.fail)
  else (decide ((r.take 1).1.data.toList = [1]), (r.take 1).2)
theorem Rd.take_cases (r : Rd) (n : Nat) : (r.take n).1.data.toList = [] ∨ (r.take n).1.size = n := by
  unfold Rd.take
  split
  · exact .inl rfl
  · rename_i h
    simp only [Bool.or_eq_true, decide_eq_true_eq, not_or] at h
    right; simp [ByteArray.size_extract]; omega
theorem Rd.take_size (r : Rd) (n : Nat) : (r.take n).1.size ≤ n := by
  unfold Rd.take
  split
  · exact Nat.zero_le _
  · simp [ByteArray.size_extract]; omega
theorem Rd.take_left (r : Rd) (n : Nat) : (r.take n).2.s.size ≤ r.s.size := by
  unfold Rd.take
  split
  · exact Nat.zero_le _
  · simp [ByteArray.size_extract]
theorem Rd.num_left (r : Rd) (n : Nat) : (r.num n).2.s.size ≤ r.s.size := by
  unfold Rd.num
  split
  · exact Nat.zero_le _
  · exact r.take_left 6
theorem Rd.num_le (r : Rd) (n : Nat) : (r.num n).1 ≤ n := by
  unfold Rd.num
  split
  · exact Nat.zero_le _
  · simp only; omega
def rdAt (b : Nat) (r : Rd) : HP := cellsAt b #[.string r.s, .bool r.bad]
end Go.Orch
namespace Go.Proofs.YtpeflgfldbjflaaGreatDoor
open Go.RowKit Go.Orch
theorem fail_any (R w : World) (l : List HP) (b : Nat) (r : Rd) (H : Sep R w (rdAt b r :: l)) :
    Calls Tryz.prog 61 #[.pointer (some ⟨b, 0, none⟩)] w fun e w' => e = .returned (.tuple #[]) ∧ Sep R w' (rdAt b Rd.fail :: l) := by
  have c0 := H.c 0 rfl
  have c1 := H.c 1 rfl
  have fz := H.fz
  have HH := Lib.hid H; clear H
  go_enter Tryz.func61, Tryz.ntmps61
  go_wp2
  go_end0
  exact ⟨rfl, (HH.out.st 0 _).st 1 _⟩
theorem take_any (R w : World) (l : List HP) (b n : Nat) (r : Rd) (hs : r.s.size ≤ maxLen) (H : Sep R w (rdAt b r :: l)) :
    Calls Tryz.prog 60 #[.pointer (some ⟨b, 0, none⟩), .int .i64 n] w fun e w' => e = .returned (.string (r.take n).1) ∧ Sep R w' (rdAt b (r.take n).2 :: l) := by
  have c0 := H.c 0 rfl
  have c1 := H.c 1 rfl
  have fz := H.fz
  obtain ⟨s, bad⟩ := r
  unfold maxLen at hs
  simp only at c0 c1 hs
  cases bad with
  | true =>
    have HH := Lib.hid H; clear H
    go_enter Tryz.func60, Tryz.ntmps60
    go_wp2_with (go_at_call 61; refine (fail_any _ _ _ _ _ HH.out).mono ?_; rintro e w' ⟨rfl, H1⟩)
    go_ret
    exact ⟨rfl, H1⟩
  | false =>
    by_cases hn : s.size < n
    · have HH := Lib.hid H; clear H
      go_enter Tryz.func60, Tryz.ntmps60
      go_wp2_with (go_at_call 61; refine (fail_any _ _ _ _ _ HH.out).mono ?_; rintro e w' ⟨rfl, H1⟩)
      go_ret
      simp only [Rd.take, hn, Bool.false_or, decide_true, if_true]
      exact ⟨rfl, H1⟩
    · have HH := Lib.hid H; clear H
      go_enter Tryz.func60, Tryz.ntmps60
      go_wp2
      go_ret
      simp only [Rd.take, hn, Bool.false_or, decide_false, Bool.false_eq_true, if_false]
      exact ⟨rfl, HH.out.st 0 _⟩
theorem read_any (R w : World) (l : List HP) (s : ByteArray) (H : Sep R w l) :
    Calls Tryz.prog 31 #[.string s] w fun e w' => ∃ b, e = .returned (.pointer (some ⟨b, 0, none⟩)) ∧ Sep R w' (rdAt b ⟨s, false⟩ :: l) := by
  have H1 := Lib.hid H; clear H
  have post : ∀ e w', (e = Ending.returned (.pointer (some ⟨w.heap.size, 0, none⟩)) ∧ w' = w.alloc (.cells #[.string s, .bool false] 120)) → ∃ b, e = Ending.returned (.pointer (some ⟨b, 0, none⟩)) ∧ Sep R w' (rdAt b ⟨s, false⟩ :: l) := by
    rintro e w' ⟨rfl, rfl⟩
    exact ⟨_, rfl, H1.out.mkc _ _⟩
  refine Calls.mono ?_ post
  clear post H1
  go_enter Tryz.func31, Tryz.ntmps31
  go_wp2
  go_ret
  exact ⟨rfl, rfl⟩
theorem ok_any (R w : World) (l : List HP) (b : Nat) (r : Rd) (H : Sep R w (rdAt b r :: l)) :
    Calls Tryz.prog 62 #[.pointer (some ⟨b, 0, none⟩)] w fun e w' => e = .returned (.bool r.ok) ∧ w = w' := by
  have c1 := H.c 1 rfl
  clear H
  go_enter Tryz.func62, Tryz.ntmps62
  go_wp2
  go_ret
  exact ⟨rfl, rfl⟩
theorem done_any (R w : World) (l : List HP) (b : Nat) (r : Rd) (H : Sep R w (rdAt b r :: l)) :
    Calls Tryz.prog 35 #[.pointer (some ⟨b, 0, none⟩)] w fun e w' => e = .returned (.int .i64 (if r.done then 0 else 2)) ∧ w = w' := by
  have c0 : w.cell? ⟨b, 0, none⟩ = some (.string r.s) := H.c 0 rfl
  have H1 := Lib.hid (ok_any R w l b r H); clear H
  by_cases hb : r.bad = true
  · have ho : r.ok = false := by simp [Rd.ok, hb]
    have hd : r.done = false := by simp [Rd.done, hb]
    rw [hd]
    rw [ho] at H1
    go_enter Tryz.func35, Tryz.ntmps35
    go_wp2_with (go_at_call 62; refine H1.out.mono ?_; rintro e w' ⟨rfl, rfl⟩)
    go_ret
    exact ⟨rfl, rfl⟩
  · have hb' : r.bad = false := by simpa using hb
    have ho : r.ok = true := by simp [Rd.ok, hb']
    rw [ho] at H1
    clear hb ho
    by_cases hz : r.s.data.toList = []
    · obtain ⟨h1, h2, h3⟩ := str_nil hz
      have hd : r.done = true := by unfold Rd.done; rw [hb', hz]; rfl
      rw [hd]
      clear hd hz hb'
      go_enter Tryz.func35, Tryz.ntmps35
      go_wp2_with (go_at_call 62; refine H1.out.mono ?_; rintro e w' ⟨rfl, rfl⟩)
      go_ret
      exact ⟨rfl, rfl⟩
    · obtain ⟨h1, h2, h3⟩ := str_ne hz
      have hd : r.done = false := by unfold Rd.done; rw [decide_eq_false hz]; simp
      rw [hd]
      clear hd hz hb'
      go_enter Tryz.func35, Tryz.ntmps35
      go_wp2_with (go_at_call 62; refine H1.out.mono ?_; rintro e w' ⟨rfl, rfl⟩)
      go_ret
      exact ⟨rfl, rfl⟩
set_option maxRecDepth 100000 in
set_option maxHeartbeats 400000 in
theorem num_any (R w : World) (l : List HP) (b n : Nat) (r : Rd) (hs : r.s.size ≤ maxLen) (H : Sep R w (rdAt b r :: l)) :
    Calls Tryz.prog 32 #[.pointer (some ⟨b, 0, none⟩), .int .i64 n] w fun e w' => e = .returned (.int .i64 (r.num n).1) ∧ Sep R w' (rdAt b (r.num n).2 :: l) := by
  have HT := Lib.hid (take_any R w l b 6 r hs H)
  unfold Rd.num
  have hsz := r.take_size 6
  generalize r.take 6 = q at *
  obtain ⟨t, r'⟩ := q
  simp only at hsz
  go_enter Tryz.func32, Tryz.ntmps32
  go_wp2_with fail
  refine HT.out.mono ?_
  rintro e w' ⟨rfl, H2⟩
  obtain ⟨w2, nb, cap, kc, hcell, H4⟩ := conv_bytes (P := Tryz.prog) 9 121 5 t Tryz.underlying9 Tryz.underlying121 Tryz.underlying5 H2
  have H3 := Lib.hid H4
  have HC := Lib.hid hcell
  clear H H2 H4 hcell HT
  go_wp2_with fail
  clear kc
  go_loop [5, 12] (fun x i => ∃ k : Nat, k ≤ t.size ∧ i = .int .i64 k ∧ x = .int .i64 (beN (t.data.toList.take k))) (fun _ i => t.size - (intOf i).toNat)
  case atStart => exact ⟨0, Nat.zero_le _, rfl, rfl⟩
  case round =>
    obtain ⟨k, hk, rfl, rfl⟩ := hrel
    by_cases hlt : k < t.size
    · have hc := HC.out k hlt
      have hlt' : k < t.data.toList.length := by simpa using hlt
      have hb1 : beN (t.data.toList.take k) < 256 ^ 5 := by
        refine Nat.lt_of_lt_of_le (beN_lt _) (Nat.pow_le_pow_right (by omega) ?_)
        have := List.length_take_le k t.data.toList
        omega
      have hor := or_byte (beN (t.data.toList.take k)) (t.data[k]).toNat (by omega) (by omega) (t.data[k]).toNat_lt
      have hnx : beN (t.data.toList.take (k + 1)) = beN (t.data.toList.take k) * 256 + (t.data[k]).toNat := by
        rw [take_snoc _ _ hlt', beN_snoc]; simp
      have HN := Lib.hid hnx
      have HO := Lib.hid hor
      clear hnx hor
      go_wp2_with fail
      go_round
      case rel => exact ⟨k + 1, by omega, by go_num, by rw [HO.out, HN.out]; go_num⟩
      case measure => simp [intOf]; omega
    · have hk' : k = t.size := by omega
      subst hk'
      rw [List.take_of_length_le (by simp)] at *
      go_wp2_with (go_at_call 61; refine (fail_any _ _ _ _ _ H3.out).mono ?_; rintro e w' ⟨rfl, H5⟩)
      all_goals go_ret
      · exact ⟨rfl, H5⟩
      · exact ⟨rfl, H3.out⟩
set_option maxRecDepth 100000 in
set_option maxHeartbeats 400000 in
theorem text_any (R w : World) (l : List HP) (b n : Nat) (r : Rd) (hs : r.s.size ≤ maxLen) (H : Sep R w (rdAt b r :: l)) :
    Calls Tryz.prog 33 #[.pointer (some ⟨b, 0, none⟩), .int .i64 n] w fun e w' => e = .returned (.string (r.text n).1) ∧ Sep R w' (rdAt b (r.text n).2 :: l) := by
  have HT := Lib.hid (take_any R w l b 2 r hs H)
  unfold Rd.text
  have hc := r.take_cases 2
  have hl := r.take_left 2
  generalize r.take 2 = q at *
  obtain ⟨t, r'⟩ := q
  simp only at hc hl
  rcases hc with hc | hc
  · obtain ⟨h1, h2, h3⟩ := str_nil hc
    rw [if_pos hc]
    clear hc
    go_enter Tryz.func33, Tryz.ntmps33
    go_wp2_with fail
    refine HT.out.mono ?_
    rintro e w' ⟨rfl, H2⟩
    have H3 := Lib.hid H2; clear H2
    go_wp2
    go_ret
    exact ⟨rfl, H3.out⟩
  · obtain ⟨h1, h2, h3⟩ := str_ne (str_pos (by omega : 0 < t.size))
    obtain ⟨hz, hz1, k, hk, hk2, hbits⟩ := be2 t hc
    rw [if_neg (str_pos hz), ← hk]
    clear hk
    have hs' : r'.s.size ≤ maxLen := Nat.le_trans hl hs
    have HK := Lib.hid hs'
    clear hs' hs
    by_cases hlt : n < k
    · rw [if_pos hlt]
      go_enter Tryz.func33, Tryz.ntmps33
      go_wp2_with fail
      refine HT.out.mono ?_
      rintro e w' ⟨rfl, H2⟩
      have H3 := Lib.hid H2; clear H2
      go_wp2
      go_quiet (fail)
      go_wp2_with fail
      refine (fail_any _ _ _ _ _ (H3.out.drewN _)).mono ?_
      rintro e w1 ⟨rfl, H4⟩
      have H5 := Lib.hid H4; clear H4
      go_wp2_with fail
      refine (take_any _ _ _ _ k _ (Nat.zero_le _) H5.out).mono ?_
      rintro e w2 ⟨rfl, H6⟩
      go_wp2
      go_ret
      exact ⟨rfl, H6⟩
    · rw [if_neg hlt]
      go_enter Tryz.func33, Tryz.ntmps33
      go_wp2_with fail
      refine HT.out.mono ?_
      rintro e w' ⟨rfl, H2⟩
      have H3 := Lib.hid H2; clear H2
      go_wp2
      go_quiet (fail)
      go_wp2_with fail
      refine (take_any _ _ _ _ k _ HK.out (H3.out.drewN _)).mono ?_
      rintro e w2 ⟨rfl, H6⟩
      go_wp2
      go_ret
      exact ⟨rfl, H6⟩
set_option maxHeartbeats 400000 in
theorem flag_any (R w : World) (l : List HP) (b : Nat) (r : Rd) (hs : r.s.size ≤ maxLen) (H : Sep R w (rdAt b r :: l)) :
    Calls Tryz.prog 34 #[.pointer (some ⟨b, 0, none⟩)] w fun e w' => e = .returned (.bool r.flag.1) ∧ Sep R w' (rdAt b r.flag.2 :: l) := by
  have HT := Lib.hid (take_any R w l b 1 r hs H)
  unfold Rd.flag
  have hc := r.take_cases 1
  generalize r.take 1 = q at *
  obtain ⟨t, r'⟩ := q
  simp only at hc
  clear hs
  rcases hc with hc | hc
  · obtain ⟨h1, h2, h3⟩ := str_nil hc
    rw [if_pos hc]
    clear hc
    go_enter Tryz.func34, Tryz.ntmps34
    go_wp2_with fail
    refine HT.out.mono ?_
    rintro e w' ⟨rfl, H2⟩
    have H3 := Lib.hid H2; clear H2
    go_wp2
    go_ret
    exact ⟨rfl, H3.out⟩
  · obtain ⟨h1, h2, h3⟩ := str_ne (str_pos (by omega : 0 < t.size))
    obtain ⟨hz, hl⟩ := be1 t hc
    rw [if_neg (str_pos hz), hl]
    have he : t.toList = [t[0]] := by rw [ByteArray.toList_eq]; exact hl
    have hb : beN [t[0]] = t[0].toNat := by simp [beN]
    rw [hb]
    clear hl hb
    by_cases hlt : 1 < t[0].toNat
    · rw [if_pos hlt]
      go_enter Tryz.func34, Tryz.ntmps34
      go_wp2_with fail
      refine HT.out.mono ?_
      rintro e w' ⟨rfl, H2⟩
      have H3 := Lib.hid H2; clear H2
      go_wp2_with fail
      refine (fail_any _ _ _ _ _ H3.out).mono ?_
      rintro e w1 ⟨rfl, H4⟩
      have H5 := Lib.hid H4; clear H4
      go_wp2
      go_ret
      exact ⟨rfl, H5.out⟩
    · rw [if_neg hlt, show decide ([t[0]] = [(1 : UInt8)]) = (t[0] == 1) from by by_cases e : t[0] = 1 <;> simp [e]]
      go_enter Tryz.func34, Tryz.ntmps34
      go_wp2_with fail
      refine HT.out.mono ?_
      rintro e w' ⟨rfl, H2⟩
      have H3 := Lib.hid H2; clear H2
      go_wp2
      go_ret
      exact ⟨rfl, H3.out⟩
end Go.Proofs.YtpeflgfldbjflaaGreatDoor
end
