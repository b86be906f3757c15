/- WHAT IS PROVED HERE: Package path. -/
import Derived.Test.YtpeflgfldbjflaaGreatDoorG03
import Derived.Test.YtpeflgfldbjflaaGreatDoorG01
import Derived.Lib.ItoaLen
set_option linter.unusedVariables false
set_option linter.unusedSimpArgs false
set_option linter.unusedSectionVars false
set_option linter.unnecessarySimpa false
section
namespace Go.Orch
open Go.RowKit Go.Proofs
def slash : ByteArray := ⟨#[47]⟩
def okByte (c : UInt8) : Bool := (97 ≤ c.toNat && c.toNat ≤ 122) || (48 ≤ c.toNat && c.toNat ≤ 57) || c.toNat == 45
def partOK (s : ByteArray) : Bool := decide (0 < s.size) && decide (s.size ≤ 20) && s.data.toList.all okByte
def partsOf (s : ByteArray) : List ByteArray := Lib.splitB slash 0 (Lib.countB (s.extract 1 s.size) slash) (s.extract 1 s.size)
def pathCheck (s : ByteArray) : Int :=
  if s.data.toList = [47] then 0 else if 60 < s.size then 10 else if Lib.hasPrefix s.data.toList [47] = false then 10
  else if (partsOf s).all partOK then 0 else 10
theorem splitB_size (sep : ByteArray) (save : Nat) : ∀ (k : Nat) (s p : ByteArray), p ∈ Lib.splitB sep save k s → p.size ≤ s.size
  | 0, s, p, h => by simp [Lib.splitB] at h; subst h; exact Nat.le_refl _
  | k + 1, s, p, h => by
    unfold Lib.splitB at h
    split at h
    · simp at h; subst h; exact Nat.le_refl _
    · rcases List.mem_cons.1 h with rfl | h
      · simp [ByteArray.size_extract]; omega
      · have := splitB_size sep save k _ p h
        simp [ByteArray.size_extract] at this; omega
theorem lastIndexByte_range (s : ByteArray) (c : Int) : -1 ≤ Lib.lastIndexByte s c ∧ Lib.lastIndexByte s c < s.size := by
  unfold Lib.lastIndexByte
  rcases Lib.lastIdx_spec s c s.size with ⟨h, _⟩ | ⟨i, hi, h, _⟩ <;> rw [h] <;> constructor <;> omega
structure GoodR (R : World) : Prop where
  maxLen : ∃ m, R.cell? ⟨0, 0, none⟩ = some (.int .i64 m)
  maxLt : 0 < R.heap.size
  pow10 : Lib.TabIs Tryz.prog R "internal/strconv.uint64pow10" .u64 Lib.pow10Tab
theorem var_kept {P : Program} {B : Nat} {R w : World} (h : Below R.heap.size R w) {n : String} {cs : Array Value} (hv : R.var? P n = some cs) : w.var? P n = some cs := by
  unfold World.var? at hv ⊢
  cases hg : P.globalNamed n with
  | none => simp [hg] at hv
  | some g =>
    simp only [hg, Option.bind_some] at hv ⊢
    have hlt : g < R.heap.size := by
      rcases Nat.lt_or_ge g R.heap.size with h' | h'
      · exact h'
      · simp [Array.getElem?_eq_none h'] at hv
    rw [h.block g hlt]
    exact hv
theorem below_grown (w : World) (k : Nat) (os : Array Obj) : Below w.heap.size w (Sort.grow (w.drewN k) os) :=
  ⟨rfl, rfl, rfl, by simp [Sort.grow, World.drewN], fun i hi => by simp [Sort.grow, World.drewN, Array.getElem?_append, hi]⟩
def pathSerial (s : ByteArray) (n : Int) : ByteArray :=
  s ++ ⟨(Lib.repeatL [48] (10 - (Lib.itoa (max n 0)).length)).toArray⟩ ++ ⟨(Lib.itoa (max n 0)).toArray⟩
end Go.Orch
namespace Go.Proofs.YtpeflgfldbjflaaGreatDoor
open Go.RowKit Go.Orch
theorem calls_symm {P : Program} {f : FuncId} {args : Array Value} {w : World} {v : Value} (h : Calls P f args w fun e w' => e = .returned v ∧ w' = w) : Calls P f args w fun e w' => e = .returned v ∧ w = w' := h.mono fun _ _ h => ⟨h.1, h.2.symm⟩
set_option maxRecDepth 100000 in
set_option maxHeartbeats 1000000 in
theorem part_any (R w : World) (l : List HP) (s : ByteArray) (hs : s.size ≤ 1000) (H : Sep R w l) :
    Calls Tryz.prog 56 #[.string s] w fun e w' => e = .returned (.bool (partOK s)) ∧ Sep R w' l := by
  by_cases h0 : 0 < s.size
  case neg =>
    have hz : s.data.toList = [] := List.eq_nil_of_length_eq_zero (Eq.trans (by simp) (show s.size = 0 by omega))
    obtain ⟨h1, h2, h3⟩ := str_nil hz
    have hp : partOK s = false := by unfold partOK; rw [decide_eq_false h0]; rfl
    rw [hp]
    have H1 := Lib.hid H
    clear hz hp H h0
    go_enter Tryz.func56, Tryz.ntmps56
    go_wp2
    go_ret
    exact ⟨rfl, H1.out⟩
  obtain ⟨h1, h2, h3⟩ := str_ne (str_pos h0)
  by_cases h20 : s.size ≤ 20
  case neg =>
    have hp : partOK s = false := by unfold partOK; rw [decide_eq_false h20]; simp
    rw [hp]
    have H1 := Lib.hid H
    clear hp H
    go_enter Tryz.func56, Tryz.ntmps56
    go_wp2
    go_ret
    exact ⟨rfl, H1.out⟩
  have hp : partOK s = s.data.toList.all okByte := by unfold partOK; rw [decide_eq_true h0, decide_eq_true h20]; simp
  rw [hp]
  obtain ⟨pr, hpr⟩ : ∃ pr, pr = s.data.toList.all okByte := ⟨_, rfl⟩
  rw [← hpr]
  have HPR := Lib.hid hpr
  clear hpr
  obtain ⟨w2, nb, cap, kc, hcell, H4⟩ := conv_bytes (P := Tryz.prog) 9 121 5 s Tryz.underlying9 Tryz.underlying121 Tryz.underlying5 H
  have H3 := Lib.hid H4
  have HC := Lib.hid hcell
  clear H H4 hcell hp
  go_enter Tryz.func56, Tryz.ntmps56
  go_wp2_with fail
  clear kc
  go_loop [15] (fun i => ∃ k : Nat, k ≤ s.size ∧ i = .int .i64 k ∧ (s.data.toList.take k).all okByte = true) (fun i => s.size - (intOf i).toNat)
  case atStart => exact ⟨0, Nat.zero_le _, rfl, rfl⟩
  case round =>
    obtain ⟨k, hk, rfl, hall⟩ := hrel
    have HA := Lib.hid hall; clear hall
    by_cases hlt : k < s.size
    · have hc := HC.out k hlt
      have hlt' : k < s.data.toList.length := by simpa using hlt
      have hx : s.data.toList.getD k 0 = s.data.toList[k] := by simp [List.getD, hlt]
      rw [hx] at hc
      have hnx : (s.data.toList.take (k + 1)).all okByte = okByte s.data.toList[k] := by
        rw [take_snoc _ _ hlt', List.all_append, HA.out]; simp
      have hmem : s.data.toList.all okByte = true → okByte s.data.toList[k] = true := fun h => List.all_eq_true.1 h _ (List.getElem_mem hlt')
      have HN := Lib.hid hnx
      have HM := Lib.hid hmem
      clear hnx hmem hx
      have hlt256 := (s.data.toList[k]).toNat_lt
      generalize hcc : s.data.toList[k] = c at *
      clear hcc
      by_cases hok : okByte c = true
      · have hcase : (97 ≤ c.toNat ∧ c.toNat ≤ 122) ∨ (48 ≤ c.toNat ∧ c.toNat ≤ 57) ∨ c.toNat = 45 := by
          unfold okByte at hok; simp at hok; omega
        have HO := Lib.hid hok; clear hok
        generalize hn : c.toNat = n at *
        clear hn
        rcases hcase with ⟨ha, hb⟩ | ⟨ha, hb⟩ | rfl
        all_goals
          go_wp2_with fail
          go_round
          case rel => exact ⟨k + 1, by omega, by go_num, by rw [HN.out]; exact HO.out⟩
          case measure => simp [intOf]; omega
      · have hcase : c.toNat < 45 ∨ (45 < c.toNat ∧ c.toNat < 48) ∨ (57 < c.toNat ∧ c.toNat < 97) ∨ 122 < c.toNat := by
          unfold okByte at hok; simp at hok; omega
        have hf : s.data.toList.all okByte = false := by
          cases h : s.data.toList.all okByte with
          | false => rfl
          | true => exact absurd (HM.out h) hok
        have HF := Lib.hid hf
        clear hf hok
        generalize hn : c.toNat = n at *
        clear hn
        rcases hcase with ha | ⟨ha, hb⟩ | ⟨ha, hb⟩ | ha
        · have hne : ((n : Int) == 45) = false := by simp; omega
          have hne' : ((n : Int) != 45) = true := by simp; omega
          go_wp2_with fail
          go_ret
          exact ⟨by rw [HPR.out, HF.out]; rfl, H3.out⟩
        · have hne : ((n : Int) == 45) = false := by simp; omega
          have hne' : ((n : Int) != 45) = true := by simp; omega
          go_wp2_with fail
          go_ret
          exact ⟨by rw [HPR.out, HF.out]; rfl, H3.out⟩
        · have hne : ((n : Int) == 45) = false := by simp; omega
          have hne' : ((n : Int) != 45) = true := by simp; omega
          go_wp2_with fail
          go_ret
          exact ⟨by rw [HPR.out, HF.out]; rfl, H3.out⟩
        · have hne : ((n : Int) == 45) = false := by simp; omega
          have hne' : ((n : Int) != 45) = true := by simp; omega
          go_wp2_with fail
          go_ret
          exact ⟨by rw [HPR.out, HF.out]; rfl, H3.out⟩
    · have hk' : k = s.size := by omega
      subst hk'
      have ht : s.data.toList.all okByte = true := by have := HA.out; rwa [List.take_of_length_le (by simp)] at this
      have HT := Lib.hid ht; clear ht
      go_wp2_with fail
      go_ret
      exact ⟨by rw [HPR.out, HT.out]; rfl, H3.out⟩
theorem slash_eq : (⟨#[47]⟩ : ByteArray) = slash := rfl
set_option maxRecDepth 100000 in
set_option maxHeartbeats 1000000 in
theorem check_any (R w : World) (l : List HP) (G : GoodR R) (s : ByteArray) (hs : s.size ≤ 9000000000000000000) (H : Sep R w l) :
    Calls Tryz.prog 27 #[.string s] w fun e w' => e = .returned (.int .i64 (pathCheck s)) ∧ Sep R w' l := by
  unfold pathCheck
  by_cases h0 : s.data.toList = [47]
  · rw [if_pos h0]
    have h1 : (s.toList == [47]) = true := by rw [ByteArray.toList_eq, h0]; rfl
    have h1' : s.toList = [47] := by rw [ByteArray.toList_eq, h0]
    have H1 := Lib.hid H
    clear H h0
    go_enter Tryz.func27, Tryz.ntmps27
    go_wp2
    go_ret
    exact ⟨rfl, H1.out⟩
  have h1 : (s.toList == [47]) = false := by rw [ByteArray.toList_eq]; simpa using h0
  have h1' : ¬ s.toList = [47] := by rw [ByteArray.toList_eq]; exact h0
  rw [if_neg h0]
  clear h0
  by_cases h2 : 60 < s.size
  · rw [if_pos h2]
    have H1 := Lib.hid H
    clear H
    go_enter Tryz.func27, Tryz.ntmps27
    go_wp2
    go_ret
    exact ⟨rfl, H1.out⟩
  rw [if_neg h2]
  have HP := Lib.hid (fun w => calls_symm (Tryz.strings_HasPrefix s ⟨#[47]⟩ w))
  rw [show (⟨#[47]⟩ : ByteArray).data.toList = [47] from rfl] at HP
  cases hpre : Lib.hasPrefix s.data.toList [47] with
  | false =>
    rw [hpre] at HP
    rw [if_pos rfl]
    have H1 := Lib.hid H
    clear H hpre
    go_enter Tryz.func27, Tryz.ntmps27
    go_wp2_with fail
    refine (HP.out _).mono ?_
    rintro e w' ⟨rfl, rfl⟩
    go_wp2
    go_ret
    exact ⟨rfl, H1.out⟩
  | true =>
    rw [hpre] at HP
    rw [if_neg (by simp)]
    have hpos : 1 ≤ s.size := by
      rcases Nat.eq_zero_or_pos s.size with hz | hz
      · have : s.data.toList = [] := List.eq_nil_of_length_eq_zero (Eq.trans (by simp) hz)
        rw [this] at hpre; simp [Lib.hasPrefix] at hpre
      · exact hz
    obtain ⟨m, hm⟩ := G.maxLen
    have hm' : w.cell? ⟨0, 0, none⟩ = some (.int .i64 m) := (H.below.cell G.maxLt).trans hm
    have hlen : (partsOf s).length = Lib.countB (s.extract 1 s.size) slash + 1 := Lib.splitB_all slash (by decide) 0 _ _ rfl
    have hsz : ∀ p ∈ partsOf s, p.size ≤ 1000 := fun p hp => by
      have := splitB_size slash 0 (Lib.countB (s.extract 1 s.size) slash) (s.extract 1 s.size) p hp
      have h3 : (s.extract 1 s.size).size ≤ 60 := by simp [ByteArray.size_extract]; omega
      omega
    have hcnt : Lib.countB (s.extract 1 s.size) slash ≤ 60 := by
      have := Lib.countB_le slash (by decide) (s.extract 1 s.size).size (s.extract 1 s.size) (Nat.le_refl _)
      have h3 : (s.extract 1 s.size).size ≤ 60 := by simp [ByteArray.size_extract]; omega
      omega
    have HS := Lib.hid (Tryz.strings_Split (s.extract 1 s.size) slash m w (by simp [ByteArray.size_extract]; omega) hm' (by decide))
    rw [show Lib.splitB slash 0 (Lib.countB (s.extract 1 s.size) slash) (s.extract 1 s.size) = partsOf s from rfl] at HS
    have HM := Lib.hid H
    obtain ⟨pr, hpr⟩ : ∃ pr : Int, pr = if (partsOf s).all partOK then 0 else 10 := ⟨_, rfl⟩
    rw [← hpr]
    generalize partsOf s = ps at *
    generalize Lib.countB (s.extract 1 s.size) slash = c at *
    have HPR := Lib.hid hpr
    have HL := Lib.hid hlen
    have HZ := Lib.hid hsz
    clear H hpre hpr hlen hsz hm hm'
    go_enter Tryz.func27, Tryz.ntmps27
    go_wp2_with fail
    refine (HP.out _).mono ?_
    rintro e w' ⟨rfl, rfl⟩
    go_wp2_with fail
    refine Calls.mono HS.out ?_
    rintro e w1 ⟨rfl, hw⟩
    have H2 : Sep R w1 (cellsAt w.heap.size (ps.map Value.string).toArray :: l) := by rw [hw]; exact HM.out.mkc (ps.map Value.string).toArray 9
    clear hw
    generalize w.heap.size = nb at *
    have H3 := Lib.hid H2
    clear H2
    go_wp2_with fail
    go_loopw [21] (fun i wr => ∃ k : Nat, k ≤ ps.length ∧ i = .int .i64 k ∧ (ps.take k).all partOK = true ∧ Sep R wr (cellsAt nb (ps.map Value.string).toArray :: l)) (fun i _ => ps.length - (intOf i).toNat)
    case atStart => exact ⟨0, Nat.zero_le _, rfl, rfl, H3.out⟩
    case round =>
      obtain ⟨k, hk, rfl, hall, H4⟩ := hrel
      have HA := Lib.hid hall; clear hall
      have hll := HL.out
      by_cases hlt : k < ps.length
      · have hc : wr.cell? ⟨nb, k, none⟩ = some (.string ps[k]) := H4.c k (by simp [hlt])
        have hpz := HZ.out ps[k] (List.getElem_mem hlt)
        have hnx : (ps.take (k + 1)).all partOK = partOK ps[k] := by
          rw [List.take_succ_eq_append_getElem hlt, List.all_append, HA.out]; simp
        have hmem : ps.all partOK = true → partOK ps[k] = true := fun h => List.all_eq_true.1 h _ (List.getElem_mem hlt)
        have HN := Lib.hid hnx
        have HM := Lib.hid hmem
        clear hnx hmem
        generalize ps[k] = p at *
        have HC := Lib.hid (part_any R wr _ p hpz H4)
        clear H4 hll
        have hkc : k < c + 1 := by have := HL.out; omega
        cases hok : partOK p with
        | true =>
          rw [hok] at HC
          have HO := Lib.hid hok; clear hok
          go_wp2_with fail
          refine Calls.mono HC.out ?_
          rintro e w2 ⟨rfl, H5⟩
          have H6 := Lib.hid H5; clear H5
          go_wp2_with fail
          go_roundw
          case rel => exact ⟨k + 1, by omega, by go_num, by rw [HN.out]; exact HO.out, H6.out⟩
          case measure => simp [intOf]; omega
        | false =>
          rw [hok] at HC
          have hf : pr = 10 := by
            rw [HPR.out]
            cases h : ps.all partOK with
            | false => rfl
            | true => rw [HM.out h] at hok; cases hok
          have HF := Lib.hid hf
          clear hf hok
          go_wp2_with fail
          refine Calls.mono HC.out ?_
          rintro e w2 ⟨rfl, H5⟩
          have H6 := Lib.hid H5; clear H5
          go_wp2_with fail
          go_ret
          exact ⟨by rw [HF.out]; rfl, H6.out.drop⟩
      · have hk' : k = ps.length := by omega
        have hkc : ¬ k < c + 1 := by omega
        have ht : pr = 0 := by have := HA.out; rw [List.take_of_length_le (by omega)] at this; rw [HPR.out, this]; rfl
        have HT := Lib.hid ht
        have H5 := Lib.hid H4
        clear ht hll hk' H4 hlt
        go_wp2_with fail
        go_ret
        exact ⟨by rw [HT.out]; rfl, H5.out.drop⟩
def pathUp (s : ByteArray) : ByteArray × ByteArray :=
  if s.data.toList = [47] then (⟨#[]⟩, ⟨#[]⟩) else if Lib.lastIndexByte s 47 < 0 then (⟨#[]⟩, ⟨#[]⟩)
  else if Lib.lastIndexByte s 47 = 0 then (slash, s.extract 1 s.size)
  else (s.extract 0 (Lib.lastIndexByte s 47).toNat, s.extract ((Lib.lastIndexByte s 47).toNat + 1) s.size)
set_option maxRecDepth 100000 in
set_option maxHeartbeats 1000000 in
theorem up_any (R w : World) (l : List HP) (s : ByteArray) (hs : s.size ≤ 1000000000) (H : Sep R w l) :
    Calls Tryz.prog 28 #[.string s] w fun e w' => e = .returned (.tuple #[.string (pathUp s).1, .string (pathUp s).2]) ∧ Sep R w' l := by
  unfold pathUp
  have HL := Lib.hid (fun w => calls_symm (Tryz.strings_LastIndexByte s 47 (by omega) w))
  obtain ⟨hlo, hhi⟩ := lastIndexByte_range s 47
  generalize Lib.lastIndexByte s 47 = i at *
  have H1 := Lib.hid H
  clear H
  by_cases h0 : s.data.toList = [47]
  · rw [if_pos h0]
    have h1 : (s.toList == [47]) = true := by rw [ByteArray.toList_eq, h0]; rfl
    have h1' : s.toList = [47] := by rw [ByteArray.toList_eq, h0]
    clear h0
    go_enter Tryz.func28, Tryz.ntmps28
    go_wp2_with fail
    refine (HL.out _).mono ?_
    rintro e w' ⟨rfl, rfl⟩
    go_wp2
    go_ret2
    exact ⟨rfl, H1.out⟩
  have h1 : (s.toList == [47]) = false := by rw [ByteArray.toList_eq]; simpa using h0
  have h1' : ¬ s.toList = [47] := by rw [ByteArray.toList_eq]; exact h0
  rw [if_neg h0]
  clear h0
  by_cases h2 : i < 0
  · rw [if_pos h2]
    go_enter Tryz.func28, Tryz.ntmps28
    go_wp2_with fail
    refine (HL.out _).mono ?_
    rintro e w' ⟨rfl, rfl⟩
    go_wp2
    go_ret2
    exact ⟨rfl, H1.out⟩
  rw [if_neg h2]
  by_cases h3 : i = 0
  · subst h3
    rw [if_pos rfl]
    have hz : 1 ≤ s.size := by omega
    go_enter Tryz.func28, Tryz.ntmps28
    go_wp2_with fail
    refine (HL.out _).mono ?_
    rintro e w' ⟨rfl, rfl⟩
    go_wp2
    go_quiet (fail)
    go_wp2
    go_ret2
    exact ⟨rfl, H1.out.drewN _⟩
  · rw [if_neg h3]
    have h4 : (i == 0) = false := by simpa using h3
    obtain ⟨n, rfl⟩ := Int.eq_ofNat_of_zero_le (show 0 ≤ i by omega)
    have hn : n < s.size := by omega
    have hsum : IntKind.i64.wrap ((n : Int) + 1) = (n : Int) + 1 := IntWalk.i64_in _ (by omega)
    go_enter Tryz.func28, Tryz.ntmps28
    go_wp2_with fail
    refine (HL.out _).mono ?_
    rintro e w' ⟨rfl, rfl⟩
    go_wp2
    go_quiet (fail)
    go_wp2
    go_ret2
    exact ⟨rfl, H1.out.drewN _⟩
set_option maxRecDepth 100000 in
set_option maxHeartbeats 1000000 in
theorem serial_any (R w : World) (l : List HP) (G : GoodR R) (s : ByteArray) (n : Int) (hs : s.size ≤ 1000000000) (hn : n ≤ 9223372036854775807) (H : Sep R w l) :
    Calls Tryz.prog 162 #[.string s, .int .i64 n] w fun e w' => e = .returned (.string (pathSerial s n)) ∧ Sep R w' l := by
  unfold pathSerial
  have hmx : (if n < 0 then 0 else n) = max n 0 := by omega
  have hm0 : 0 ≤ max n 0 := by omega
  have hm1 : max n 0 ≤ 9223372036854775807 := by omega
  obtain ⟨x, hxm⟩ : ∃ x, max n 0 = x := ⟨_, rfl⟩
  rw [hxm] at hmx hm0 hm1 ⊢
  have HI := Lib.hid (Tryz.strconv_Itoa x (by omega) hm1 w (var_kept (B := 0) H.below G.pow10))
  have hlen := Lib.itoa_length_le x (by omega) hm1
  have H1 := Lib.hid H
  generalize Lib.itoa x = d at *
  obtain ⟨c, hc, hc0⟩ : ∃ c : Nat, c = 10 - d.length ∧ c ≤ 10 := ⟨_, rfl, by omega⟩
  rw [← hc]
  have hsz : (⟨d.toArray⟩ : ByteArray).size = d.length := by simp [ByteArray.size]
  have hmx2 : (if (10 : Int) - (d.length : Int) < 0 then 0 else (10 : Int) - (d.length : Int)) = (c : Int) := by omega
  have hmx3 : max (0 : Int) ((10 : Int) - (d.length : Int)) = (c : Int) := by omega
  have HR := Lib.hid (fun w => Tryz.strings_Repeat ⟨#[48]⟩ c w (by omega) (by show 1 * c ≤ _; omega))
  rw [show (⟨#[48]⟩ : ByteArray).data.toList = [48] from rfl] at HR
  have HC := Lib.hid hc
  have hrl : (Lib.repeatL [48] c).length ≤ 10 := by rw [Lib.repeatL_length]; simp; omega
  clear H G hc
  go_enter Tryz.func162, Tryz.ntmps162
  go_wp2_with fail
  refine Calls.mono HI.out ?_
  rintro e w1 ⟨rfl, k, os, hw⟩
  have H2 : Sep R w1 l := by rw [hw]; exact H1.out.kept (below_grown w k os)
  have H3 := Lib.hid H2
  clear H2 hw
  go_wp2_with fail
  refine Calls.mono (HR.out w1) ?_
  rintro e w2 ⟨rfl, hb⟩
  have H4 := Lib.hid (H3.out.kept hb)
  clear hb
  go_wp2
  go_ret
  exact ⟨rfl, H4.out⟩
end Go.Proofs.YtpeflgfldbjflaaGreatDoor
end
