/- WHAT IS PROVED HERE: Package watch: its values; IndexFunc over watches and events, with a function that has a state. -/
import Derived.Test.YtpeflgfldbjflaaGreatDoorG06
import Derived.Test.YtpeflgfldbjflaaGreatDoorG15
import Derived.Shelf.AbstractIn
import Derived.Shelf.Abstract
set_option linter.unusedVariables false
set_option linter.unusedSimpArgs false
set_option linter.unusedSectionVars false
set_option linter.unnecessarySimpa false
section
namespace Go.Orch
open Go.RowKit
structure WatchV where
  session : Int
  path : ByteArray
  kids : Bool
  once : Bool
deriving DecidableEq
structure EventV where
  session : Int
  no : Int
  path : ByteArray
  what : Int
  when : Int
deriving DecidableEq
def watchC (x : WatchV) : List Value := [.int .i64 x.session, .string x.path, .bool x.kids, .bool x.once]
def eventC (x : EventV) : List Value := [.int .i64 x.session, .int .i64 x.no, .string x.path, .int .i64 x.what, .int .i64 x.when]
theorem Sep.elemW {R w : World} {l : List HP} {b : Nat} {pre post : List Value} {ys : List WatchV} (H : Sep R w (rowE b pre watchC ys post :: l)) (j : Nat) (hj : j < ys.length) :
    w.cell? ⟨b, pre.length + j * 4, none⟩ = some (.int .i64 ys[j].session) ∧ w.cell? ⟨b, pre.length + j * 4 + 1, none⟩ = some (.string ys[j].path) ∧ w.cell? ⟨b, pre.length + j * 4 + 2, none⟩ = some (.bool ys[j].kids) ∧ w.cell? ⟨b, pre.length + j * 4 + 3, none⟩ = some (.bool ys[j].once) :=
  ⟨H.elem (sz := 4) (fun _ => rfl) j hj 0 rfl, H.elem (sz := 4) (fun _ => rfl) j hj 1 rfl, H.elem (sz := 4) (fun _ => rfl) j hj 2 rfl, H.elem (sz := 4) (fun _ => rfl) j hj 3 rfl⟩
theorem Sep.elemV {R w : World} {l : List HP} {b : Nat} {pre post : List Value} {ys : List EventV} (H : Sep R w (rowE b pre eventC ys post :: l)) (j : Nat) (hj : j < ys.length) :
    w.cell? ⟨b, pre.length + j * 5, none⟩ = some (.int .i64 ys[j].session) ∧ w.cell? ⟨b, pre.length + j * 5 + 1, none⟩ = some (.int .i64 ys[j].no) ∧ w.cell? ⟨b, pre.length + j * 5 + 2, none⟩ = some (.string ys[j].path) ∧ w.cell? ⟨b, pre.length + j * 5 + 3, none⟩ = some (.int .i64 ys[j].what) ∧ w.cell? ⟨b, pre.length + j * 5 + 4, none⟩ = some (.int .i64 ys[j].when) :=
  ⟨H.elem (sz := 5) (fun _ => rfl) j hj 0 rfl, H.elem (sz := 5) (fun _ => rfl) j hj 1 rfl, H.elem (sz := 5) (fun _ => rfl) j hj 2 rfl, H.elem (sz := 5) (fun _ => rfl) j hj 3 rfl, H.elem (sz := 5) (fun _ => rfl) j hj 4 rfl⟩
end Go.Orch
namespace Go.Proofs.YtpeflgfldbjflaaGreatDoor
open Go.RowKit Go.Orch Go.Shelf
set_option maxRecDepth 100000 in
set_option maxHeartbeats 1000000000 in
theorem idxW_any {σ : Type} (R : World) (l : List HP) (I : σ → HP) (K : σ → Nat → Prop) (g : Nat) (lb : Array Value) (p : WatchV → σ → Bool × σ) (eg : ∀ args w, (callFunc g args).run Tryz.prog w = .ok (.enter g args) w)
    (ys : List WatchV) (hp : ∀ x ∈ ys, ∀ s n w l', K s (n + 1) → Sep R w (I s :: l') → Calls Tryz.prog g (#[.agg (watchC x).toArray] ++ lb) w fun e w' => e = .returned (.bool (p x s).1) ∧ Sep R w' (I (p x s).2 :: l') ∧ K (p x s).2 n)
    (w : World) (b cap : Nat) (pre post : List Value) (s : σ) (hn : ys.length ≤ 1000000000) (hK : K s ys.length) (H : Sep R w (rowE b pre watchC ys post :: I s :: l)) :
    Calls Tryz.prog 143 #[.slice (some ⟨b, pre.length, none⟩) ys.length cap, .func (.func g) #[] lb] w fun e w' =>
      ∃ s', Sep R w' (rowE b pre watchC ys post :: I s' :: l) ∧ ((e = .returned (.int .i64 (-1)) ∧ delF p ys s = (ys, s')) ∨ (∃ j : Nat, j < ys.length ∧ e = .returned (.int .i64 j) ∧ delF p (ys.take (j + 1)) s = (ys.take j, s') ∧ K s' (ys.length - (j + 1)))) := by
  have H1 := Lib.hid H
  have HP := Lib.hid hp
  have HK := Lib.hid hK
  clear H hp hK
  go_enter Tryz.func143, Tryz.ntmps143
  go_wp2_with fail
  go_loopw [8] (fun i wr => ∃ (k : Nat) (t : σ), k ≤ ys.length ∧ i = .int .i64 k ∧ delF p (ys.take k) s = (ys.take k, t) ∧ K t (ys.length - k) ∧ Sep R wr (rowE b pre watchC ys post :: I t :: l)) (fun i _ => ys.length - (intOf i).toNat)
  case atStart => exact ⟨0, s, Nat.zero_le _, rfl, rfl, HK.out, H1.out⟩
  case round =>
    obtain ⟨k, t, hk, rfl, hd, hkt, H2⟩ := hrel
    have HD := Lib.hid hd
    have HKT := Lib.hid hkt
    clear hd hkt
    by_cases hlt : k < ys.length
    · obtain ⟨c0, c1, c2, c3⟩ := H2.elemW k hlt
      have hc := HP.out ys[k] (List.getElem_mem hlt) t (ys.length - (k + 1)) wr (rowE b pre watchC ys post :: l) (by rw [show ys.length - (k + 1) + 1 = ys.length - k by omega]; exact HKT.out) H2.swap
      have HD2 := Lib.hid (delF_take p ys s k hlt)
      have H3 := Lib.hid H2
      clear H2
      obtain ⟨wo, rfl⟩ : ∃ wo : World, wo = wr := ⟨_, rfl⟩
      generalize hx : ys[k] = x at *
      have HX := Lib.hid hx
      clear hx
      have HC := Lib.hid hc
      clear hc
      obtain ⟨r, hr⟩ : ∃ r, r = p x t := ⟨_, rfl⟩
      rw [← hr] at HC
      have HR := Lib.hid hr
      clear hr
      obtain ⟨rb, rs⟩ := r
      have hlti : (k : Int) < (ys.length : Int) := by omega
      cases rb with
      | true =>
        go_wp2_with (go_at_fn g; refine Calls.mono HC.out ?_; rintro e w1 ⟨rfl, H4, hK4⟩)
        go_ret
        refine ⟨rs, H4.swap, .inr ⟨k, hlt, rfl, ?_, hK4⟩⟩
        rw [HD2.out, HD.out]
        simp [delStep, ← HR.out]
      | false =>
        go_wp2_with (go_at_fn g; refine Calls.mono HC.out ?_; rintro e w1 ⟨rfl, H4, hK4⟩)
        go_roundw
        case rel =>
          refine ⟨k + 1, rs, hlt, by go_num, ?_, hK4, H4.swap⟩
          rw [HD2.out, HD.out, List.take_succ_eq_append_getElem hlt, HX.out]
          unfold delStep
          simp only
          rw [← HR.out]
          simp
        case measure => simp [intOf]; omega
    · obtain rfl : k = ys.length := by omega
      have hlti : ¬ (ys.length : Int) < (ys.length : Int) := by omega
      have H3 := Lib.hid H2
      clear H2
      go_wp2
      go_ret
      refine ⟨t, H3.out, .inl ⟨rfl, ?_⟩⟩
      have := HD.out
      rwa [List.take_length] at this
theorem idxW_nil (p : Option Addr) (c : Nat) (fv : Value) (w : World) :
    Calls Tryz.prog 143 #[.slice p 0 c, fv] w fun e w' => e = .returned (.int .i64 (-1)) ∧ w' = w := by
  go_enter Tryz.func143, Tryz.ntmps143
  go_wp2_with fail
  refine wp_loop_rounds 1 ?_
  rw [rounds_succ]
  go_wp2
  go_ret
  exact ⟨rfl, rfl⟩
theorem delW_nil (p : Option Addr) (c : Nat) (fv : Value) (w : World) :
    Calls Tryz.prog 124 #[.slice p 0 c, fv] w fun e w' => e = .returned (.slice p 0 c) ∧ w' = w := by
  have h := Lib.hid (idxW_nil p c fv w)
  go_enter Tryz.func124, Tryz.ntmps124
  go_wp2_with fail
  refine h.out.mono ?_
  rintro e w1 ⟨rfl, rfl⟩
  go_wp2
  go_ret
  exact ⟨rfl, rfl⟩
theorem zeroW (w : World) : (zeroValue 144).run Tryz.prog w = .ok (.agg #[.int .i64 0, .string ⟨#[]⟩, .bool false, .bool false]) w := by kernel_rfl
set_option maxRecDepth 100000 in
set_option maxHeartbeats 2000000 in
theorem delW_row {σ : Type} (R : World) (l : List HP) (I : σ → HP) (K : σ → Nat → Prop) (g : Nat) (lb : Array Value) (p : WatchV → σ → Bool × σ) (eg : ∀ args w, (callFunc g args).run Tryz.prog w = .ok (.enter g args) w)
    (ys : List WatchV) (hp : ∀ x ∈ ys, ∀ s n w l', K s (n + 1) → Sep R w (I s :: l') → Calls Tryz.prog g (#[.agg (watchC x).toArray] ++ lb) w fun e w' => e = .returned (.bool (p x s).1) ∧ Sep R w' (I (p x s).2 :: l') ∧ K (p x s).2 n)
    (w : World) (b cap : Nat) (pre post : List Value) (s : σ) (hn : ys.length ≤ 1000000000) (hcap : ys.length ≤ cap) (hK : K s ys.length) (H : Sep R w (rowE b pre watchC ys post :: I s :: l)) :
    Calls Tryz.prog 124 #[.slice (some ⟨b, pre.length, none⟩) ys.length cap, .func (.func g) #[] lb] w fun e w' =>
      ∃ post', e = .returned (.slice (some ⟨b, pre.length, none⟩) (delF p ys s).1.length cap) ∧ post'.length = (ys.length - (delF p ys s).1.length) * 4 + post.length ∧ Sep R w' (rowE b pre watchC (delF p ys s).1 post' :: I (delF p ys s).2 :: l) := by
  have hix := Lib.hid (idxW_any R l I K g lb p eg ys hp w b cap pre post s hn hK H)
  have HP := Lib.hid hp
  clear H hp hK
  go_enter Tryz.func124, Tryz.ntmps124
  go_wp2_with fail
  refine Calls.mono hix.out ?_
  rintro e w1 ⟨s1, H1, ⟨rfl, hd⟩ | ⟨j, hj, rfl, hd, hK1⟩⟩
  · have HD := Lib.hid hd
    have H2 := Lib.hid H1
    clear hd H1
    go_wp2
    go_ret
    rw [HD.out]
    exact ⟨post, rfl, by simp, H2.out⟩
  · have HD := Lib.hid hd
    have H2 := Lib.hid H1
    have HK1 := Lib.hid hK1
    clear hd H1 hK1
    have hne1 : ((j : Int) == -1) = false := beq_eq_false_iff_ne.2 (by omega)
    have hne2 : ((j : Int) = -1) = False := by simp
    go_wp2_with fail
    go_loopw [5, 6, 7] (fun i jj _ wr => ∃ (m k : Nat) (zs : List WatchV) (t : σ), i = .int .i64 m ∧ jj = .int .i64 k ∧ m < k ∧ k ≤ ys.length ∧ zs.length = ys.length ∧ zs.drop k = ys.drop k ∧ delF p (ys.take k) s = (zs.take m, t) ∧ K t (ys.length - k) ∧ Sep R wr (rowE b pre watchC zs post :: I t :: l)) (fun _ jj _ _ => ys.length - (intOf jj).toNat)
    case atStart => exact ⟨j, j + 1, ys, s1, rfl, by go_num, by omega, hj, rfl, rfl, HD.out, HK1.out, H2.out⟩
    case round =>
      obtain ⟨m, k, zs, t, rfl, rfl, hmk, hk, hzl, hdr, hd, hkt, H3⟩ := hrel
      have HD := Lib.hid hd
      have HKT := Lib.hid hkt
      have HDR := Lib.hid hdr
      have HZL := Lib.hid hzl
      have H4 := Lib.hid H3
      clear hd hkt hdr hzl H3
      by_cases hlt : k < ys.length
      · have hkz : k < zs.length := by rw [HZL.out]; exact hlt
        have hmz : m < zs.length := by omega
        have hxe : zs[k] = ys[k] := by
          have h1 := congrArg (fun l : List WatchV => l[0]?) HDR.out
          simpa [hlt, hkz] using h1
        obtain ⟨c0, c1, c2, c3⟩ := H4.out.elemW k hkz
        obtain ⟨wo, rfl⟩ : ∃ wo : World, wo = wr := ⟨_, rfl⟩
        have hmem : ys[k] ∈ ys := List.getElem_mem hlt
        have HD2 := Lib.hid (delF_take p ys s k hlt)
        have hn1 : ∀ h : k < zs.length, zs[k]'h = ys[k] := fun _ => hxe
        have HN := Lib.hid hn1
        rw [hxe] at c0 c1 c2 c3
        clear hxe hn1
        generalize ys[k] = x at *
        have hc := fun w l' => HP.out x hmem t (ys.length - (k + 1)) w l' (by rw [show ys.length - (k + 1) + 1 = ys.length - k by omega]; exact HKT.out)
        have HC := Lib.hid hc
        clear hc hmem
        obtain ⟨r, hr⟩ : ∃ r, r = p x t := ⟨_, rfl⟩
        rw [← hr] at HC
        have HR := Lib.hid hr
        clear hr
        obtain ⟨rb, rs⟩ := r
        have hlti : (k : Int) < (ys.length : Int) := by omega
        have hmi : (m : Int) < (ys.length : Int) := by omega
        have hdr2 : zs.drop (k + 1) = ys.drop (k + 1) := by have := congrArg (List.drop 1) HDR.out; simpa [List.drop_drop] using this
        have HDR2 := Lib.hid hdr2
        clear hdr2
        cases rb with
        | true =>
          go_wp2_with (go_at_fn g; refine Hid.out ?_)
          refine Lib.hid (Calls.mono (HC.out _ _ (H4.out.swap.mkc _ _).swap) ?_)
          rintro e w1 ⟨rfl, H5, hK5⟩
          have H6 := Lib.hid (H5.swap.drop.swap)
          have HK5 := Lib.hid hK5
          clear H5 hK5
          go_wp2_with fail
          go_roundw
          case rel =>
            refine ⟨m, k + 1, zs, rs, rfl, by go_num, by omega, hlt, HZL.out, HDR2.out, ?_, HK5.out, H6.out⟩
            rw [HD2.out, HD.out]
            unfold delStep
            simp only
            rw [← HR.out]
            rfl
          case measure => simp [intOf]; omega
        | false =>
          go_wp2_with (go_at_fn g; refine Hid.out ?_)
          refine Lib.hid (Calls.mono (HC.out _ _ (H4.out.swap.mkc _ _).swap) ?_)
          rintro e w1 ⟨rfl, H5, hK5⟩
          generalize wo.heap.size = nb at *
          obtain ⟨d0, d1, d2, d3, fz1, lt1⟩ := H5.swap.c4
          have H6 := H5.swap.drop.swap
          obtain ⟨e0, e1, e2, e3⟩ := H6.elemW m hmz
          have fz2 : ∀ i, w1.frozen? ⟨b, i, none⟩ = false := H6.fz
          have lt2 : b < w1.heap.size := H6.clt
          have H7 := Lib.hid (H6.setElem (sz := 4) (fun _ => rfl) m hmz x)
          have HK5 := Lib.hid hK5
          clear H5 hK5 H6
          generalize zs[m] = old at e0 e1 e2 e3
          go_wp2_with fail
          go_roundw
          case rel =>
            refine ⟨m + 1, k + 1, zs.set m x, rs, by go_num, by go_num, by omega, hlt, by simpa using HZL.out, ?_, ?_, HK5.out, H7.out⟩
            · rw [List.drop_set_of_lt (by omega)]; exact HDR2.out
            · rw [HD2.out, HD.out, List.take_succ_eq_append_getElem (by simpa using hmz), List.take_set_of_le (Nat.le_refl m), List.getElem_set_self]
              unfold delStep
              simp only
              rw [← HR.out]
              rfl
          case measure => simp [intOf]; omega
      · obtain rfl : k = ys.length := by omega
        have hlti : ¬ (ys.length : Int) < (ys.length : Int) := by omega
        have hmi : (m : Int) < (ys.length : Int) := by omega
        have hci : (ys.length : Int) ≤ (cap : Int) := by omega
        have fz2 : ∀ i, wr.frozen? ⟨b, i, none⟩ = false := H4.out.fz
        obtain ⟨vs, hvl, hcl⟩ := run_clear_k (P := Tryz.prog) wr 134 144 (.agg #[.int .i64 0, .string ⟨#[]⟩, .bool false, .bool false]) Tryz.underlying134 zeroW (by intro v hv; simp [Value.cells] at hv; rcases hv with rfl | rfl | rfl | rfl <;> rfl) b (pre.length + m * 4) (ys.length - m) (cap - m) (by omega) (by
          intro j hj
          refine H4.out.someCell (sz := 4) (fun _ => rfl) _ ?_
          rw [HZL.out]
          simp [Value.cells] at hj
          omega) (fun j => fz2 _)
        have hvl2 : vs.length = (zs.length - m) * 4 := by rw [HZL.out]; simpa [Value.cells] using hvl
        have H7 := Lib.hid (H4.out.tail (sz := 4) (fun _ => rfl) (by rw [HZL.out]; omega) hvl2)
        have HV := Lib.hid hvl2
        clear hvl hvl2
        obtain ⟨wo, rfl⟩ : ∃ wo : World, wo = wr := ⟨_, rfl⟩
        go_wp2
        go_ret
        have h1 := HD.out
        rw [List.take_length] at h1
        have h2 := HZL.out
        rw [h1]
        have hlen : (zs.take m).length = m := by rw [List.length_take, h2]; omega
        refine ⟨by simp only [hlen]; rfl, vs ++ post, by simp only [hlen, List.length_append, HV.out, h2], H7.out⟩
set_option maxRecDepth 100000 in
set_option maxHeartbeats 1000000000 in
theorem idxV_any {σ : Type} (R : World) (l : List HP) (I : σ → HP) (K : σ → Nat → Prop) (g : Nat) (lb : Array Value) (p : EventV → σ → Bool × σ) (eg : ∀ args w, (callFunc g args).run Tryz.prog w = .ok (.enter g args) w)
    (ys : List EventV) (hp : ∀ x ∈ ys, ∀ s n w l', K s (n + 1) → Sep R w (I s :: l') → Calls Tryz.prog g (#[.agg (eventC x).toArray] ++ lb) w fun e w' => e = .returned (.bool (p x s).1) ∧ Sep R w' (I (p x s).2 :: l') ∧ K (p x s).2 n)
    (w : World) (b cap : Nat) (pre post : List Value) (s : σ) (hn : ys.length ≤ 1000000000) (hK : K s ys.length) (H : Sep R w (rowE b pre eventC ys post :: I s :: l)) :
    Calls Tryz.prog 121 #[.slice (some ⟨b, pre.length, none⟩) ys.length cap, .func (.func g) #[] lb] w fun e w' =>
      ∃ s', Sep R w' (rowE b pre eventC ys post :: I s' :: l) ∧ ((e = .returned (.int .i64 (-1)) ∧ delF p ys s = (ys, s')) ∨ (∃ j : Nat, j < ys.length ∧ e = .returned (.int .i64 j) ∧ delF p (ys.take (j + 1)) s = (ys.take j, s') ∧ K s' (ys.length - (j + 1)))) := by
  have H1 := Lib.hid H
  have HP := Lib.hid hp
  have HK := Lib.hid hK
  clear H hp hK
  go_enter Tryz.func121, Tryz.ntmps121
  go_wp2_with fail
  go_loopw [8] (fun i wr => ∃ (k : Nat) (t : σ), k ≤ ys.length ∧ i = .int .i64 k ∧ delF p (ys.take k) s = (ys.take k, t) ∧ K t (ys.length - k) ∧ Sep R wr (rowE b pre eventC ys post :: I t :: l)) (fun i _ => ys.length - (intOf i).toNat)
  case atStart => exact ⟨0, s, Nat.zero_le _, rfl, rfl, HK.out, H1.out⟩
  case round =>
    obtain ⟨k, t, hk, rfl, hd, hkt, H2⟩ := hrel
    have HD := Lib.hid hd
    have HKT := Lib.hid hkt
    clear hd hkt
    by_cases hlt : k < ys.length
    · obtain ⟨c0, c1, c2, c3, c4⟩ := H2.elemV k hlt
      have hc := HP.out ys[k] (List.getElem_mem hlt) t (ys.length - (k + 1)) wr (rowE b pre eventC ys post :: l) (by rw [show ys.length - (k + 1) + 1 = ys.length - k by omega]; exact HKT.out) H2.swap
      have HD2 := Lib.hid (delF_take p ys s k hlt)
      have H3 := Lib.hid H2
      clear H2
      obtain ⟨wo, rfl⟩ : ∃ wo : World, wo = wr := ⟨_, rfl⟩
      generalize hx : ys[k] = x at *
      have HX := Lib.hid hx
      clear hx
      have HC := Lib.hid hc
      clear hc
      obtain ⟨r, hr⟩ : ∃ r, r = p x t := ⟨_, rfl⟩
      rw [← hr] at HC
      have HR := Lib.hid hr
      clear hr
      obtain ⟨rb, rs⟩ := r
      have hlti : (k : Int) < (ys.length : Int) := by omega
      cases rb with
      | true =>
        go_wp2_with (go_at_fn g; refine Calls.mono HC.out ?_; rintro e w1 ⟨rfl, H4, hK4⟩)
        go_ret
        refine ⟨rs, H4.swap, .inr ⟨k, hlt, rfl, ?_, hK4⟩⟩
        rw [HD2.out, HD.out]
        simp [delStep, ← HR.out]
      | false =>
        go_wp2_with (go_at_fn g; refine Calls.mono HC.out ?_; rintro e w1 ⟨rfl, H4, hK4⟩)
        go_roundw
        case rel =>
          refine ⟨k + 1, rs, hlt, by go_num, ?_, hK4, H4.swap⟩
          rw [HD2.out, HD.out, List.take_succ_eq_append_getElem hlt, HX.out]
          unfold delStep
          simp only
          rw [← HR.out]
          simp
        case measure => simp [intOf]; omega
    · obtain rfl : k = ys.length := by omega
      have hlti : ¬ (ys.length : Int) < (ys.length : Int) := by omega
      have H3 := Lib.hid H2
      clear H2
      go_wp2
      go_ret
      refine ⟨t, H3.out, .inl ⟨rfl, ?_⟩⟩
      have := HD.out
      rwa [List.take_length] at this
theorem idxV_nil (p : Option Addr) (c : Nat) (fv : Value) (w : World) :
    Calls Tryz.prog 121 #[.slice p 0 c, fv] w fun e w' => e = .returned (.int .i64 (-1)) ∧ w' = w := by
  go_enter Tryz.func121, Tryz.ntmps121
  go_wp2_with fail
  refine wp_loop_rounds 1 ?_
  rw [rounds_succ]
  go_wp2
  go_ret
  exact ⟨rfl, rfl⟩
theorem delV_nil (p : Option Addr) (c : Nat) (fv : Value) (w : World) :
    Calls Tryz.prog 101 #[.slice p 0 c, fv] w fun e w' => e = .returned (.slice p 0 c) ∧ w' = w := by
  have h := Lib.hid (idxV_nil p c fv w)
  go_enter Tryz.func101, Tryz.ntmps101
  go_wp2_with fail
  refine h.out.mono ?_
  rintro e w1 ⟨rfl, rfl⟩
  go_wp2
  go_ret
  exact ⟨rfl, rfl⟩
theorem zeroV (w : World) : (zeroValue 110).run Tryz.prog w = .ok (.agg #[.int .i64 0, .int .i64 0, .string ⟨#[]⟩, .int .i64 0, .int .i64 0]) w := by kernel_rfl
set_option maxRecDepth 100000 in
set_option maxHeartbeats 2000000 in
theorem delV_row {σ : Type} (R : World) (l : List HP) (I : σ → HP) (K : σ → Nat → Prop) (g : Nat) (lb : Array Value) (p : EventV → σ → Bool × σ) (eg : ∀ args w, (callFunc g args).run Tryz.prog w = .ok (.enter g args) w)
    (ys : List EventV) (hp : ∀ x ∈ ys, ∀ s n w l', K s (n + 1) → Sep R w (I s :: l') → Calls Tryz.prog g (#[.agg (eventC x).toArray] ++ lb) w fun e w' => e = .returned (.bool (p x s).1) ∧ Sep R w' (I (p x s).2 :: l') ∧ K (p x s).2 n)
    (w : World) (b cap : Nat) (pre post : List Value) (s : σ) (hn : ys.length ≤ 1000000000) (hcap : ys.length ≤ cap) (hK : K s ys.length) (H : Sep R w (rowE b pre eventC ys post :: I s :: l)) :
    Calls Tryz.prog 101 #[.slice (some ⟨b, pre.length, none⟩) ys.length cap, .func (.func g) #[] lb] w fun e w' =>
      ∃ post', e = .returned (.slice (some ⟨b, pre.length, none⟩) (delF p ys s).1.length cap) ∧ post'.length = (ys.length - (delF p ys s).1.length) * 5 + post.length ∧ Sep R w' (rowE b pre eventC (delF p ys s).1 post' :: I (delF p ys s).2 :: l) := by
  have hix := Lib.hid (idxV_any R l I K g lb p eg ys hp w b cap pre post s hn hK H)
  have HP := Lib.hid hp
  clear H hp hK
  go_enter Tryz.func101, Tryz.ntmps101
  go_wp2_with fail
  refine Calls.mono hix.out ?_
  rintro e w1 ⟨s1, H1, ⟨rfl, hd⟩ | ⟨j, hj, rfl, hd, hK1⟩⟩
  · have HD := Lib.hid hd
    have H2 := Lib.hid H1
    clear hd H1
    go_wp2
    go_ret
    rw [HD.out]
    exact ⟨post, rfl, by simp, H2.out⟩
  · have HD := Lib.hid hd
    have H2 := Lib.hid H1
    have HK1 := Lib.hid hK1
    clear hd H1 hK1
    have hne1 : ((j : Int) == -1) = false := beq_eq_false_iff_ne.2 (by omega)
    have hne2 : ((j : Int) = -1) = False := by simp
    go_wp2_with fail
    go_loopw [5, 6, 7] (fun i jj _ wr => ∃ (m k : Nat) (zs : List EventV) (t : σ), i = .int .i64 m ∧ jj = .int .i64 k ∧ m < k ∧ k ≤ ys.length ∧ zs.length = ys.length ∧ zs.drop k = ys.drop k ∧ delF p (ys.take k) s = (zs.take m, t) ∧ K t (ys.length - k) ∧ Sep R wr (rowE b pre eventC zs post :: I t :: l)) (fun _ jj _ _ => ys.length - (intOf jj).toNat)
    case atStart => exact ⟨j, j + 1, ys, s1, rfl, by go_num, by omega, hj, rfl, rfl, HD.out, HK1.out, H2.out⟩
    case round =>
      obtain ⟨m, k, zs, t, rfl, rfl, hmk, hk, hzl, hdr, hd, hkt, H3⟩ := hrel
      have HD := Lib.hid hd
      have HKT := Lib.hid hkt
      have HDR := Lib.hid hdr
      have HZL := Lib.hid hzl
      have H4 := Lib.hid H3
      clear hd hkt hdr hzl H3
      by_cases hlt : k < ys.length
      · have hkz : k < zs.length := by rw [HZL.out]; exact hlt
        have hmz : m < zs.length := by omega
        have hxe : zs[k] = ys[k] := by
          have h1 := congrArg (fun l : List EventV => l[0]?) HDR.out
          simpa [hlt, hkz] using h1
        obtain ⟨c0, c1, c2, c3, c4⟩ := H4.out.elemV k hkz
        obtain ⟨wo, rfl⟩ : ∃ wo : World, wo = wr := ⟨_, rfl⟩
        have hmem : ys[k] ∈ ys := List.getElem_mem hlt
        have HD2 := Lib.hid (delF_take p ys s k hlt)
        have hn1 : ∀ h : k < zs.length, zs[k]'h = ys[k] := fun _ => hxe
        have HN := Lib.hid hn1
        rw [hxe] at c0 c1 c2 c3 c4
        clear hxe hn1
        generalize ys[k] = x at *
        have hc := fun w l' => HP.out x hmem t (ys.length - (k + 1)) w l' (by rw [show ys.length - (k + 1) + 1 = ys.length - k by omega]; exact HKT.out)
        have HC := Lib.hid hc
        clear hc hmem
        obtain ⟨r, hr⟩ : ∃ r, r = p x t := ⟨_, rfl⟩
        rw [← hr] at HC
        have HR := Lib.hid hr
        clear hr
        obtain ⟨rb, rs⟩ := r
        have hlti : (k : Int) < (ys.length : Int) := by omega
        have hmi : (m : Int) < (ys.length : Int) := by omega
        have hdr2 : zs.drop (k + 1) = ys.drop (k + 1) := by have := congrArg (List.drop 1) HDR.out; simpa [List.drop_drop] using this
        have HDR2 := Lib.hid hdr2
        clear hdr2
        cases rb with
        | true =>
          go_wp2_with (go_at_fn g; refine Hid.out ?_)
          refine Lib.hid (Calls.mono (HC.out _ _ (H4.out.swap.mkc _ _).swap) ?_)
          rintro e w1 ⟨rfl, H5, hK5⟩
          have H6 := Lib.hid (H5.swap.drop.swap)
          have HK5 := Lib.hid hK5
          clear H5 hK5
          go_wp2_with fail
          go_roundw
          case rel =>
            refine ⟨m, k + 1, zs, rs, rfl, by go_num, by omega, hlt, HZL.out, HDR2.out, ?_, HK5.out, H6.out⟩
            rw [HD2.out, HD.out]
            unfold delStep
            simp only
            rw [← HR.out]
            rfl
          case measure => simp [intOf]; omega
        | false =>
          go_wp2_with (go_at_fn g; refine Hid.out ?_)
          refine Lib.hid (Calls.mono (HC.out _ _ (H4.out.swap.mkc _ _).swap) ?_)
          rintro e w1 ⟨rfl, H5, hK5⟩
          generalize wo.heap.size = nb at *
          obtain ⟨d0, d1, d2, d3, d4, fz1, lt1⟩ := H5.swap.c5
          have H6 := H5.swap.drop.swap
          obtain ⟨e0, e1, e2, e3, e4⟩ := H6.elemV m hmz
          have fz2 : ∀ i, w1.frozen? ⟨b, i, none⟩ = false := H6.fz
          have lt2 : b < w1.heap.size := H6.clt
          have H7 := Lib.hid (H6.setElem (sz := 5) (fun _ => rfl) m hmz x)
          have HK5 := Lib.hid hK5
          clear H5 hK5 H6
          generalize zs[m] = old at e0 e1 e2 e3 e4
          go_wp2_with fail
          go_roundw
          case rel =>
            refine ⟨m + 1, k + 1, zs.set m x, rs, by go_num, by go_num, by omega, hlt, by simpa using HZL.out, ?_, ?_, HK5.out, H7.out⟩
            · rw [List.drop_set_of_lt (by omega)]; exact HDR2.out
            · rw [HD2.out, HD.out, List.take_succ_eq_append_getElem (by simpa using hmz), List.take_set_of_le (Nat.le_refl m), List.getElem_set_self]
              unfold delStep
              simp only
              rw [← HR.out]
              rfl
          case measure => simp [intOf]; omega
      · obtain rfl : k = ys.length := by omega
        have hlti : ¬ (ys.length : Int) < (ys.length : Int) := by omega
        have hmi : (m : Int) < (ys.length : Int) := by omega
        have hci : (ys.length : Int) ≤ (cap : Int) := by omega
        have fz2 : ∀ i, wr.frozen? ⟨b, i, none⟩ = false := H4.out.fz
        obtain ⟨vs, hvl, hcl⟩ := run_clear_k (P := Tryz.prog) wr 48 110 (.agg #[.int .i64 0, .int .i64 0, .string ⟨#[]⟩, .int .i64 0, .int .i64 0]) Tryz.underlying48 zeroV (by intro v hv; simp [Value.cells] at hv; rcases hv with rfl | rfl | rfl | rfl | rfl <;> rfl) b (pre.length + m * 5) (ys.length - m) (cap - m) (by omega) (by
          intro j hj
          refine H4.out.someCell (sz := 5) (fun _ => rfl) _ ?_
          rw [HZL.out]
          simp [Value.cells] at hj
          omega) (fun j => fz2 _)
        have hvl2 : vs.length = (zs.length - m) * 5 := by rw [HZL.out]; simpa [Value.cells] using hvl
        have H7 := Lib.hid (H4.out.tail (sz := 5) (fun _ => rfl) (by rw [HZL.out]; omega) hvl2)
        have HV := Lib.hid hvl2
        clear hvl hvl2
        obtain ⟨wo, rfl⟩ : ∃ wo : World, wo = wr := ⟨_, rfl⟩
        go_wp2
        go_ret
        have h1 := HD.out
        rw [List.take_length] at h1
        have h2 := HZL.out
        rw [h1]
        have hlen : (zs.take m).length = m := by rw [List.length_take, h2]; omega
        refine ⟨by simp only [hlen]; rfl, vs ++ post, by simp only [hlen, List.length_append, HV.out, h2], H7.out⟩
end Go.Proofs.YtpeflgfldbjflaaGreatDoor
end
