/- Is there an event that may not be: slices.ContainsFunc over the program's closure. Conditions: below 2^47 events. -/
import Derived.Test.YtcboopkalpmglaaDoorEvMay
import Derived.Test.YtcboopkalpmglaaDoorEvRefText
import Derived.Deep.Cut
namespace Go.Proofs.YtcboopkalpmglaaDoor
set_option linter.unusedVariables false
open Go.RowKit
set_option maxRecDepth 20000 in
set_option maxHeartbeats 4000000 in
theorem notMay_any (e : Ev) (w : World) :
    Calls Tryd.prog 25 #[evV e] w fun x w' => x = .returned (.bool (!mayB e)) ∧ Below w.heap.size w w' := by
  unfold evV
  go_enter Tryd.func25, Tryd.ntmps25
  go_upto_region 1 with (fail)
  generalize hV : World.alloc w _ = V
  have HT := Lib.hid (one_of hV)
  have hg := HT.out.1
  have HBV := Lib.hid HT.out.2
  have c0 := block_cell (i := 0) hg rfl
  have c1 := block_cell (i := 1) hg rfl
  have c2 := block_cell (i := 2) hg rfl
  have c3 := block_cell (i := 3) hg rfl
  have c4 := block_cell (i := 4) hg rfl
  have c5 := block_cell (i := 5) hg rfl
  clear hV hg HT
  go_wp2_with fail
  refine (may_any e _).mono ?_
  rintro x w1 ⟨rfl, hb⟩
  have HB := Lib.hid (HBV.out.trans (hb.mono HBV.out.size))
  clear hb
  go_wp2
  go_ret
  exact ⟨rfl, HB.out⟩
def IdxGives (zs : List Ev) (w : World) (x : Ending) (w' : World) : Prop :=
  ∃ r : Int, x = .returned (.int .i64 r) ∧ ((r = -1 ∧ ∀ e ∈ zs, mayB e = true) ∨ (∃ i : Nat, r = (i : Int) ∧ i < zs.length ∧ mayB (eat zs i) = false)) ∧ Below w.heap.size w w'
set_option maxRecDepth 20000 in
set_option maxHeartbeats 4000000 in
theorem idxFunc_any (a : Option Addr) (n c : Nat) (zs : List Ev) (w : World) (hz : Rd encEv w.heap.size w a n zs) (hn : n ≤ 140737488351232) :
    Calls Tryd.prog 38 #[.slice a n c, .func (.func 25) #[] #[]] w (IdxGives zs w) := by
  have lz := hz.1
  have eg : ∀ args w, (callFunc 25 args).run Tryd.prog w = .ok (.enter 25 args) w := enters_of Tryd.func25 (by kernel_rfl) rfl
  go_enter Tryd.func38, Tryd.ntmps38
  go_wp2_with fail
  go_loopw [8] (fun vi wr => ∃ i : Nat, i ≤ n ∧ vi = .int .i64 (i : Int) ∧ (∀ e ∈ zs.take i, mayB e = true) ∧ Below w.heap.size w wr) (fun vi _ => n - (intOf vi).toNat)
  case atStart => exact ⟨0, Nat.zero_le _, rfl, (fun e h => by simp at h), Below.refl _ _⟩
  case round =>
    obtain ⟨i, hi, rfl, hm, hb⟩ := hrel
    have HM := Lib.hid hm
    have HB := Lib.hid hb
    clear hm hb
    by_cases hlt : i < n
    · have hlt' : (i : Int) < (n : Int) := by omega
      obtain ⟨bx, ox, rfl, hbx, hcx⟩ := rd_ev hz (by omega)
      have HX := Lib.hid ((hcx i hlt).below HB.out hbx)
      clear hcx
      generalize hex : eat zs i = e at HX
      have x0 := HX.out.c0
      have x1 := HX.out.c1
      have x2 := HX.out.c2
      have x3 := HX.out.c3
      have x4 := HX.out.c4
      have x5 := HX.out.c5
      have HE := Lib.hid hex
      clear hex HX
      have hcall := notMay_any e wr
      cases hmb : mayB e with
      | false =>
        rw [hmb] at hcall
        have HR := Lib.hid (show mayB (eat zs i) = false by rw [HE.out]; exact hmb)
        clear hmb
        go_wp2_with (go_at_fn 25; refine hcall.mono ?_; rintro x w3 ⟨rfl, hb3⟩)
        go_ret
        exact ⟨(i : Int), rfl, .inr ⟨i, rfl, by omega, HR.out⟩, HB.out.trans (hb3.mono HB.out.size)⟩
      | true =>
        rw [hmb] at hcall
        have HN := Lib.hid (may_next (l := zs) (i := i) (by omega) HM.out (by rw [HE.out]; exact hmb))
        clear hmb
        go_wp2_with (go_at_fn 25; refine hcall.mono ?_; rintro x w3 ⟨rfl, hb3⟩)
        go_roundw
        case rel => exact ⟨i + 1, hlt, by go_num, HN.out, HB.out.trans (hb3.mono HB.out.size)⟩
        case measure => simp [intOf]; omega
    · have hlt' : ¬ (i : Int) < (n : Int) := by omega
      obtain rfl : i = n := by omega
      have HA := Lib.hid (Rd.all_take HM.out (by omega))
      go_wp2
      go_ret
      exact ⟨-1, rfl, .inl ⟨rfl, HA.out⟩, HB.out⟩
theorem all_no {zs : List Ev} {i : Nat} (hi : i < zs.length) (h : mayB (eat zs i) = false) : zs.all mayB = false := by
  rw [Bool.eq_false_iff]
  intro ha
  have := List.all_eq_true.1 ha _ (eat_mem hi)
  rw [h] at this; cases this
set_option maxHeartbeats 4000000 in
theorem contains_any (a : Option Addr) (n c : Nat) (zs : List Ev) (w : World) (hz : Rd encEv w.heap.size w a n zs) (hn : n ≤ 140737488351232) :
    Calls Tryd.prog 24 #[.slice a n c, .func (.func 25) #[] #[]] w fun x w' => x = .returned (.bool (!zs.all mayB)) ∧ Below w.heap.size w w' := by
  go_enter Tryd.func24, Tryd.ntmps24
  go_wp2_with fail
  refine (idxFunc_any a n c zs _ hz hn).mono ?_
  rintro x w1 ⟨r, rfl, hr, hb⟩
  have HB := Lib.hid hb
  clear hb
  rcases hr with ⟨rfl, hA⟩ | ⟨i, rfl, hi, hm⟩
  · have HA := Lib.hid (List.all_eq_true.2 hA)
    clear hA
    go_wp2
    go_ret
    exact ⟨by rw [HA.out]; rfl, HB.out⟩
  · have HA := Lib.hid (all_no hi hm)
    have hi0 : (0 : Int) ≤ (i : Int) := by omega
    have hi1 : ¬ (i : Int) < 0 := by omega
    clear hm
    go_wp2
    go_ret
    exact ⟨by rw [HA.out]; rfl, HB.out⟩
end Go.Proofs.YtcboopkalpmglaaDoor
