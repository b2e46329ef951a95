/- The document's text of events. Conditions: the events' numbers are the machine's; below 100,000 events. -/
import Derived.Test.YtcboopkalpmglaaDoorEvRefMay
import Derived.Test.YtcboopkalpmglaaDoorEvRefLine
import Derived.Test.YtcboopkalpmglaaDoorEvSame
import Derived.Test.YtcboopkalpmglaaDoorEvBuilds
namespace Go.Proofs.YtcboopkalpmglaaDoor
set_option linter.unusedVariables false
open Go.RowKit
def TextGives (R : List Nat × Nat) (w : World) (x : Ending) (w' : World) : Prop := x = .returned (.tuple #[.string (str R.1), .int .i64 (R.2 : Int)]) ∧ Below w.heap.size w w'
theorem textGives_of {R : List Nat × Nat} {a : List Nat} {b : Nat} {w w' : World} {x : Ending} (h : R = (a, b)) (hx : x = .returned (.tuple #[.string (str a), .int .i64 (b : Int)])) (hb : Below w.heap.size w w') : TextGives R w x w' := by
  subst h; exact ⟨hx, hb⟩
theorem res_bad {l : List Ev} {i : Nat} (hi : i < l.length) (h : mayB (eat l i) = false) : textRes l = ([], 1) := by
  unfold textRes
  rw [if_pos]
  rw [Bool.eq_false_iff]
  intro ha
  have := List.all_eq_true.1 ha _ (eat_mem hi)
  rw [h] at this; cases this
theorem res_full {l : List Ev} (h : ∀ e ∈ l, mayB e = true) (hl : 1000 < l.length) : textRes l = ([], 3) := by
  unfold textRes
  rw [List.all_eq_true.2 h, if_neg (by decide), if_pos hl]
theorem res_ok {l : List Ev} (h : ∀ e ∈ l, mayB e = true) (hl : ¬ 1000 < l.length) : textRes l = (evText l, 0) := by
  unfold textRes
  rw [List.all_eq_true.2 h, if_neg (by decide), if_neg hl]
theorem may_next {l : List Ev} {i : Nat} (hi : i < l.length) (h : ∀ e ∈ l.take i, mayB e = true) (he : mayB (eat l i) = true) : ∀ e ∈ l.take (i + 1), mayB e = true := by
  intro e hm
  rw [List.take_add_one, eat_some hi] at hm
  rcases List.mem_append.1 hm with h1 | h1
  · exact h e h1
  · simp at h1; subst h1; exact he
theorem text_next {l : List Ev} {i : Nat} (hi : i < l.length) : evText (l.take (i + 1)) = evText (l.take i) ++ lineT (eat l i) ++ [10] := by
  unfold evText
  rw [List.take_add_one, eat_some hi, Option.toList_some, List.flatMap_append, List.append_assoc]
  simp
theorem bl_line {e : Ev} (h : e.Ok) : bl (str (lineT e)) = lineT e := bl_str fun x hx => by have := line_in h x hx; omega
theorem may_kind {e : Ev} (h : mayB e = true) : 1 ≤ e.k ∧ e.k ≤ 15 := ((may_iff e).1 h).1.1
theorem Rd.all_take {l : List Ev} {i : Nat} (h : ∀ e ∈ l.take i, mayB e = true) (hi : l.length ≤ i) : ∀ e ∈ l, mayB e = true := by
  rwa [List.take_of_length_le hi] at h
theorem own_len {w : World} {B n m : Nat} {v : Value} {l l' : List Nat} (hn : n = m) (hl : l = l') (h : Own encB w B 5 v n l) : Own encB w B 5 v m l' := by
  subst hn hl; exact h
set_option maxRecDepth 20000 in
set_option maxHeartbeats 4000000 in
theorem refText19_any (a : Option Addr) (n c : Nat) (zs : List Ev) (w : World) (hz : Rd encEv w.heap.size w a n zs) (hn : n ≤ 100000) (hok : ∀ e ∈ zs, e.Ok) :
    Calls Tryd.prog 14 #[.slice a n c] w (TextGives (textRes zs) w) := by
  have lz := hz.1
  have HOK := Lib.hid hok
  clear hok
  go_enter Tryd.func14, Tryd.ntmps14
  go_wp2_with fail
  go_loopw [4] (fun vi wr => ∃ i : Nat, i ≤ n ∧ vi = .int .i64 (i : Int) ∧ (∀ e ∈ zs.take i, mayB e = true) ∧ Below w.heap.size w wr) (fun vi _ => n - (intOf vi).toNat)
  case atStart => exact ⟨0, Nat.zero_le _, rfl, (fun e h => by simp at h), Below.refl _ _⟩
  case round =>
    obtain ⟨i, hi, rfl, hm, hb⟩ := hrel
    have HM := Lib.hid hm
    have HB := Lib.hid hb
    clear hm hb
    by_cases hlt : i < n
    · have hlt' : (i : Int) < (n : Int) := by omega
      obtain ⟨bx, ox, rfl, hbx, hcx⟩ := rd_ev hz (by omega)
      have HX := Lib.hid ((hcx i hlt).below HB.out hbx)
      clear hcx
      generalize hex : eat zs i = e at HX
      have x0 := HX.out.c0
      have x1 := HX.out.c1
      have x2 := HX.out.c2
      have x3 := HX.out.c3
      have x4 := HX.out.c4
      have x5 := HX.out.c5
      have HE := Lib.hid hex
      clear hex HX
      go_wp2_with fail
      refine (refMay_any e _).mono ?_
      rintro x w3 ⟨rfl, hb3⟩
      have HB3 := Lib.hid (HB.out.trans (hb3.mono HB.out.size))
      clear hb3
      cases hmb : mayB e with
      | false =>
        have HR := Lib.hid (res_bad (l := zs) (i := i) (by omega) (by rw [HE.out]; exact hmb))
        clear hmb
        go_wp2
        go_ret2
        exact textGives_of HR.out rfl HB3.out
      | true =>
        have HN := Lib.hid (may_next (l := zs) (i := i) (by omega) HM.out (by rw [HE.out]; exact hmb))
        clear hmb
        go_wp2
        go_roundw
        case rel => exact ⟨i + 1, hlt, by go_num, HN.out, HB3.out⟩
        case measure => simp [intOf]; omega
    · have hlt' : ¬ (i : Int) < (n : Int) := by omega
      obtain rfl : i = n := by omega
      have HA := Lib.hid (Rd.all_take HM.out (by omega))
      by_cases hbig : 1000 < i
      · have hbig' : (1000 : Int) < (i : Int) := by omega
        have HR := Lib.hid (res_full HA.out (by omega))
        go_wp2
        go_ret2
        exact textGives_of HR.out rfl HB.out
      · have hbig' : ¬ (1000 : Int) < (i : Int) := by omega
        have HR := Lib.hid (res_ok HA.out (by omega))
        obtain ⟨wo, hwo⟩ : ∃ wo : World, wo = wr := ⟨_, rfl⟩
        have HWO := Lib.hid hwo
        clear hwo
        go_wp2_with fail
        go_loopw [5, 6] (fun vo vi wq => ∃ q : Nat, q ≤ i ∧ vi = .int .i64 (q : Int) ∧ Own encB wq w.heap.size 5 vo (evText (zs.take q)).length (evText (zs.take q)) ∧ (evText (zs.take q)).length ≤ 601 * q ∧ Below w.heap.size w wq) (fun _ vi _ => i - (intOf vi).toNat)
        case atStart => exact ⟨0, Nat.zero_le _, rfl, Own.nil _ _ _, by simp [evText], HB.out⟩
        case round =>
          obtain ⟨q, hq, rfl, ho, hln, hbq⟩ := hrel
          have HO := Lib.hid ho
          have HQ := Lib.hid hbq
          have hqs := hbq.size
          clear ho hbq
          by_cases hlq : q < i
          · have hlq' : (q : Int) < (i : Int) := by omega
            obtain ⟨bx, ox, rfl, hbx, hcx⟩ := rd_ev hz (by omega)
            have HX := Lib.hid ((hcx q hlq).below HQ.out hbx)
            clear hcx
            have HTN := Lib.hid (text_next (l := zs) (i := q) (by omega))
            have HOE := Lib.hid (HOK.out _ (eat_mem (zs := zs) (j := q) (by omega)))
            have HME := Lib.hid (HA.out _ (eat_mem (zs := zs) (j := q) (by omega)))
            generalize eat zs q = e at HX HTN HOE HME
            generalize hT : evText (zs.take q) = T at HO HTN hln
            have x0 := HX.out.c0
            have x1 := HX.out.c1
            have x2 := HX.out.c2
            have x3 := HX.out.c3
            have x4 := HX.out.c4
            have x5 := HX.out.c5
            have hll := line_len HOE.out
            have hls : (str (lineT e)).size ≤ 600 := by rw [str_size]; exact hll
            clear HX hT
            go_wp2_with fail
            refine (refLine_any e _ HOE.out (may_kind HME.out).1 (may_kind HME.out).2).mono ?_
            rintro x w3 ⟨rfl, hb3⟩
            have HO3 := Lib.hid (HO.out.next hb3)
            have HB3 := Lib.hid (HQ.out.trans (hb3.mono hqs))
            have h3s := Nat.le_trans hqs hb3.size
            clear hb3
            go_wp2_with (first
              | (at_builtin; refine append_bs rfl _ _ rfl w.heap.size _ T.length T rfl HO3.out (str (lineT e)) rfl (by omega) h3s ?_; intro vl' u2 ho2 hg2
                 have HO4 := Lib.hid (ho2.alloc (.cells #[.int .u8 10] 5))
                 have HB4 := Lib.hid (HB3.out.grown hg2 h3s (fun j e => (HO3.out.lt j e).1))
                 have h4s := HB4.out.size
                 clear ho2 hg2)
              | (at_builtin; refine append_b1 rfl _ _ rfl w.heap.size _ (T.length + (str (lineT e)).size) (T ++ bl (str (lineT e))) rfl HO4.out u2.heap.size _ 10 rfl (cnewb.trans rfl) (by omega) (by simp; omega) ?_; intro vl2 u3 ho3 hg3))
            have HO5 := Lib.hid ho3
            have HB5 := Lib.hid ((HB4.out.alloc h4s (.cells #[.int .u8 10] 5)).grown hg3 (by simp; omega) (fun j e => (HO4.out.lt j e).1))
            clear ho3 hg3
            go_roundw
            case rel => exact ⟨q + 1, hlq, by go_num, by rw [HTN.out]; exact own_len (by simp [str_size]; omega) (by rw [bl_line HOE.out]) HO5.out, by rw [HTN.out]; simp; omega, HB5.out⟩
            case measure => simp [intOf]; omega
          · have hlq' : ¬ (q : Int) < (i : Int) := by omega
            obtain rfl : q = i := by omega
            have HE := Lib.hid (show zs.take q = zs from List.take_of_length_le (by omega))
            have HCV := Lib.hid (conv_own HO.out)
            go_wp2_with fail
            rw [HCV.out]
            go_wp2
            go_ret2
            exact textGives_of HR.out (by rw [HE.out]; rfl) HQ.out
end Go.Proofs.YtcboopkalpmglaaDoor
