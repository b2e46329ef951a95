/- AuditCredits: at every input the law returns true and leaves its arguments as they were: what had ns more, in turn, is told; a number more that grew, or one that didn't, is not, nor a list that is shorter. Conditions: none beyond the row's own. -/
import Derived.Test.YtoclkhnejanlnaaRows
import Derived.Test.YtoclkhnejanlnaaShown
import Derived.Test.YtoclkhnejanlnaaWants
import Derived.Test.YtoclkhnejanlnaaPhase
import Derived.Deep.Cut
import Derived.WalkKit
import Derived.Deep.QuietTactic
import Derived.BigQuiet
import Derived.ProofKit
import Derived.OpenShut
import Derived.ShutString
import Derived.ChangeOld
import Derived.Below
namespace Go.Proofs.Ytoclkhnejanlnaa.auditCredits
open Go.ChangeShapes Go.WideShapes Go.ChangeAt Go.RowKit
open Go.ChangeMaps (open_string shut_string)
set_option linter.unusedVariables false

theorem own : ownKnob Try.prog.godebug = none := by kernel_rfl
theorem laidOut : laidOutB Try.prog = true := by kernel_rfl

set_option maxRecDepth 100000 in
set_option maxHeartbeats 8000000 in
theorem walk (a0 : Option Addr) (len0 cap0 : Nat) (z0 : List Int) (a1 : Option Addr) (len1 cap1 : Nat) (z1 : List Int) (a2 : Int) (a3 : Int) (w : World) (w0 : IsInts w a0 len0 cap0 z0) (w1 : IsBytes w a1 len1 cap1 z1) (w2 : (Lit.int .i64 a2).wf = true) (w3 : (Lit.int .u8 a3).wf = true) :
    Calls Try.prog 5 #[.slice a0 len0 cap0, .slice a1 len1 cap1, .int .i64 a2, .int .u8 a3] w fun e w' => e = .returned (.bool true) ∧ Below w.heap.size w w' := by
  obtain ⟨hl0, hc0, hn0, hr0, _⟩ := w0
  obtain ⟨hl1, hc1, hr1, hb1⟩ := w1
  have hA := bounds_u8 w3
  obtain ⟨x, rfl⟩ := Int.eq_ofNat_of_zero_le hA.1
  have HR0 := Lib.hid hr0
  have HR1 := Lib.hid hr1
  have HN0 := Lib.hid hn0
  have HB1 := Lib.hid hb1
  have HL0 := Lib.hid hr0.1
  clear hr0 hr1 hn0 hb1 w2 w3
  have hnot : ∀ (x : Bool) (w : World), (Op.unary .not (.bool x)).run Try.prog w = .ok (.bool (!x)) w := fun _ _ => rfl
  cases hz : ((len0 : Int) == 0)
  · have hlen0 : 0 < len0 := by simp at hz; omega
    by_cases h200 : (200 : Int) < (len0 : Int)
    · go_enter Try.func5, Try.ntmps5
      go_wp2_with fail
      refine (shown_any _).mono ?_
      rintro e W1 ⟨rfl, hb1⟩
      have HW := Lib.hid hb1
      clear hb1
      go_wp2
      go_ret
      exact ⟨rfl, HW.out⟩
    · go_enter Try.func5, Try.ntmps5
      go_wp2_with fail
      refine (shown_any _).mono ?_
      rintro e W1 ⟨rfl, hb1⟩
      have HW := Lib.hid hb1
      clear hb1
      have HE := Lib.hid (own_empty (E := encI) W1 W1.heap.size 2 (Nat.le_refl _))
      have HRe := Lib.hid ((HR0.out.next HW.out).next (belowA W1 (.cells #[] 2)))
      go_upto_region 7 with ((at_builtin; refine append_copy Try.underlying36 long_info rfl rfl _ _ rfl W1.heap.size _ 0 [] rfl HE.out a0 len0 cap0 z0 rfl HN0.out HRe.out (by omega) (by omega) (by simp) ?_; intro v' u1 hown' hgrow))
      have hown2 : Own encI u1 W1.heap.size 2 v' len0 z0 := by simpa using hown'
      obtain ⟨g, cap, cur, hv, hgB, hgu, hnc, hcm, _⟩ := hown2.block hlen0
      subst hv
      have hcap : cap ≤ 9223372036854775807 := by unfold maxLen at hcm; omega
      have HO0 := Lib.hid hown2
      have HB0 := Lib.hid (show Below W1.heap.size W1 u1 from (belowA W1 (.cells #[] 2)).grown hgrow (by simp) (fun k e => by have e' : some W1.heap.size = some k := e; injection e' with e'; omega))
      clear hown2 hown' hgrow
      go_wp2_with fail
      go_loopw [11, 12] (fun vl i wr => ∃ k : Nat, k ≤ len1 ∧ k ≤ 200 ∧ i = .int .i64 k ∧ Own encI wr W1.heap.size 3 vl k (turnL z1 len0 k) ∧ Own encI wr W1.heap.size 2 (.slice (some ⟨g, 0, none⟩) len0 cap) len0 (wants z0 (turnL z1 len0 k) a2 len0) ∧ Other vl (.slice (some ⟨g, 0, none⟩) len0 cap) ∧ Below W1.heap.size W1 wr) (fun _ i _ => 200 - (intOf i).toNat)
      case atStart => exact ⟨0, Nat.zero_le _, Nat.zero_le _, rfl, Own.nil _ _ _, by rw [show turnL z1 len0 0 = [] from rfl, wants_nil HL0.out]; exact HO0.out, fun g e => by simp [Value.ownBlock] at e, HB0.out⟩
      case round =>
        obtain ⟨k, hk1, hk2, rfl, hOl, hOa, hOt, hB⟩ := hrel
        have HOL := Lib.hid hOl
        have HOA := Lib.hid hOa
        have HOT := Lib.hid hOt
        have HB := Lib.hid hB
        have hgw := (hOa.lt g rfl).2
        clear hOl hOa hOt hB
        by_cases hlt1 : k < len1
        · by_cases hlt2 : k < 200
          · have g1 : (k : Int) < (len1 : Int) := by omega
            have g2 : (k : Int) < 200 := by omega
            obtain ⟨b', off', ha', hbl', hc'⟩ := HR1.out.bytes (by omega)
            subst ha'
            have hwW := HW.out.size
            have hWr := HB.out.size
            have c1 := cellb HB.out (by omega) (cellb HW.out hbl' (hc' k hlt1))
            have p1 := HB1.out k
            obtain ⟨y, hy⟩ := Int.eq_ofNat_of_zero_le p1.1
            rw [hy] at c1 p1
            have HY := Lib.hid hy
            clear hc' hy
            obtain ⟨m, hm, hml⟩ : ∃ m : Nat, (y : Int) % (len0 : Int) = m ∧ m < len0 := ⟨y % len0, by simp, Nat.mod_lt _ hlen0⟩
            have HM := Lib.hid hm
            have HTS := Lib.hid (show turnL z1 len0 (k + 1) = turnL z1 len0 k ++ [(m : Int)] by rw [turnL_succ, HY.out, HM.out])
            obtain ⟨_, la, lc, hvl, _, _, _, hrl⟩ := HOL.out.rd
            subst hvl
            have HRL := Lib.hid hrl
            clear hrl
            have g3 : (m : Int) < (len0 : Int) := by omega
            go_wp2_with fail
            rw [HM.out]
            clear hm
            refine (refHas_any (turnL z1 len0 k) m _ HRL.out (by omega)).mono ?_
            rintro e w' ⟨rfl, rfl⟩
            have hk3 : k ≤ 100000 := by omega
            cases hh : hasI (turnL z1 len0 k) m
            · have HH := Lib.hid hh
              have HWN := Lib.hid (wants_new (z := z0) (L := turnL z1 len0 k) (ns := a2) (n := len0) hml)
              clear hh
              obtain ⟨o1, o2, o3, o4, o5⟩ := HOA.out.set (j := m) (q := 0) (p := m) (z' := wi (rat z0 m + a2)) (u := .int .i64 (wrap64 (rat z0 m + a2))) (rat_at (by rw [wants_length]; exact hml)) (by decide) rfl (by simp [encI])
              rw [wants_old hml HH.out] at o3
              have o3' := o3.trans (show _ = some (.int .i64 (rat z0 m)) from rfl)
              have Q1 := Lib.hid o1
              have Q2 := Lib.hid (show Own encI (wr.setCell ⟨g, m, none⟩ (.int .i64 (wrap64 (rat z0 m + a2)))) W1.heap.size 3 (.slice la k lc) k (turnL z1 len0 k) from ownsRow_setCell_other HOL.out (fun e => HOT.out g e rfl) _)
              have Q3 := Lib.hid (show Below W1.heap.size W1 (wr.setCell ⟨g, m, none⟩ (.int .i64 (wrap64 (rat z0 m + a2)))) from HB.out.setCell (by simp; omega) _)
              clear o1 o3 o4 o5
              go_upto_region 12 with fail
              generalize wr.setCell ⟨g, m, none⟩ (.int .i64 (wrap64 (rat z0 m + a2))) = wq at Q1 Q2 Q3 ⊢
              clear o2 o3' c1
              have HL1 := Lib.hid (Q2.out.alloc (.cells #[.int .i64 (m : Int)] 3))
              have HA1 := Lib.hid (Q1.out.alloc (.cells #[.int .i64 (m : Int)] 3))
              have hszw := Q3.out.size
              go_wp2_with ((at_builtin; refine append_long Try.underlying22 int_info rfl _ _ rfl W1.heap.size _ k (turnL z1 len0 k) rfl HL1.out wq.heap.size _ (m : Int) rfl (cnewb.trans rfl) hk3 (by simp; omega) ?_; intro vl' u2 ho2 hg2 hloc2))
              have HO2 := Lib.hid ho2
              have HP2 := Lib.hid (HOT.out.keep HA1.out hg2)
              have HT2 := Lib.hid (HOT.out.grown HA1.out hloc2)
              have HB2 := Lib.hid ((Q3.out.alloc hszw (.cells #[.int .i64 (m : Int)] 3)).grown hg2 (by simp; omega) (fun j e => (HOL.out.lt j e).1))
              clear ho2 hg2 hloc2 hszw
              go_roundw
              case rel => exact ⟨k + 1, by omega, by omega, by go_num, by rw [HTS.out]; exact HO2.out, by rw [HTS.out, HWN.out]; exact HP2.out, HT2.out, HB2.out⟩
              case measure => simp [intOf]; omega
            · have HWH := Lib.hid (wants_has (z := z0) (ns := a2) (n := len0) hh)
              clear hh
              go_upto_region 12 with fail
              have HL1 := Lib.hid (HOL.out.alloc (.cells #[.int .i64 (m : Int)] 3))
              have HA1 := Lib.hid (HOA.out.alloc (.cells #[.int .i64 (m : Int)] 3))
              have hszw := HB.out.size
              go_wp2_with ((at_builtin; refine append_long Try.underlying22 int_info rfl _ _ rfl W1.heap.size _ k (turnL z1 len0 k) rfl HL1.out wr.heap.size _ (m : Int) rfl (cnewb.trans rfl) hk3 (by simp; omega) ?_; intro vl' u2 ho2 hg2 hloc2))
              have HO2 := Lib.hid ho2
              have HP2 := Lib.hid (HOT.out.keep HA1.out hg2)
              have HT2 := Lib.hid (HOT.out.grown HA1.out hloc2)
              have HB2 := Lib.hid ((HB.out.alloc hszw (.cells #[.int .i64 (m : Int)] 3)).grown hg2 (by simp; omega) (fun j e => (HOL.out.lt j e).1))
              clear ho2 hg2 hloc2 hszw
              go_roundw
              case rel => exact ⟨k + 1, by omega, by omega, by go_num, by rw [HTS.out]; exact HO2.out, by rw [HTS.out, HWH.out]; exact HP2.out, HT2.out, HB2.out⟩
              case measure => simp [intOf]; omega
          · have hlt3 : ¬ (k : Int) < 200 := by omega
            have g1 : (k : Int) < (len1 : Int) := by omega
            obtain ⟨_, la, lc, hvl, hlc1, hlc2, _, hrl⟩ := HOL.out.rd
            subst hvl
            have HRL := Lib.hid hrl
            have hlcm : k ≤ 9223372036854775807 := by omega
            have hlen9 : len0 ≤ 9223372036854775807 := by omega
            clear hrl hlc1 hlc2
            obtain ⟨m, hm, hml⟩ : ∃ m : Nat, (x : Int) % (len0 : Int) = m ∧ m < len0 := ⟨x % len0, by simp, Nat.mod_lt _ hlen0⟩
            have HM := Lib.hid hm
            have g3 : (m : Int) < (len0 : Int) := by omega
            have HE2 := Lib.hid (own_empty (E := encI) wr wr.heap.size 2 (Nat.le_refl _))
            obtain ⟨_, _, _, hva, _, _, _, hra⟩ := HOA.out.rd
            simp only [Value.slice.injEq] at hva
            obtain ⟨rfl, _, rfl⟩ := hva
            have HRA := Lib.hid hra
            have HRE := Lib.hid (hra.next (belowA wr (.cells #[] 2)))
            have HAE := Lib.hid (show some (⟨g, 0, none⟩ : Addr) = none → len0 = 0 ∧ cap = 0 from fun e => by cases e)
            clear hra
            go_upto_region 15 with ((at_builtin; refine append_copy Try.underlying36 long_info rfl rfl _ _ rfl wr.heap.size _ 0 [] rfl HE2.out _ len0 cap (wants z0 (turnL z1 len0 k) a2 len0) rfl HAE.out HRE.out (by omega) (by omega) (by simp) ?_; intro v2 u2 hown' hgrow))
            try rw [HM.out]
            clear hm
            have hown2 : Own encI u2 wr.heap.size 2 v2 len0 (wants z0 (turnL z1 len0 k) a2 len0) := by simpa using hown'
            obtain ⟨g', cap', cur', hv', hgB', hgu', hnc', hcm', _⟩ := hown2.block hlen0
            subst hv'
            have hcap' : cap' ≤ 9223372036854775807 := by unfold maxLen at hcm'; omega
            have hbu : Below wr.heap.size wr u2 := (belowA wr (.cells #[] 2)).grown hgrow (by simp) (fun k e => by have e' : some wr.heap.size = some k := e; injection e' with e'; omega)
            obtain ⟨o1, o2, o3, o4, o5⟩ := hown2.set (j := m) (q := 0) (p := m) (z' := wi (rat (wants z0 (turnL z1 len0 k) a2 len0) m + 1)) (u := .int .i64 (wrap64 (rat (wants z0 (turnL z1 len0 k) a2 len0) m + 1))) (rat_at (by rw [wants_length]; exact hml)) (by decide) rfl (by simp [encI])
            have o3' := o3.trans (show _ = some (.int .i64 (rat (wants z0 (turnL z1 len0 k) a2 len0) m)) from rfl)
            have Q1 := Lib.hid o1
            have Q3 := Lib.hid (show Below wr.heap.size wr (u2.setCell ⟨g', m, none⟩ (.int .i64 (wrap64 (rat (wants z0 (turnL z1 len0 k) a2 len0) m + 1)))) from hbu.setCell (by simp; omega) _)
            clear o1 o3 o4 o5 hown' hgrow hown2 hbu
            go_upto_region 16 with fail
            generalize u2.setCell ⟨g', m, none⟩ (.int .i64 (wrap64 (rat (wants z0 (turnL z1 len0 k) a2 len0) m + 1))) = wq at Q1 Q3 ⊢
            clear o2 o3'
            obtain ⟨_, _, _, hvo, _, _, _, hro⟩ := Q1.out.rd
            simp only [Value.slice.injEq] at hvo
            obtain ⟨rfl, _, rfl⟩ := hvo
            have K0 := Lib.hid ((HR0.out.next (nx HW.out HB.out)).next Q3.out)
            have KA := Lib.hid (HRA.out.next Q3.out)
            have KL := Lib.hid (HRL.out.next Q3.out)
            have KO := Lib.hid hro
            have KB := Lib.hid (nx (nx HW.out HB.out) Q3.out)
            have C1 := Lib.hid (cred_wants (ns := a2) (L := turnL z1 len0 k) HL0.out)
            have C2 := Lib.hid (cred_other (ns := a2) (L := turnL z1 len0 k) HL0.out hml)
            have C3 := Lib.hid (cred_len (b := z0) (a := (wants z0 (turnL z1 len0 k) a2 len0).drop 1) (own := turnL z1 len0 k) (ns := a2) (by rw [List.length_drop, wants_length, HL0.out]; omega))
            have C4 := Lib.hid (cred_same z0 a2)
            clear hro
            have hcap1 : 1 ≤ cap := by omega
            go_wp2_with fail
            refine (credits_any (zb := z0) (zo := turnL z1 len0 k) (za := (wants z0 (turnL z1 len0 k) a2 len0)) _ (K0.out) (KL.out) (KA.out) hlen9 hlcm).mono ?_
            rintro e Y1 ⟨rfl, hy⟩
            rw [C1.out]
            have HY1 := Lib.hid (nx KB.out hy)
            have B1 := Lib.hid (hy)
            clear hy
            go_wp2_with fail
            refine (credits_any (zb := z0) (zo := turnL z1 len0 k) (za := (wants z0 (turnL z1 len0 k) a2 len0).set m (wi (rat (wants z0 (turnL z1 len0 k) a2 len0) m + 1))) _ (K0.out.next B1.out) (KL.out.next B1.out) (KO.out.next B1.out) hlen9 hlcm).mono ?_
            rintro e Y2 ⟨rfl, hy⟩
            rw [C2.out]
            have HY2 := Lib.hid (nx HY1.out hy)
            have B2 := Lib.hid (nx B1.out hy)
            clear hy
            rcases Nat.lt_or_ge 1 cap with hc1 | hc1
            · have hci : ¬ cap = 1 := by omega
              have KD := Lib.hid (show Rd encI Y2.heap.size Y2 (some ⟨g, 1, none⟩) (len0 - 1) ((wants z0 (turnL z1 len0 k) a2 len0).drop 1) from rd_drop1 (KA.out.next B2.out) hlen0)
              go_wp2_with fail
              refine (credits_any (zb := z0) (zo := turnL z1 len0 k) (za := (wants z0 (turnL z1 len0 k) a2 len0).drop 1) _ (K0.out.next B2.out) (KL.out.next B2.out) (KD.out) hlen9 hlcm).mono ?_
              rintro e Y3 ⟨rfl, hy⟩
              rw [C3.out]
              have HY3 := Lib.hid (nx HY2.out hy)
              have B3 := Lib.hid (nx B2.out hy)
              clear hy
              go_wp2_with fail
              refine (credits_any (zb := z0) (zo := []) (za := z0) _ (K0.out.next B3.out) (Rd.nil) (K0.out.next B3.out) hlen9 (by omega)).mono ?_
              rintro e Y4 ⟨rfl, hy⟩
              rw [C4.out]
              have HY4 := Lib.hid (nx HY3.out hy)
              have B4 := Lib.hid (nx B3.out hy)
              clear hy
              go_wp2
              go_ret
              exact ⟨rfl, HY4.out⟩
            · have hl1 : Hid (len0 = 1) := Lib.hid (by omega)
              have hci : cap = 1 := by omega
              subst hci
              have KD := Lib.hid (show Rd encI Y2.heap.size Y2 (some ⟨g, 0, none⟩) 0 ((wants z0 (turnL z1 len0 k) a2 len0).drop 1) from rd_none (by rw [List.length_drop, wants_length]; have := hl1.out; omega) rfl)
              go_wp2_with fail
              refine (credits_any (zb := z0) (zo := turnL z1 len0 k) (za := (wants z0 (turnL z1 len0 k) a2 len0).drop 1) _ (K0.out.next B2.out) (KL.out.next B2.out) (KD.out) hlen9 hlcm).mono ?_
              rintro e Y3 ⟨rfl, hy⟩
              rw [C3.out]
              have HY3 := Lib.hid (nx HY2.out hy)
              have B3 := Lib.hid (nx B2.out hy)
              clear hy
              go_wp2_with fail
              refine (credits_any (zb := z0) (zo := []) (za := z0) _ (K0.out.next B3.out) (Rd.nil) (K0.out.next B3.out) hlen9 (by omega)).mono ?_
              rintro e Y4 ⟨rfl, hy⟩
              rw [C4.out]
              have HY4 := Lib.hid (nx HY3.out hy)
              have B4 := Lib.hid (nx B3.out hy)
              clear hy
              go_wp2
              go_ret
              exact ⟨rfl, HY4.out⟩
        · have hlt3 : ¬ (k : Int) < (len1 : Int) := by omega
          obtain ⟨_, la, lc, hvl, hlc1, hlc2, _, hrl⟩ := HOL.out.rd
          subst hvl
          have HRL := Lib.hid hrl
          have hlcm : k ≤ 9223372036854775807 := by omega
          have hlen9 : len0 ≤ 9223372036854775807 := by omega
          clear hrl hlc1 hlc2
          obtain ⟨m, hm, hml⟩ : ∃ m : Nat, (x : Int) % (len0 : Int) = m ∧ m < len0 := ⟨x % len0, by simp, Nat.mod_lt _ hlen0⟩
          have HM := Lib.hid hm
          have g3 : (m : Int) < (len0 : Int) := by omega
          have HE2 := Lib.hid (own_empty (E := encI) wr wr.heap.size 2 (Nat.le_refl _))
          obtain ⟨_, _, _, hva, _, _, _, hra⟩ := HOA.out.rd
          simp only [Value.slice.injEq] at hva
          obtain ⟨rfl, _, rfl⟩ := hva
          have HRA := Lib.hid hra
          have HRE := Lib.hid (hra.next (belowA wr (.cells #[] 2)))
          have HAE := Lib.hid (show some (⟨g, 0, none⟩ : Addr) = none → len0 = 0 ∧ cap = 0 from fun e => by cases e)
          clear hra
          go_upto_region 15 with ((at_builtin; refine append_copy Try.underlying36 long_info rfl rfl _ _ rfl wr.heap.size _ 0 [] rfl HE2.out _ len0 cap (wants z0 (turnL z1 len0 k) a2 len0) rfl HAE.out HRE.out (by omega) (by omega) (by simp) ?_; intro v2 u2 hown' hgrow))
          try rw [HM.out]
          clear hm
          have hown2 : Own encI u2 wr.heap.size 2 v2 len0 (wants z0 (turnL z1 len0 k) a2 len0) := by simpa using hown'
          obtain ⟨g', cap', cur', hv', hgB', hgu', hnc', hcm', _⟩ := hown2.block hlen0
          subst hv'
          have hcap' : cap' ≤ 9223372036854775807 := by unfold maxLen at hcm'; omega
          have hbu : Below wr.heap.size wr u2 := (belowA wr (.cells #[] 2)).grown hgrow (by simp) (fun k e => by have e' : some wr.heap.size = some k := e; injection e' with e'; omega)
          obtain ⟨o1, o2, o3, o4, o5⟩ := hown2.set (j := m) (q := 0) (p := m) (z' := wi (rat (wants z0 (turnL z1 len0 k) a2 len0) m + 1)) (u := .int .i64 (wrap64 (rat (wants z0 (turnL z1 len0 k) a2 len0) m + 1))) (rat_at (by rw [wants_length]; exact hml)) (by decide) rfl (by simp [encI])
          have o3' := o3.trans (show _ = some (.int .i64 (rat (wants z0 (turnL z1 len0 k) a2 len0) m)) from rfl)
          have Q1 := Lib.hid o1
          have Q3 := Lib.hid (show Below wr.heap.size wr (u2.setCell ⟨g', m, none⟩ (.int .i64 (wrap64 (rat (wants z0 (turnL z1 len0 k) a2 len0) m + 1)))) from hbu.setCell (by simp; omega) _)
          clear o1 o3 o4 o5 hown' hgrow hown2 hbu
          go_upto_region 16 with fail
          generalize u2.setCell ⟨g', m, none⟩ (.int .i64 (wrap64 (rat (wants z0 (turnL z1 len0 k) a2 len0) m + 1))) = wq at Q1 Q3 ⊢
          clear o2 o3'
          obtain ⟨_, _, _, hvo, _, _, _, hro⟩ := Q1.out.rd
          simp only [Value.slice.injEq] at hvo
          obtain ⟨rfl, _, rfl⟩ := hvo
          have K0 := Lib.hid ((HR0.out.next (nx HW.out HB.out)).next Q3.out)
          have KA := Lib.hid (HRA.out.next Q3.out)
          have KL := Lib.hid (HRL.out.next Q3.out)
          have KO := Lib.hid hro
          have KB := Lib.hid (nx (nx HW.out HB.out) Q3.out)
          have C1 := Lib.hid (cred_wants (ns := a2) (L := turnL z1 len0 k) HL0.out)
          have C2 := Lib.hid (cred_other (ns := a2) (L := turnL z1 len0 k) HL0.out hml)
          have C3 := Lib.hid (cred_len (b := z0) (a := (wants z0 (turnL z1 len0 k) a2 len0).drop 1) (own := turnL z1 len0 k) (ns := a2) (by rw [List.length_drop, wants_length, HL0.out]; omega))
          have C4 := Lib.hid (cred_same z0 a2)
          clear hro
          have hcap1 : 1 ≤ cap := by omega
          go_wp2_with fail
          refine (credits_any (zb := z0) (zo := turnL z1 len0 k) (za := (wants z0 (turnL z1 len0 k) a2 len0)) _ (K0.out) (KL.out) (KA.out) hlen9 hlcm).mono ?_
          rintro e Y1 ⟨rfl, hy⟩
          rw [C1.out]
          have HY1 := Lib.hid (nx KB.out hy)
          have B1 := Lib.hid (hy)
          clear hy
          go_wp2_with fail
          refine (credits_any (zb := z0) (zo := turnL z1 len0 k) (za := (wants z0 (turnL z1 len0 k) a2 len0).set m (wi (rat (wants z0 (turnL z1 len0 k) a2 len0) m + 1))) _ (K0.out.next B1.out) (KL.out.next B1.out) (KO.out.next B1.out) hlen9 hlcm).mono ?_
          rintro e Y2 ⟨rfl, hy⟩
          rw [C2.out]
          have HY2 := Lib.hid (nx HY1.out hy)
          have B2 := Lib.hid (nx B1.out hy)
          clear hy
          rcases Nat.lt_or_ge 1 cap with hc1 | hc1
          · have hci : ¬ cap = 1 := by omega
            have KD := Lib.hid (show Rd encI Y2.heap.size Y2 (some ⟨g, 1, none⟩) (len0 - 1) ((wants z0 (turnL z1 len0 k) a2 len0).drop 1) from rd_drop1 (KA.out.next B2.out) hlen0)
            go_wp2_with fail
            refine (credits_any (zb := z0) (zo := turnL z1 len0 k) (za := (wants z0 (turnL z1 len0 k) a2 len0).drop 1) _ (K0.out.next B2.out) (KL.out.next B2.out) (KD.out) hlen9 hlcm).mono ?_
            rintro e Y3 ⟨rfl, hy⟩
            rw [C3.out]
            have HY3 := Lib.hid (nx HY2.out hy)
            have B3 := Lib.hid (nx B2.out hy)
            clear hy
            go_wp2_with fail
            refine (credits_any (zb := z0) (zo := []) (za := z0) _ (K0.out.next B3.out) (Rd.nil) (K0.out.next B3.out) hlen9 (by omega)).mono ?_
            rintro e Y4 ⟨rfl, hy⟩
            rw [C4.out]
            have HY4 := Lib.hid (nx HY3.out hy)
            have B4 := Lib.hid (nx B3.out hy)
            clear hy
            go_wp2
            go_ret
            exact ⟨rfl, HY4.out⟩
          · have hl1 : Hid (len0 = 1) := Lib.hid (by omega)
            have hci : cap = 1 := by omega
            subst hci
            have KD := Lib.hid (show Rd encI Y2.heap.size Y2 (some ⟨g, 0, none⟩) 0 ((wants z0 (turnL z1 len0 k) a2 len0).drop 1) from rd_none (by rw [List.length_drop, wants_length]; have := hl1.out; omega) rfl)
            go_wp2_with fail
            refine (credits_any (zb := z0) (zo := turnL z1 len0 k) (za := (wants z0 (turnL z1 len0 k) a2 len0).drop 1) _ (K0.out.next B2.out) (KL.out.next B2.out) (KD.out) hlen9 hlcm).mono ?_
            rintro e Y3 ⟨rfl, hy⟩
            rw [C3.out]
            have HY3 := Lib.hid (nx HY2.out hy)
            have B3 := Lib.hid (nx B2.out hy)
            clear hy
            go_wp2_with fail
            refine (credits_any (zb := z0) (zo := []) (za := z0) _ (K0.out.next B3.out) (Rd.nil) (K0.out.next B3.out) hlen9 (by omega)).mono ?_
            rintro e Y4 ⟨rfl, hy⟩
            rw [C4.out]
            have HY4 := Lib.hid (nx HY3.out hy)
            have B4 := Lib.hid (nx B3.out hy)
            clear hy
            go_wp2
            go_ret
            exact ⟨rfl, HY4.out⟩
  · go_enter Try.func5, Try.ntmps5
    go_wp2_with fail
    refine (shown_any _).mono ?_
    rintro e W1 ⟨rfl, hb1⟩
    have HW := Lib.hid hb1
    clear hb1
    go_wp2
    go_ret
    exact ⟨rfl, HW.out⟩

set_option maxRecDepth 100000 in
theorem lifted (os : Os) (started : os.Started) (H : Type) (enc : TypeId × Value → H) :
    ReturnsInHanded {} Try.checked os 5 .any (Rows.auditCreditsSpec.pre6 enc Try.prog Try.f5 Rows.auditCreditsRow.domain false) (Rows.auditCreditsSpec.post enc Try.prog Try.f5 false true false false) := by
  refine returnsInHanded_of_change (C := Try.checked) own started (by kernel_rfl) Try.func5
    (ChangeSpec.witness6 (enc := enc) (C := Try.checked) false ⟨#[], #[.slice none 0 0, .slice none 0 0, .int .i64 0, .int .u8 0], []⟩ 8 (by kernel_rfl) (by kernel_rfl) (by kernel_rfl) (by kernel_rfl)) ?_
  intro W base args ds gs before hval0 hW hcnd _
  have hval : ∀ (j : Nat) t v, Try.f5.params[j]? = some t → args[j]? = some v → Value.okWide Try.prog W .any base t v := hval0
  have hW' := hW
  obtain ⟨p, q, hA0, hV, rfl, hfz, hnd⟩ := hW
  have hA : DataW.TrodAll enc Try.prog W 0 (fun _ => true) true Try.f5.params.toList args.toList ds p := hA0
  rw [Try.params5] at hA hval
  obtain ⟨v0, vs0, d0, ds0, p0, q0, hargs, rfl, rfl, h0, r0⟩ := trodAll_cons hA
  obtain ⟨v1, vs1, d1, ds1, p1, q1, rfl, rfl, rfl, h1, r1⟩ := trodAll_cons r0
  obtain ⟨v2, vs2, d2, ds2, p2, q2, rfl, rfl, rfl, h2, r2⟩ := trodAll_cons r1
  obtain ⟨v3, vs3, d3, ds3, p3, q3, rfl, rfl, rfl, h3, r3⟩ := trodAll_cons r2
  obtain ⟨rfl, rfl, rfl⟩ := trodAll_nil r3
  obtain rfl : args = #[v0, v1, v2, v3] := by cases args; simp_all
  obtain ⟨rfl, rfl⟩ := trodVars_none hV
  obtain ⟨a0, len0, cap0, rfl⟩ := okWide_slice Try.underlying36 (hval 0 36 v0 rfl rfl)
  have k0 := h0
  have lt0 : ∀ x ∈ p0, x.block < W.heap.size := by obtain ⟨m, hm⟩ := k0; exact DataW.trod_lt m _ _ _ hm
  obtain ⟨z0, w0⟩ : ∃ z, IsInts W a0 len0 cap0 z := by
    obtain ⟨fuel, hf⟩ := h0
    exact open_longs hf
  obtain ⟨a1, len1, cap1, rfl⟩ := okWide_slice Try.underlying37 (hval 1 37 v1 rfl rfl)
  have k1 := h1
  have lt1 : ∀ x ∈ p1, x.block < W.heap.size := by obtain ⟨m, hm⟩ := k1; exact DataW.trod_lt m _ _ _ hm
  obtain ⟨z1, w1⟩ : ∃ z, IsBytes W a1 len1 cap1 z := by
    obtain ⟨fuel, hf⟩ := h1
    exact open_bytes hf
  obtain ⟨a2, rfl, rfl, rfl, w2⟩ := open_int Try.underlying2 (hval 2 2 v2 rfl rfl) h2
  obtain ⟨a3, rfl, rfl, rfl, w3⟩ := open_int Try.underlying5 (hval 3 5 v3 rfl rfl) h3
  clear hA0 hval0
  refine (walk a0 len0 cap0 z0 a1 len1 cap1 z1 a2 a3 W w0 w1 w2 w3).mono fun e W' ⟨he, bel⟩ => ?_
  subst he
  exact ⟨_, rfl, _, _, _, [], _, [], hW', trodAll_mk1 (shut_bool Try.underlying4 _), (trodAll_cons_mk (Below.trod laidOut (by kernel_rfl) (of_decide_eq_true (by kernel_rfl)) k0 bel lt0) (trodAll_cons_mk (Below.trod laidOut (by kernel_rfl) (of_decide_eq_true (by kernel_rfl)) k1 bel lt1) (trodAll_cons_mk (shut_int Try.underlying2 w2) (trodAll_cons_mk (shut_int Try.underlying5 w3) trodAll_mk0)))), rfl, bel.frame _, fun h => by cases h⟩

theorem over : Rows.auditCreditsRow.holds Try.pinned (OpenSpec.ofChange Rows.auditCreditsSpec) :=
  OpenClaim.holds_of_wide 5 Try.f5 rfl rfl rfl rfl rfl rfl rfl ⟨rfl, rfl, rfl, rfl, rfl⟩ rfl rfl rfl rfl rfl (by kernel_rfl) Try.func5 (by kernel_rfl)
    (of_decide_eq_true (by kernel_rfl)) (by unfold Func.isWrapper; first | (rw [if_pos (by decide +kernel)]; kernel_rfl) | (rw [if_neg (by decide +kernel)]; exact ⟨rfl, rfl⟩))
    (fun os started H enc _ => lifted os started H enc)

theorem proved : Rows.AuditCreditsSaid := over
#print axioms proved
end Go.Proofs.Ytoclkhnejanlnaa.auditCredits
