/- The reading of a set's text, function by function: figure, number, part, take. Conditions: the reading lies in a block of its own. -/
import Derived.Test.YtcboopkalpmglaaDoorProg
import Derived.Test.YtcboopkalpmglaaDoorMaskPlain
import Derived.Test.YtcboopkalpmglaaDoorKept
import Derived.Deep.QuietTactic
import Derived.BigQuiet
import Derived.IntWalk
import Derived.Deep.Cut
import Derived.Outline
import Derived.Laws.BitsAllLaws
namespace Go.Proofs.YtcboopkalpmglaaDoor
set_option linter.unusedVariables false
open Go.RowKit
/-- How a reading lies in memory. -/
def rc (r : Rdg) : Array Value := #[.int .u64 r.set, .int .i64 r.fr, .int .i64 r.n, .int .i64 r.figs, .bool r.dashed, .bool r.over]
def RdgAt (w : World) (b : Nat) (r : Rdg) : Prop := w.heap[b]? = some (.cells (rc r) 112 (0, 0))
/-- What a call does to the reading at b. -/
def Does (b : Nat) (w : World) (o : Option Rdg) (e : Ending) (w' : World) : Prop := e = .returned (.bool o.isSome) ∧ Kept b w w' ∧ ∀ q, o = some q → RdgAt w' b q
theorem does_none {b : Nat} {w w' : World} {o : Option Rdg} {e : Ending} (ho : o = none) (he : e = .returned (.bool false)) (hk : Kept b w w') : Does b w o e w' := by
  subst ho; exact ⟨he, hk, fun q h => by cases h⟩
theorem does_some {b : Nat} {w w' : World} {o : Option Rdg} {e : Ending} {q : Rdg} (ho : o = some q) (he : e = .returned (.bool true)) (hk : Kept b w w') {C : Array Value} (hb : w'.heap[b]? = some (.cells C 112 (0, 0))) (hC : C = rc q) : Does b w o e w' := by
  subst ho hC; exact ⟨he, hk, fun q h => by injection h with h; subst h; exact hb⟩
theorem kept2 {b i j : Nat} {u v : Value} (w : World) : Kept b w ((w.setCell ⟨b, i, none⟩ u).setCell ⟨b, j, none⟩ v) := ((Kept.refl b w).setCell u).setCell v
/-- The six cells. -/
structure Six (w : World) (b : Nat) (r : Rdg) : Prop where
  c0 : w.cell? ⟨b, 0, none⟩ = some (.int .u64 r.set)
  c1 : w.cell? ⟨b, 1, none⟩ = some (.int .i64 r.fr)
  c2 : w.cell? ⟨b, 2, none⟩ = some (.int .i64 r.n)
  c3 : w.cell? ⟨b, 3, none⟩ = some (.int .i64 r.figs)
  c4 : w.cell? ⟨b, 4, none⟩ = some (.bool r.dashed)
  c5 : w.cell? ⟨b, 5, none⟩ = some (.bool r.over)
  f : ∀ i, w.frozen? ⟨b, i, none⟩ = false
theorem RdgAt.six {w : World} {b : Nat} {r : Rdg} (h : RdgAt w b r) : Six w b r :=
  ⟨block_cell h rfl, block_cell h rfl, block_cell h rfl, block_cell h rfl, block_cell h rfl, block_cell h rfl, fun i => block_free h⟩
set_option maxHeartbeats 1000000 in
theorem figure_any (b c : Nat) (r : Rdg) (w : World) (h : RdgAt w b r) (hc1 : 48 ≤ c) (hc2 : c ≤ 57) (hn : r.n < 100) (hf : r.figs < 100) :
    Calls Tryd.prog 80 #[.pointer (some ⟨b, 0, none⟩), .int .i32 (c : Int)] w (Does b w (figure r c)) := by
  obtain ⟨set, fr, n, figs, dashed, over⟩ := r
  have c2 : w.cell? ⟨b, 2, none⟩ = some (.int .i64 (n : Int)) := h.six.c2
  have c3 : w.cell? ⟨b, 3, none⟩ = some (.int .i64 (figs : Int)) := h.six.c3
  have f2 : w.frozen? ⟨b, 2, none⟩ = false := h.six.f 2
  have f3 : w.frozen? ⟨b, 3, none⟩ = false := h.six.f 3
  have H := Lib.hid h
  have hn' : n < 100 := hn
  have hf' : figs < 100 := hf
  clear h hn hf
  have yes : ¬ (figs = 2 ∨ (figs = 1 ∧ n = 0)) → figure ⟨set, fr, n, figs, dashed, over⟩ c = some ⟨set, fr, 10 * n + (c - 48), figs + 1, dashed, over⟩ := fun h => by unfold figure; rw [if_neg h]
  have no : (figs = 2 ∨ (figs = 1 ∧ n = 0)) → figure ⟨set, fr, n, figs, dashed, over⟩ c = none := fun h => by unfold figure; rw [if_pos h]
  cases e2 : ((figs : Int) == 2)
  · cases e1 : ((figs : Int) == 1)
    · have HY := Lib.hid (yes (by simp at e1 e2; omega))
      clear yes no
      go_enter Tryd.func80, Tryd.ntmps80
      go_wp2
      go_ret
      exact does_some HY.out rfl (kept2 w) (block_set _ (block_set _ H.out)) (by simp [rc]; omega)
    · cases e0 : ((n : Int) == 0)
      · have HY := Lib.hid (yes (by simp at e0 e2; omega))
        clear yes no
        go_enter Tryd.func80, Tryd.ntmps80
        go_wp2
        go_ret
        exact does_some HY.out rfl (kept2 w) (block_set _ (block_set _ H.out)) (by simp [rc]; omega)
      · have HY := Lib.hid (no (by simp at e0 e1; omega))
        clear yes no
        go_enter Tryd.func80, Tryd.ntmps80
        go_wp2
        go_ret
        exact does_none HY.out rfl (Kept.refl _ _)
  · have HY := Lib.hid (no (by simp at e2; omega))
    clear yes no
    go_enter Tryd.func80, Tryd.ntmps80
    go_wp2
    go_ret
    exact does_none HY.out rfl (Kept.refl _ _)
/-- What number leaves. -/
def NumDoes (b : Nat) (w : World) (r : Rdg) (e : Ending) (w' : World) : Prop := e = .returned (.bool (decide (0 < r.figs))) ∧ Kept b w w' ∧ RdgAt w' b (numd r)
theorem num_does {b : Nat} {w w' : World} {r : Rdg} {e : Ending} {v : Bool} (he : e = .returned (.bool v)) (hv : v = decide (0 < r.figs)) (hk : Kept b w w') {C : Array Value} (hb : w'.heap[b]? = some (.cells C 112 (0, 0))) (hC : C = rc (numd r)) : NumDoes b w r e w' := by
  subst hv hC; exact ⟨he, hk, hb⟩
set_option maxHeartbeats 1000000 in
theorem number_any (b : Nat) (r : Rdg) (w : World) (h : RdgAt w b r) :
    Calls Tryd.prog 81 #[.pointer (some ⟨b, 0, none⟩)] w (NumDoes b w r) := by
  obtain ⟨set, fr, n, figs, dashed, over⟩ := r
  have c2 : w.cell? ⟨b, 2, none⟩ = some (.int .i64 (n : Int)) := h.six.c2
  have c3 : w.cell? ⟨b, 3, none⟩ = some (.int .i64 (figs : Int)) := h.six.c3
  have c5 : w.cell? ⟨b, 5, none⟩ = some (.bool over) := h.six.c5
  have f2 : w.frozen? ⟨b, 3, none⟩ = false := h.six.f 3
  have f3 : w.frozen? ⟨b, 5, none⟩ = false := h.six.f 5
  have H := Lib.hid h
  clear h
  cases over
  all_goals
    go_enter Tryd.func81, Tryd.ntmps81
    go_wp2
    go_ret
    exact num_does rfl (by simp) (kept2 w) (block_set _ (block_set _ H.out)) (by simp [rc, numd] <;> omega)
theorem or_shl {x p : Nat} (hx : x < 18446744073709551616) (hp : p < 64) : bits .or .u64 (x : Int) (IntKind.u64.wrap (2 ^ p)) = ((x ||| 2 ^ p : Nat) : Int) := by
  have h : (2 : Int) ^ p = ((2 ^ p : Nat) : Int) := by simp
  have hlt : 2 ^ p < 18446744073709551616 := (Nat.pow_lt_pow_right (by decide) hp : 2 ^ p < 2 ^ 64)
  have hw : ∀ X : Nat, X < 18446744073709551616 → (X : Int) % 18446744073709551616 = X := fun X h => by omega
  rw [IntKind.wrap_u64, h, hw _ hlt]
  exact u64_or_nat _ _ hx hlt
theorem rdg_or {w : World} {b p set fr n figs : Nat} {dashed over : Bool} (h : RdgAt w b ⟨set, fr, n, figs, dashed, over⟩) (hs : set < 18446744073709551616) (hp : p < 64) :
    RdgAt (w.setCell ⟨b, 0, none⟩ (.int .u64 (bits .or .u64 (set : Int) (IntKind.u64.wrap (2 ^ p))))) b ⟨set ||| 2 ^ p, fr, n, figs, dashed, over⟩ := by
  rw [or_shl hs hp]; exact block_set _ h
theorem span_step {fr n p : Nat} (set : Nat) (h1 : fr ≤ p) (h2 : p ≤ n) : set ||| spanTo fr n (p + 1) = (set ||| spanTo fr n p) ||| 2 ^ p := by
  rw [spanTo, if_pos ⟨h1, h2⟩, or_pow (spanTo_lt fr n p), Nat.or_assoc]
theorem span_start {fr n : Nat} (set : Nat) : set ||| spanTo fr n fr = set := by
  refine Nat.eq_of_testBit_eq fun q => ?_
  rw [Nat.testBit_or, spanTo_bit]
  have : (decide (q < fr) && (decide (fr ≤ q) && decide (q ≤ n))) = false := by simp; omega
  rw [this, Bool.or_false]
theorem span_end {fr n : Nat} (hn : n ≤ 63) : spanTo fr n (n + 1) = span fr n := by
  refine Nat.eq_of_testBit_eq fun q => ?_
  rw [spanTo_bit, span_bit, Bool.eq_iff_iff]
  simp
  omega
set_option maxHeartbeats 2000000 in
theorem part_any (b : Nat) (r : Rdg) (w : World) (h : RdgAt w b r) (hn : r.n < 100) (hfr : r.fr < 100) (hs : r.set < 18446744073709551616) :
    Calls Tryd.prog 65 #[.pointer (some ⟨b, 0, none⟩)] w (Does b w (part r)) := by
  by_cases h0 : r.figs = 0
  · have HY := Lib.hid (show part r = none by unfold part; rw [if_pos h0])
    have HD := Lib.hid (show decide (0 < r.figs) = false by simp [h0])
    have H := Lib.hid h
    clear h h0
    go_enter Tryd.func65, Tryd.ntmps65
    go_wp2_with fail
    refine (number_any b r w H.out).mono ?_
    rintro e w1 ⟨rfl, hk, h1⟩
    rw [HD.out]
    have HK := Lib.hid hk
    clear hk h1
    go_wp2
    go_ret
    exact does_none HY.out rfl HK.out
  · have hd1 : decide (0 < r.figs) = true := by simp; omega
    obtain ⟨set, fr, n, figs, dashed, over⟩ := r
    have HD := Lib.hid hd1
    have H := Lib.hid h
    have hn' : n < 100 := hn
    have hf' : fr < 100 := hfr
    have hs' : set < 18446744073709551616 := hs
    have HY := Lib.hid (show part ⟨set, fr, n, figs, dashed, over⟩ = _ from if_neg h0)
    clear h h0 hd1 hn hfr hs
    go_enter Tryd.func65, Tryd.ntmps65
    go_wp2_with fail
    refine (number_any b _ w H.out).mono ?_
    rintro e w1 ⟨rfl, hk, h1⟩
    rw [HD.out]
    have HK := Lib.hid hk
    have H1 := Lib.hid (show RdgAt w1 b ⟨set, fr, n, 0, dashed, over || decide (64 ≤ n)⟩ from h1)
    clear hk h1
    obtain ⟨ov, hov⟩ : ∃ ov, (over || decide (64 ≤ n)) = ov := ⟨_, rfl⟩
    have HO := Lib.hid hov
    rw [hov] at HY H1
    clear hov
    have c4 : w1.cell? ⟨b, 4, none⟩ = some (.bool dashed) := H1.out.six.c4
    have d2 : w1.cell? ⟨b, 2, none⟩ = some (.int .i64 (n : Int)) := H1.out.six.c2
    have d1 : w1.cell? ⟨b, 1, none⟩ = some (.int .i64 (fr : Int)) := H1.out.six.c1
    have f1 : w1.frozen? ⟨b, 1, none⟩ = false := H1.out.six.f 1
    cases dashed
    · go_upto_region 5 with fail
      have H2 := Lib.hid (show RdgAt (w1.setCell ⟨b, 1, none⟩ (.int .i64 (n : Int))) b ⟨set, n, n, 0, false, ov⟩ from block_set _ H1.out)
      have HK2 := Lib.hid (HK.out.setCell (i := 1) (.int .i64 (n : Int)))
      have HY2 := Lib.hid (show part ⟨set, fr, n, figs, false, over⟩ = some (partSet ⟨set, fr, n, figs, false, over⟩ n (ov || decide (n < n))) from HY.out)
      clear HY H1 HK c4 d1 d2 f1
      generalize w1.setCell ⟨b, 1, none⟩ (.int .i64 (n : Int)) = w2 at H2 HK2 ⊢
      obtain ⟨f, rfl⟩ : ∃ f, f = n := ⟨n, rfl⟩
      have c0 : w2.cell? ⟨b, 0, none⟩ = some (.int .u64 (set : Int)) := H2.out.six.c0
      have c1 : w2.cell? ⟨b, 1, none⟩ = some (.int .i64 (f : Int)) := H2.out.six.c1
      have c2 : w2.cell? ⟨b, 2, none⟩ = some (.int .i64 (f : Int)) := H2.out.six.c2
      have c5 : w2.cell? ⟨b, 5, none⟩ = some (.bool ov) := H2.out.six.c5
      have c4 : w2.cell? ⟨b, 4, none⟩ = some (.bool false) := H2.out.six.c4
      have f0 : w2.frozen? ⟨b, 0, none⟩ = false := H2.out.six.f 0
      have f2 : w2.frozen? ⟨b, 2, none⟩ = false := H2.out.six.f 2
      have f4 : w2.frozen? ⟨b, 4, none⟩ = false := H2.out.six.f 4
      have f5 : w2.frozen? ⟨b, 5, none⟩ = false := H2.out.six.f 5
      have hx : decide (f < f) = false := by simp
      have HX := Lib.hid hx
      clear hx
      cases ov
      · go_quiet (fail)
        go_wp2_with fail
        have HK3 := Lib.hid (HK2.out.drewN nq)
        have H3 := Lib.hid (show RdgAt (w2.drewN nq) b ⟨set, f, f, 0, false, false⟩ from H2.out)
        clear c0 c1 c2 c4 c5 f0 f2 f4 f5 H2 HK2
        generalize w2.drewN nq = w3 at HK3 H3 ⊢
        have hn63 : f ≤ 63 := by have := HO.out; simp at this; omega
        go_loopw [3] (fun i wr => ∃ p : Nat, f ≤ p ∧ p ≤ f + 1 ∧ i = .int .i64 p ∧ Kept b w wr ∧ RdgAt wr b ⟨set ||| spanTo f f p, f, f, 0, false, false⟩) (fun i _ => f + 1 - (intOf i).toNat)
        case atStart => exact ⟨f, Nat.le_refl _, by omega, rfl, HK3.out, by rw [span_start]; exact H3.out⟩
        case round =>
          obtain ⟨p, hp1, hp2, rfl, hk, hr⟩ := hrel
          have HKr := Lib.hid hk
          have HRr := Lib.hid hr
          have hlt : set ||| spanTo f f p < 18446744073709551616 := or_lt hs' (Nat.lt_of_lt_of_le (spanTo_lt f f p) (show 2 ^ p ≤ 2 ^ 64 from Nat.pow_le_pow_right (by omega) (by omega)))
          have e0 : wr.cell? ⟨b, 0, none⟩ = some (.int .u64 ((set ||| spanTo f f p : Nat) : Int)) := hr.six.c0
          have e2 : wr.cell? ⟨b, 2, none⟩ = some (.int .i64 (f : Int)) := hr.six.c2
          have e4 : wr.cell? ⟨b, 4, none⟩ = some (.bool false) := hr.six.c4
          have g0 : wr.frozen? ⟨b, 0, none⟩ = false := hr.six.f 0
          have g2 : wr.frozen? ⟨b, 2, none⟩ = false := hr.six.f 2
          have g4 : wr.frozen? ⟨b, 4, none⟩ = false := hr.six.f 4
          clear hk hr
          by_cases hlt2 : p ≤ f
          · have hlt3 : (p : Int) ≤ (f : Int) := by omega
            go_wp2
            go_roundw
            case rel => exact ⟨p + 1, by omega, by omega, by go_num, HKr.out.setCell _, by rw [span_step set hp1 hlt2]; exact rdg_or HRr.out hlt (by omega)⟩
            case measure => simp [intOf]; omega
          · have hlt3 : ¬ (p : Int) ≤ (f : Int) := by omega
            go_wp2
            go_ret
            obtain rfl : p = f + 1 := by omega
            exact does_some HY2.out rfl ((HKr.out.setCell _).setCell _) (block_set _ (block_set _ HRr.out)) (by simp [rc, partSet, span_end hn63])
      · go_quiet (fail)
        go_wp2
        go_ret
        exact does_some HY2.out rfl (((HK2.out.drewN _).setCell _).setCell _) (block_set _ (block_set _ (block_drewN H2.out))) (by simp [rc, partSet])
    · go_upto_region 5 with fail
      obtain ⟨f, rfl⟩ : ∃ f, f = fr := ⟨fr, rfl⟩
      have H2 := Lib.hid (show RdgAt w1 b ⟨set, f, n, 0, true, ov⟩ from H1.out)
      have HK2 := Lib.hid HK.out
      have HY2 := Lib.hid (show part ⟨set, f, n, figs, true, over⟩ = some (partSet ⟨set, f, n, figs, true, over⟩ f (ov || decide (n < f))) from HY.out)
      clear HY H1 HK c4 d1 d2 f1
      generalize w1 = w2 at H2 HK2 ⊢
      have c0 : w2.cell? ⟨b, 0, none⟩ = some (.int .u64 (set : Int)) := H2.out.six.c0
      have c1 : w2.cell? ⟨b, 1, none⟩ = some (.int .i64 (f : Int)) := H2.out.six.c1
      have c2 : w2.cell? ⟨b, 2, none⟩ = some (.int .i64 (n : Int)) := H2.out.six.c2
      have c5 : w2.cell? ⟨b, 5, none⟩ = some (.bool ov) := H2.out.six.c5
      have c4 : w2.cell? ⟨b, 4, none⟩ = some (.bool true) := H2.out.six.c4
      have f0 : w2.frozen? ⟨b, 0, none⟩ = false := H2.out.six.f 0
      have f2 : w2.frozen? ⟨b, 2, none⟩ = false := H2.out.six.f 2
      have f4 : w2.frozen? ⟨b, 4, none⟩ = false := H2.out.six.f 4
      have f5 : w2.frozen? ⟨b, 5, none⟩ = false := H2.out.six.f 5
      by_cases hl : n < f
      · have hl' : (n : Int) < (f : Int) := by omega
        have HL := Lib.hid (show decide (n < f) = true by simpa using hl)
        go_quiet (fail)
        go_wp2
        go_ret
        exact does_some HY2.out rfl ((((HK2.out.drewN _).setCell _).setCell _).setCell _) (block_set _ (block_set _ (block_set _ (block_drewN H2.out)))) (by simp [rc, partSet, HL.out])
      · have hl' : ¬ (n : Int) < (f : Int) := by omega
        have HX := Lib.hid (show decide (n < f) = false by simpa using hl)
        cases ov
        · go_quiet (fail)
          go_wp2_with fail
          have HK3 := Lib.hid (HK2.out.drewN nq)
          have H3 := Lib.hid (show RdgAt (w2.drewN nq) b ⟨set, f, n, 0, true, false⟩ from H2.out)
          clear c0 c1 c2 c4 c5 f0 f2 f4 f5 H2 HK2
          generalize w2.drewN nq = w3 at HK3 H3 ⊢
          have hn63 : n ≤ 63 := by have := HO.out; simp at this; omega
          go_loopw [3] (fun i wr => ∃ p : Nat, f ≤ p ∧ p ≤ n + 1 ∧ i = .int .i64 p ∧ Kept b w wr ∧ RdgAt wr b ⟨set ||| spanTo f n p, f, n, 0, true, false⟩) (fun i _ => n + 1 - (intOf i).toNat)
          case atStart => exact ⟨f, Nat.le_refl _, by omega, rfl, HK3.out, by rw [span_start]; exact H3.out⟩
          case round =>
            obtain ⟨p, hp1, hp2, rfl, hk, hr⟩ := hrel
            have HKr := Lib.hid hk
            have HRr := Lib.hid hr
            have hlt : set ||| spanTo f n p < 18446744073709551616 := or_lt hs' (Nat.lt_of_lt_of_le (spanTo_lt f n p) (show 2 ^ p ≤ 2 ^ 64 from Nat.pow_le_pow_right (by omega) (by omega)))
            have e0 : wr.cell? ⟨b, 0, none⟩ = some (.int .u64 ((set ||| spanTo f n p : Nat) : Int)) := hr.six.c0
            have e2 : wr.cell? ⟨b, 2, none⟩ = some (.int .i64 (n : Int)) := hr.six.c2
            have e4 : wr.cell? ⟨b, 4, none⟩ = some (.bool true) := hr.six.c4
            have g0 : wr.frozen? ⟨b, 0, none⟩ = false := hr.six.f 0
            have g2 : wr.frozen? ⟨b, 2, none⟩ = false := hr.six.f 2
            have g4 : wr.frozen? ⟨b, 4, none⟩ = false := hr.six.f 4
            clear hk hr
            by_cases hlt2 : p ≤ n
            · have hlt3 : (p : Int) ≤ (n : Int) := by omega
              go_wp2
              go_roundw
              case rel => exact ⟨p + 1, by omega, by omega, by go_num, HKr.out.setCell _, by rw [span_step set hp1 hlt2]; exact rdg_or HRr.out hlt (by omega)⟩
              case measure => simp [intOf]; omega
            · have hlt3 : ¬ (p : Int) ≤ (n : Int) := by omega
              go_wp2
              go_ret
              obtain rfl : p = n + 1 := by omega
              exact does_some HY2.out rfl ((HKr.out.setCell _).setCell _) (block_set _ (block_set _ HRr.out)) (by simp [rc, partSet, HX.out, span_end hn63])
        · go_quiet (fail)
          go_wp2
          go_ret
          exact does_some HY2.out rfl (((HK2.out.drewN _).setCell _).setCell _) (block_set _ (block_set _ (block_drewN H2.out))) (by simp [rc, partSet])
theorem partSet_lt {r : Rdg} {f : Nat} {o : Bool} (h : r.set < 18446744073709551616) : (partSet r f o).set < 18446744073709551616 := by
  unfold partSet
  dsimp only
  split
  · exact h
  · exact or_lt h (span_lt _ _)
/-- What a reading may be. -/
def Fits (r : Rdg) : Prop := r.n < 100 ∧ r.figs ≤ 2 ∧ r.fr < 100 ∧ r.set < 18446744073709551616 ∧ (r.figs = 0 → r.n = 0) ∧ (r.figs = 1 → r.n < 10)
theorem fits_take {r q : Rdg} {c : Nat} (h : Fits r) (e : take1 r c = some q) : Fits q := by
  obtain ⟨h1, h2, h3, h4, h5, h6⟩ := h
  unfold take1 at e
  by_cases c1 : 48 ≤ c ∧ c ≤ 57
  · rw [if_pos c1] at e
    unfold figure at e
    by_cases g : r.figs = 2 ∨ (r.figs = 1 ∧ r.n = 0)
    · rw [if_pos g] at e; cases e
    · rw [if_neg g] at e
      injection e with e
      subst e
      unfold Fits
      dsimp only
      refine ⟨?_, by omega, h3, h4, by omega, ?_⟩
      · by_cases f0 : r.figs = 0
        · have := h5 f0; omega
        · have := h6 (by omega); omega
      · intro f1
        have := h5 (by omega)
        omega
  · rw [if_neg c1] at e
    by_cases c2 : c = 44
    · rw [if_pos c2] at e
      unfold part at e
      by_cases h0 : r.figs = 0
      · rw [if_pos h0] at e; cases e
      · rw [if_neg h0] at e
        injection e with e
        subst e
        exact ⟨by simp [partSet], by simp [partSet], by simp only [partSet]; split <;> omega, partSet_lt h4, fun _ => rfl, fun _ => by simp [partSet]⟩
    · rw [if_neg c2] at e
      by_cases g : c = 45 ∧ r.dashed = false ∧ r.figs ≠ 0
      · rw [if_pos g] at e
        injection e with e
        subst e
        exact ⟨by simp, by simp [numd], h1, h4, fun _ => rfl, fun _ => by simp⟩
      · rw [if_neg g] at e; cases e
theorem fits_run {r q : Rdg} {l : List Nat} (h : Fits r) (e : runL r l = some q) : Fits q := by
  induction l generalizing r with
  | nil => injection e with e; subst e; exact h
  | cons c l ih =>
    rw [runL, Option.bind_eq_some_iff] at e
    obtain ⟨x, h1, h2⟩ := e
    exact ih (fits_take h h1) h2
set_option maxHeartbeats 2000000 in
theorem take_any (b c : Nat) (r : Rdg) (w : World) (h : RdgAt w b r) (hf : Fits r) (hc : c < 2147483648) :
    Calls Tryd.prog 64 #[.pointer (some ⟨b, 0, none⟩), .int .i32 (c : Int)] w (Does b w (take1 r c)) := by
  obtain ⟨h1, h2, h3, h4, _, _⟩ := hf
  have H := Lib.hid h
  by_cases c1 : 48 ≤ c ∧ c ≤ 57
  · have HY := Lib.hid (show take1 r c = figure r c by unfold take1; rw [if_pos c1])
    have g1 : (48 : Int) ≤ (c : Int) := by omega
    have g2 : (c : Int) ≤ 57 := by omega
    clear h
    go_enter Tryd.func64, Tryd.ntmps64
    go_wp2_with fail
    refine (figure_any b c r w H.out c1.1 c1.2 h1 (by omega)).mono ?_
    rintro e w1 ⟨rfl, h2⟩
    have H2 := Lib.hid h2
    clear h2
    go_wp2
    go_ret
    rw [HY.out]
    exact ⟨rfl, H2.out⟩
  · by_cases c2 : c = 44
    · subst c2
      have HY := Lib.hid (show take1 r 44 = part r by unfold take1; rw [if_neg c1, if_pos rfl])
      clear h c1
      go_enter Tryd.func64, Tryd.ntmps64
      go_wp2_with fail
      refine (part_any b r w H.out h1 h3 h4).mono ?_
      rintro e w1 ⟨rfl, h2⟩
      have H2 := Lib.hid h2
      clear h2
      go_wp2
      go_ret
      rw [HY.out]
      exact ⟨rfl, H2.out⟩
    · have t44 : ((c : Int) == 44) = false := by simp; omega
      have none' : ¬ (c = 45 ∧ r.dashed = false ∧ r.figs ≠ 0) → take1 r c = none := fun h => by unfold take1; rw [if_neg c1, if_neg c2, if_neg h]
      by_cases c3 : c = 45
      · subst c3
        obtain ⟨set, fr, n, figs, dashed, over⟩ := r
        have e4 : w.cell? ⟨b, 4, none⟩ = some (.bool dashed) := h.six.c4
        clear h c1 c2 t44
        cases dashed
        · by_cases hz : figs = 0
          · have HY := Lib.hid (none' (by simp [hz]))
            have HD := Lib.hid (show decide (0 < figs) = false by simp [hz])
            clear none' hz
            go_enter Tryd.func64, Tryd.ntmps64
            go_wp2_with fail
            refine (number_any b _ w H.out).mono ?_
            rintro e w1 ⟨rfl, hk, hr⟩
            rw [HD.out]
            have HK := Lib.hid hk
            clear hk hr
            go_wp2
            go_ret
            exact does_none HY.out rfl HK.out
          · have HY := Lib.hid (show take1 ⟨set, fr, n, figs, false, over⟩ 45 = some { numd ⟨set, fr, n, figs, false, over⟩ with fr := n, n := 0, dashed := true } from by
              unfold take1; rw [if_neg (by omega), if_neg (by omega), if_pos ⟨rfl, rfl, hz⟩])
            have HD := Lib.hid (show decide (0 < figs) = true by simp; omega)
            clear none' hz
            go_enter Tryd.func64, Tryd.ntmps64
            go_wp2_with fail
            refine (number_any b _ w H.out).mono ?_
            rintro e w1 ⟨rfl, hk, hr⟩
            rw [HD.out]
            have HK := Lib.hid hk
            have HR := Lib.hid hr
            have d1 : w1.cell? ⟨b, 1, none⟩ = some (.int .i64 (fr : Int)) := hr.six.c1
            have d2 : w1.cell? ⟨b, 2, none⟩ = some (.int .i64 (n : Int)) := hr.six.c2
            have d4 : w1.cell? ⟨b, 4, none⟩ = some (.bool false) := hr.six.c4
            have f1 : w1.frozen? ⟨b, 1, none⟩ = false := hr.six.f 1
            have f2 : w1.frozen? ⟨b, 2, none⟩ = false := hr.six.f 2
            have f4 : w1.frozen? ⟨b, 4, none⟩ = false := hr.six.f 4
            clear hk hr e4
            go_wp2
            go_ret
            exact does_some HY.out rfl (((HK.out.setCell _).setCell _).setCell _) (block_set _ (block_set _ (block_set _ HR.out))) (by simp [rc, numd])
        · have HY := Lib.hid (none' (by simp))
          clear none'
          go_enter Tryd.func64, Tryd.ntmps64
          go_wp2
          go_ret
          exact does_none HY.out rfl (Kept.refl _ _)
      · have HY := Lib.hid (none' fun h => c3 h.1)
        have t45 : ((c : Int) == 45) = false := by simp; omega
        clear none' h
        rcases Nat.lt_or_ge c 48 with c4 | c4
        · have g1 : ¬ (48 : Int) ≤ (c : Int) := by omega
          clear c1 c2 c3
          go_enter Tryd.func64, Tryd.ntmps64
          go_wp2
          go_ret
          exact does_none HY.out rfl (Kept.refl _ _)
        · have g1 : (48 : Int) ≤ (c : Int) := by omega
          have g2 : ¬ (c : Int) ≤ 57 := by omega
          clear c1 c2 c3
          go_enter Tryd.func64, Tryd.ntmps64
          go_wp2
          go_ret
          exact does_none HY.out rfl (Kept.refl _ _)
end Go.Proofs.YtcboopkalpmglaaDoor
