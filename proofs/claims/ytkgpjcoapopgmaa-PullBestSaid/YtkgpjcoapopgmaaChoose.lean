/- pull.Choose and pull.After, the cut to a hundred, the distance of two loads, and the head of all statements. Conditions: the slice reads as a list of tasks within the reach; the numbers are within their kinds. -/
import Derived.Test.YtkgpjcoapopgmaaPickH
import Derived.Test.YtkgpjcoapopgmaaPickL
import Derived.Laws.EntriesVeiled
namespace Go.Proofs.Ytkgpjcoapopgmaa
set_option linter.unusedVariables false
open Go.RowKit
theorem cnewb {W : World} {cs : Array Value} {t b j : Nat} (h : b = W.heap.size) : (W.alloc (.cells cs t)).cell? ⟨b, j, none⟩ = cs[j]? := by subst h; exact World.cell?_alloc_at cs t _ j rfl
theorem gap_bd {a b : Int} (ha : U64 a) (hb : U64 b) : U64 (gapI a b) := by
  unfold gapI U64 at *; split <;> omega
theorem heavyOf_bd (zs : List Cd) (gap p : Int) : heavyOf zs gap p = -1 ∨ ∃ k : Nat, heavyOf zs gap p = k ∧ k < zs.length := bestTo_bd _ _ _ _

set_option maxRecDepth 100000 in
set_option maxHeartbeats 4000000 in
theorem choose_any (a : Option Addr) (len cap : Nat) (zs : List Cd) (fr to p : Int) (w : World) (hl : zs.length = len) (hI : Cds w.heap.size w (.slice a len cap) zs) (hok : CdsOk zs) (hlen : len ≤ 1000) (hf : U64 fr) (ht : U64 to) :
    Calls Try.prog 11 #[.slice a len cap, .int .u64 fr, .int .u64 to, .int .i64 p] w fun e w' => (∃ u v, e = .returned (.tuple #[u, v]) ∧ Slots (chosen zs (gapI fr to) p) len u v) ∧ Below w.heap.size w w' := by
  have HI := Lib.hid hI
  have HL := Lib.hid hl
  have HOK := Lib.hid hok
  have hg := gap_bd hf ht
  obtain ⟨hg0, hg1⟩ := hg
  have HCH := Lib.hid (show chosen zs (gapI fr to) p = if 0 ≤ heavyOf zs (gapI fr to) p then heavyOf zs (gapI fr to) p else lightOf zs (gapI fr to) p from rfl)
  have HHV := Lib.hid (heavyOf_bd zs (gapI fr to) p)
  have HGP := Lib.hid (gap_any fr to · hf.1 ht.1 hf.2 ht.2)
  clear hI hl hok hf ht
  generalize gapI fr to = gap at *
  go_enter Try.func11, Try.ntmps11
  go_wp2_with fail
  refine (HGP.out _).mono ?_
  rintro e w' ⟨rfl, rfl⟩
  go_wp2_with fail
  have bA : Below w.heap.size w (w.alloc (.cells #[.int .i64 p] 3)) := (Below.refl _ _).alloc (Nat.le_refl _) _
  obtain ⟨V, hV⟩ : ∃ V, (((w.alloc (.cells #[.int .i64 p] 3)).alloc (.cells #[.int .u64 gap] 23)).alloc (.cells #[.func (.func 20) #[] #[.pointer (some ⟨w.heap.size + 1, 0, none⟩), .pointer (some ⟨w.heap.size, 0, none⟩)]] 41)).alloc (.cells #[.func (.func 22) #[] #[]] 43) = V := ⟨_, rfl⟩
  have hbV : Below w.heap.size w V := by rw [← hV]; exact (((bA.alloc (by simp) _).alloc (by simp <;> omega) _).alloc (by simp <;> omega) _)
  have h1 : V.cell? ⟨w.heap.size, 0, none⟩ = some (.int .i64 p) := by
    rw [← hV]; exact cella _ (by simp <;> omega) (cella _ (by simp <;> omega) (cella _ (by simp <;> omega) ((cnewb rfl).trans rfl)))
  have h2 : V.cell? ⟨w.heap.size + 1, 0, none⟩ = some (.int .u64 gap) := by
    rw [← hV]; exact cella _ (by simp <;> omega) (cella _ (by simp <;> omega) ((cnewb (by simp)).trans rfl))
  have h3 : V.cell? ⟨w.heap.size + 1 + 1, 0, none⟩ = some (.func (.func 20) #[] #[.pointer (some ⟨w.heap.size + 1, 0, none⟩), .pointer (some ⟨w.heap.size, 0, none⟩)]) := by
    rw [← hV]; exact cella _ (by simp <;> omega) ((cnewb (by simp)).trans rfl)
  have h4 : V.cell? ⟨w.heap.size + 1 + 1 + 1, 0, none⟩ = some (.func (.func 22) #[] #[]) := by
    rw [← hV]; exact (cnewb (by simp)).trans rfl
  have hsV : w.heap.size + 4 ≤ V.heap.size := by rw [← hV]; simp <;> omega
  have HIV := Lib.hid (Cds.next hbV HI.out)
  rw [hV]
  clear hV bA
  refine (heavy_best_any a len cap zs gap p _ _ _ (w.heap.size + 1 + 1 + 1) _ HL.out HIV.out HOK.out hlen hg0 (by omega) h2 h1 h3 h4).mono ?_
  rintro e w2 ⟨⟨u, v, rfl, hs⟩, hb2⟩
  have HIV2 := Lib.hid (Cds.next hb2 HIV.out)
  have g1 := cellb hb2 (by omega) h1
  have g2 := cellb hb2 (by omega) h2
  have g3 := cellb hb2 (by omega) h3
  have g4 := cellb hb2 (by omega) h4
  have HB2 := Lib.hid (nx hbV hb2)
  have hs2 := hb2.size
  have HS := Lib.hid (show bestTo (halfP zs gap p) (hK zs) (iK zs) len = heavyOf zs gap p by unfold heavyOf; rw [HL.out])
  clear hb2 hbV h1 h2 h3 h4
  rw [HS.out] at hs
  rcases hs with ⟨q1, rfl, rfl⟩ | ⟨q, q1, q2, rfl, rfl⟩
  · have HC := Lib.hid (show chosen zs gap p = lightOf zs gap p by rw [HCH.out, q1, if_neg (by omega)])
    clear q1
    go_wp2_with fail
    refine (light_best_any a len cap zs gap p (w.heap.size + 1 + 1) _ _ _ _ HL.out HIV2.out HOK.out hlen hg0 (by omega) g2 g1 g3 g4).mono ?_
    rintro e w3 ⟨⟨u, v, rfl, hs⟩, hb3⟩
    have HB3 := Lib.hid (nx HB2.out hb3)
    have HSS := Lib.hid hs
    clear hb3 hs g1 g2 g3 g4
    go_wp2
    go_ret2
    refine ⟨⟨_, _, rfl, ?_⟩, HB3.out⟩
    have := HSS.out
    rw [HC.out]; unfold lightOf; rw [HL.out]; exact this
  · have HC := Lib.hid (show chosen zs gap p = q by rw [HCH.out, q1, if_pos (by omega)])
    clear q1 g1 g2 g3 g4
    go_wp2
    go_ret2
    exact ⟨⟨_, _, rfl, .inr ⟨q, HC.out, q2, rfl, rfl⟩⟩, HB2.out⟩

theorem after_any (fr to x : Int) (w : World) (hf : U64 fr) (ht : U64 to) (hx : U64 x) :
    Calls Try.prog 14 #[.int .u64 fr, .int .u64 to, .int .u64 x] w fun e w' => e = .returned (.tuple #[.int .u64 (gapI fr x), .int .u64 (sat2 to x)]) ∧ Below w.heap.size w w' := by
  have HGP := Lib.hid (gap_any fr x · hf.1 hx.1 hf.2 hx.2)
  go_enter Try.func14, Try.ntmps14
  go_wp2_with fail
  refine (HGP.out _).mono ?_
  rintro e w' ⟨rfl, rfl⟩
  go_wp2_with fail
  refine (sum2_any _ _ to x _ ht hx (by simp) (by simp)).mono ?_
  rintro e w' ⟨rfl, rfl⟩
  go_wp2
  go_ret2
  exact ⟨rfl, (Below.refl _ _).alloc (Nat.le_refl _) _⟩
theorem refAfter_any (fr to x : Int) (w : World) (hf : U64 fr) (ht : U64 to) (hx : U64 x) :
    Calls Try.prog 15 #[.int .u64 fr, .int .u64 to, .int .u64 x] w fun e w' => e = .returned (.tuple #[.int .u64 (gapI fr x), .int .u64 (sat2 to x)]) ∧ Below w.heap.size w w' := by
  have HGP := Lib.hid (refGap_any fr x · hf.1 hx.1 hf.2 hx.2)
  go_enter Try.func15, Try.ntmps15
  go_wp2_with fail
  refine (HGP.out _).mono ?_
  rintro e w' ⟨rfl, rfl⟩
  go_wp2_with fail
  refine (refSum2_any _ _ to x _ ht hx (by simp) (by simp)).mono ?_
  rintro e w' ⟨rfl, rfl⟩
  go_wp2
  go_ret2
  exact ⟨rfl, (Below.refl _ _).alloc (Nat.le_refl _) _⟩
/-- How far two are apart. -/
def diffI (a b : Int) : Int := if b ≤ a then a - b else b - a
theorem diff_any (a b : Int) (w : World) (ha : U64 a) (hb : U64 b) : Calls Try.prog 18 #[.int .u64 a, .int .u64 b] w fun e w' => e = .returned (.int .u64 (diffI a b)) ∧ w = w' := by
  obtain ⟨ha0, ha1⟩ := ha
  obtain ⟨hb0, hb1⟩ := hb
  by_cases h : b ≤ a
  · have HD := Lib.hid (show diffI a b = a - b by unfold diffI; rw [if_pos h])
    by_cases h2 : a = b
    · subst h2
      have h0 : a - a = 0 := by omega
      have HD2 := Lib.hid (show diffI a a = 0 by rw [HD.out]; omega)
      go_enter Try.func18, Try.ntmps18
      go_wp2
      go_ret
      exact ⟨by rw [HD2.out]; simp, rfl⟩
    · have h3 : b < a := by omega
      have h4 : ¬ a < b := by omega
      go_enter Try.func18, Try.ntmps18
      go_wp2
      all_goals first | omega | (go_ret; exact ⟨by rw [HD.out]; rfl, rfl⟩)
  · have HD := Lib.hid (show diffI a b = b - a by unfold diffI; rw [if_neg h])
    have h3 : a < b := by omega
    go_enter Try.func18, Try.ntmps18
    go_wp2
    all_goals first | omega | (go_ret; exact ⟨by rw [HD.out]; rfl, rfl⟩)
theorem few_any (a : Option Addr) (len cap : Nat) (w : World) (hlc : len ≤ cap) (hcap : cap ≤ 9223372036854775807) (hnil : a = none → len = 0) :
    Calls Try.prog 10 #[.slice a len cap] w fun e w' => e = .returned (.slice a (min len 100) cap) ∧ w = w' := by
  by_cases h : len ≤ 100
  · have hm : min len 100 = len := by omega
    rw [hm]; clear hm
    have hn : ¬ (100 : Int) < (len : Int) := by omega
    go_enter Try.func10, Try.ntmps10
    go_wp2
    go_ret
    exact ⟨rfl, rfl⟩
  · have hm : min len 100 = 100 := by omega
    have HM := Lib.hid hm; clear hm
    have hn : (100 : Int) < (len : Int) := by omega
    have hc : (100 : Nat) ≤ cap := by omega
    obtain ⟨x, rfl⟩ : ∃ x, a = some x := by
      cases a with
      | none => have := hnil rfl; omega
      | some x => exact ⟨x, rfl⟩
    go_enter Try.func10, Try.ntmps10
    go_wp2
    go_ret
    exact ⟨by rw [HM.out]; rfl, rfl⟩
theorem Cds.new2 (w : World) (x y : Cd) : Cds (w.heap.size + 1) (w.alloc (.cells #[.int .i64 x.id, .int .u64 x.w, .int .u64 x.m, .bool x.r, .int .i64 y.id, .int .u64 y.w, .int .u64 y.m, .bool y.r] 35)) (.slice (some ⟨w.heap.size, 0, none⟩) 2 2) [x, y] :=
  .inr ⟨w.heap.size, 0, 2, rfl, by omega, fun j hj => by
    have h : j = 0 ∨ j = 1 := by simp at hj; omega
    rcases h with rfl | rfl <;> simp [cat]⟩
theorem ok2 {x y : Cd} (hx : CdOk x) (hy : CdOk y) : CdsOk [x, y] := fun k => by
  match k with
  | 0 => exact hx
  | 1 => exact hy
  | k + 2 => exact ⟨⟨by simp [cat], by simp [cat]⟩, ⟨by simp [cat], by simp [cat]⟩⟩
/-- The head of all statements. -/
theorem shown_any (w : World) : Calls Try.prog 9 #[] w fun e w' => e = .returned (.bool true) ∧ Below w.heap.size w w' := by
  have hb0 : Below w.heap.size w (w.alloc (.cells #[.int .i64 1, .int .u64 5, .int .u64 1, .bool false, .int .i64 2, .int .u64 3, .int .u64 1, .bool false] 35)) := (Below.refl _ w).alloc (Nat.le_refl _) _
  have HI := Lib.hid (Cds.new2 w ⟨1, 5, 1, false⟩ ⟨2, 3, 1, false⟩)
  have hs0 : (w.alloc (.cells #[.int .i64 1, .int .u64 5, .int .u64 1, .bool false, .int .i64 2, .int .u64 3, .int .u64 1, .bool false] 35)).heap.size = w.heap.size + 1 := by simp
  have HS := Lib.hid hs0
  have HC := Lib.hid (show chosen [⟨1, 5, 1, false⟩, ⟨2, 3, 1, false⟩] (gapI 8 0) 0 = 1 by decide +kernel)
  clear hs0
  go_enter Try.func9, Try.ntmps9
  go_wp2_with fail
  generalize w.alloc (.cells #[.int .i64 1, .int .u64 5, .int .u64 1, .bool false, .int .i64 2, .int .u64 3, .int .u64 1, .bool false] 35) = W at hb0 HI HS ⊢
  refine (choose_any _ 2 2 [⟨1, 5, 1, false⟩, ⟨2, 3, 1, false⟩] 8 0 0 W rfl (by rw [HS.out]; exact HI.out) (ok2 ⟨⟨by decide, by decide⟩, ⟨by decide, by decide⟩⟩ ⟨⟨by decide, by decide⟩, ⟨by decide, by decide⟩⟩) (by omega) ⟨by decide, by decide⟩ ⟨by decide, by decide⟩).mono ?_
  rintro e w1 ⟨⟨u, v, rfl, hs⟩, hb1⟩
  rw [HC.out] at hs
  have HB1 := Lib.hid (hb0.trans (hb1.mono (by have := HS.out; omega)))
  clear hb1 hb0
  rcases hs with ⟨q1, _, _⟩ | ⟨q, q1, q2, rfl, rfl⟩
  · omega
  · obtain rfl : q = 1 := by omega
    clear q1
    go_wp2_with fail
    refine (after_any 8 0 3 _ ⟨by decide, by decide⟩ ⟨by decide, by decide⟩ ⟨by decide, by decide⟩).mono ?_
    rintro e w2 ⟨rfl, hb2⟩
    have HB2 := Lib.hid (nx HB1.out hb2)
    have g1 : gapI 8 3 = 5 := by decide
    have g2 : sat2 0 3 = 3 := by decide
    rw [g1, g2]
    clear g1 g2 hb2
    go_wp2
    go_ret
    exact ⟨rfl, HB2.out⟩
end Go.Proofs.Ytkgpjcoapopgmaa
