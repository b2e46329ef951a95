/- The best one of those of which something holds, and pull.Choose. Conditions: the slice reads as a list of tasks within the reach. -/
import Derived.Test.YtkgpjcoapopgmaaAsk
import Derived.Deep.RegionHeld3
namespace Go.Proofs.Ytkgpjcoapopgmaa
set_option linter.unusedVariables false
open Go.RowKit
theorem cellb {W W' : World} (hb : Below W.heap.size W W') {b o : Nat} {v : Value} (h : b < W.heap.size) (hc : W.cell? ⟨b, o, none⟩ = some v) : W'.cell? ⟨b, o, none⟩ = some v := (hb.cell (p := ⟨b, o, none⟩) h).trans hc
theorem celld {W : World} {a : Addr} {v : Value} (hc : W.cell? a = some v) : W.drew.cell? a = some v := hc
theorem cnew0 {W : World} {x y : Value} {t b : Nat} (h : b = W.heap.size) : (W.alloc (.cells #[x, y] t)).drew.cell? ⟨b, 0, none⟩ = some x := by subst h; exact celld (by simp)
theorem cnew1 {W : World} {x y : Value} {t b : Nat} (h : b = W.heap.size) : (W.alloc (.cells #[x, y] t)).drew.cell? ⟨b, 1, none⟩ = some y := by subst h; exact celld (by simp)
theorem lta {W : World} {b : Nat} {O : Obj} (h : b < W.heap.size) : b < (W.alloc O).heap.size := by simp; omega
theorem ltd {W : World} {b : Nat} (h : b < W.heap.size) : b < W.drew.heap.size := h
theorem cella {W : World} {b o : Nat} {v : Value} (O : Obj) (h : b < W.heap.size) (hc : W.cell? ⟨b, o, none⟩ = some v) : (W.alloc O).cell? ⟨b, o, none⟩ = some v := cellb ((Below.refl _ _).alloc (Nat.le_refl _) _) h hc
def CdsOk (zs : List Cd) : Prop := ∀ k, CdOk (cat zs k)
/-- The closures of Choose, asked of one task. -/
theorem clMay_any (c : Cd) (gap p : Int) (bg bp : Nat) (w : World) (hc : CdOk c) (hg : w.cell? ⟨bg, 0, none⟩ = some (.int .u64 gap)) (hp : w.cell? ⟨bp, 0, none⟩ = some (.int .i64 p)) :
    Calls Try.prog 20 #[.agg #[.int .i64 c.id, .int .u64 c.w, .int .u64 c.m, .bool c.r], .pointer (some ⟨bg, 0, none⟩), .pointer (some ⟨bp, 0, none⟩)] w fun e w' => e = .returned (.bool (mayC c gap p)) ∧ Below w.heap.size w w' := by
  have hlt := World.block_lt_of_cell? w _ hg
  have hlt2 := World.block_lt_of_cell? w _ hp
  go_enter Try.func20, Try.ntmps20
  go_wp2_with fail
  refine (may_any c gap p _ hc).mono ?_
  rintro e w' ⟨rfl, rfl⟩
  go_wp2
  go_ret
  exact ⟨rfl, ((Below.refl _ w).alloc (Nat.le_refl _) _).alloc (by simp) _⟩
theorem clHalf_any (c : Cd) (gap p : Int) (bm bg bp : Nat) (w : World) (hc : CdOk c) (h0 : 0 ≤ gap) (h1 : gap ≤ 18446744073709551615) (hg : w.cell? ⟨bg, 0, none⟩ = some (.int .u64 gap)) (hp : w.cell? ⟨bp, 0, none⟩ = some (.int .i64 p))
    (hm : w.cell? ⟨bm, 0, none⟩ = some (.func (.func 20) #[] #[.pointer (some ⟨bg, 0, none⟩), .pointer (some ⟨bp, 0, none⟩)])) :
    Calls Try.prog 21 #[.agg #[.int .i64 c.id, .int .u64 c.w, .int .u64 c.m, .bool c.r], .pointer (some ⟨bm, 0, none⟩), .pointer (some ⟨bg, 0, none⟩)] w fun e w' => e = .returned (.bool (halfC c gap p)) ∧ Below w.heap.size w w' := by
  have hlt := World.block_lt_of_cell? w _ hg
  have hlt2 := World.block_lt_of_cell? w _ hp
  have hlt3 := World.block_lt_of_cell? w _ hm
  simp only at hlt hlt2 hlt3
  cases hmc : mayC c gap p
  · have HD := Lib.hid (show halfC c gap p = false by unfold halfC; rw [hmc]; rfl)
    have HM := Lib.hid hmc
    clear hmc
    go_enter Try.func21, Try.ntmps21
    go_wp2_with fail
    refine (clMay_any c gap p bg bp _ hc (cella _ hlt hg) (cella _ hlt2 hp)).mono ?_
    rintro e w' ⟨rfl, hb⟩
    rw [HM.out]
    go_wp2
    go_ret
    exact ⟨by rw [HD.out]; rfl, ((Below.refl _ w).alloc (Nat.le_refl _) _).trans (hb.mono (by simp))⟩
  · have HD := Lib.hid (show halfC c gap p = decide (c.w ≤ gap / 2) by unfold halfC; rw [hmc]; rfl)
    have HM := Lib.hid hmc
    clear hmc
    go_enter Try.func21, Try.ntmps21
    go_wp2_with fail
    refine (clMay_any c gap p bg bp _ hc (cella _ hlt hg) (cella _ hlt2 hp)).mono ?_
    rintro e w' ⟨rfl, hb⟩
    rw [HM.out]
    have c1 : w'.cell? ⟨bg, 0, none⟩ = some (.int .u64 gap) := cellb hb (by simp; omega) (cella _ hlt hg)
    have c2 : w'.cell? ⟨w.heap.size, 1, none⟩ = some (.int .u64 c.w) := (hb.cell (p := ⟨w.heap.size, 1, none⟩) (by simp)).trans (by simp)
    go_wp2
    go_ret
    exact ⟨by rw [HD.out]; rfl, ((Below.refl _ w).alloc (Nat.le_refl _) _).trans (hb.mono (by simp))⟩
theorem step_yes {P : Nat → Bool} {k1 k2 : Nat → Int} {b : Int} {k q : Nat} (hP : P k = true) (hb : b = q) (h : ltK k1 k2 k q = true) : bestStep P k1 k2 b k = k := by subst hb; unfold bestStep; exact if_pos ⟨hP, .inr (by simpa using h)⟩
theorem step_no {P : Nat → Bool} {k1 k2 : Nat → Int} {b : Int} {k q : Nat} (hb : b = q) (h : ¬ ltK k1 k2 k q = true) : bestStep P k1 k2 b k = q := by
  subst hb; unfold bestStep; exact if_neg (fun ⟨_, e⟩ => e.elim (fun e => by omega) (fun e => h (by simpa using e)))
theorem cmpI_lt {a b : Int} : cmpI a b < 0 ↔ a < b := by unfold cmpI; split <;> (try split) <;> simp <;> omega
theorem cmpI_zero {a b : Int} : cmpI a b = 0 ↔ a = b := by unfold cmpI; split <;> (try split) <;> simp <;> omega
theorem cmpI_neg (a b : Int) : -cmpI a b = cmpI b a := by unfold cmpI; split <;> (try split) <;> (try split) <;> omega
theorem orI_lt {a b c d : Int} : orI (cmpI a b) (cmpI c d) < 0 ↔ a < b ∨ (a = b ∧ c < d) := by
  unfold orI
  by_cases h : cmpI a b = 0
  · rw [if_pos h, cmpI_lt]
    have := cmpI_zero.1 h
    omega
  · rw [if_neg h, cmpI_lt]
    have : a ≠ b := fun e => h (cmpI_zero.2 e)
    omega
theorem ltK_heavy (zs : List Cd) (k q : Nat) : orI (cmpI (cat zs q).w (cat zs k).w) (cmpI (cat zs k).id (cat zs q).id) < 0 ↔ ltK (hK zs) (iK zs) k q = true := by
  rw [orI_lt, ltK_iff]; unfold hK iK; omega
theorem ltK_light (zs : List Cd) (k q : Nat) : orI (-cmpI (cat zs q).w (cat zs k).w) (cmpI (cat zs k).id (cat zs q).id) < 0 ↔ ltK (wK zs) (iK zs) k q = true := by
  rw [cmpI_neg, orI_lt, ltK_iff]; unfold wK iK; omega
/-- The place and whether there is one, as the loop holds them. -/
def Slots (b : Int) (len : Nat) (u v : Value) : Prop := (b = -1 ∧ u = .int .i64 0 ∧ v = .bool false) ∨ ∃ p : Nat, b = p ∧ p < len ∧ u = .int .i64 p ∧ v = .bool true
end Go.Proofs.Ytkgpjcoapopgmaa
