/- A line puts and takes: as a list that is put at its end and taken at its head. Conditions: the line's block reads as a ring. -/
import Derived.Test.YtdijafdplkdfiaaLine
namespace Go.Proofs.Ytdijafdplkdfiaa
set_option linter.unusedVariables false
open Go.RowKit

theorem gtrans {w u v : World} {row : Option Nat} (h : w.grownBy u row) (k : u.grownBy v row) : w.grownBy v row :=
  ⟨k.os.trans h.os, k.tape.trans h.tape, k.output.trans h.output, Nat.le_trans h.size k.size, fun i hi hr => (k.block i (Nat.lt_of_lt_of_le hi h.size) hr).trans (h.block i hi hr)⟩
theorem gbelow {w u : World} (h : Below w.heap.size w u) (row : Option Nat) : w.grownBy u row := ⟨h.os, h.tape, h.output, h.size, fun i hi _ => h.block i hi⟩
theorem gset (w : World) (b o : Nat) (v : Value) : w.grownBy (w.setCell ⟨b, o, none⟩ v) (some b) :=
  ⟨rfl, rfl, rfl, by simp, fun i _ hr => Below.heap_setCell w ⟨b, o, none⟩ v i (fun e => hr (by rw [e]))⟩
theorem gdrewN (w : World) (n : Nat) (row : Option Nat) : w.grownBy (w.drewN n) row := ⟨rfl, rfl, rfl, Nat.le_refl _, fun _ _ _ => rfl⟩
theorem gto {w u : World} {b B : Nat} (h : w.grownBy u (some b)) (hb : B ≤ b) (hB : B ≤ w.heap.size) : Below B w u :=
  ⟨h.os, h.tape, h.output, h.size, fun k hk => h.block k (by omega) (fun e => by cases e; omega)⟩

/-- Block b is a line in which xs wait. -/
def LineAt (W : World) (b : Nat) (xs : List Int) : Prop := ∃ r f n, Ring W b r f n ∧ waits r f n = xs
theorem LineAt.lt {W : World} {b : Nat} {xs : List Int} (h : LineAt W b xs) : b < W.heap.size := by obtain ⟨r, f, n, h, _⟩ := h; exact h.lt
theorem LineAt.le {W : World} {b : Nat} {xs : List Int} (h : LineAt W b xs) : xs.length ≤ 64 := by obtain ⟨r, f, n, h, rfl⟩ := h; rw [waits_length]; exact h.n64
theorem LineAt.grown {w w' : World} {b : Nat} {xs : List Int} {row : Option Nat} (h : LineAt w b xs) (hg : w.grownBy w' row) (hr : row ≠ some b) : LineAt w' b xs := by
  obtain ⟨r, f, n, h, e⟩ := h; exact ⟨r, f, n, h.grown hg hr, e⟩
theorem LineAt.below {w w' : World} {b : Nat} {xs : List Int} (h : LineAt w b xs) (hb : Below w.heap.size w w') : LineAt w' b xs := h.grown (gbelow hb none) (by simp)

theorem waits_put {r : Nat → Int} {f n : Nat} (p : Int) (hf : f < 64) (hn : n < 64) : waits (fun j => if j = (f + n) % 64 then p else r j) f (n + 1) = waits r f n ++ [p] := by
  rw [waits_succ]
  simp only [if_pos]
  congr 1
  apply List.ext_getElem
  · simp [waits]
  · intro i h1 h2
    have hi : i < n := by simpa [waits] using h1
    simp only [waits, List.getElem_map, List.getElem_range]
    rw [if_neg (by omega)]
theorem waits_take {r : Nat → Int} {f n : Nat} (hf : f < 64) (hn : 0 < n) : waits r f n = r f :: waits r ((f + 1) % 64) (n - 1) := by
  obtain ⟨m, rfl⟩ : ∃ m, n = m + 1 := ⟨n - 1, by omega⟩
  apply List.ext_getElem
  · simp [waits]
  · intro i h1 h2
    cases i with
    | zero => simp [waits, Nat.mod_eq_of_lt hf]
    | succ i => simp only [waits, List.getElem_map, List.getElem_range, List.getElem_cons_succ]; congr 1; omega

theorem gdrew (w : World) (row : Option Nat) : w.grownBy w.drew row := ⟨rfl, rfl, rfl, Nat.le_refl _, fun _ _ _ => rfl⟩
theorem ring_put {W : World} {b : Nat} {r : Nat → Int} {f n q : Nat} {p : Int} (h : Ring W b r f n) (hn : n < 64) (hq : q = (f + n) % 64) :
    Ring ((W.setCell ⟨b, q, none⟩ (.int .i64 p)).setCell ⟨b, 65, none⟩ (.int .i64 ((n : Int) + 1))) b (fun j => if j = q then p else r j) f (n + 1) := by
  have hq64 : q < 64 := by omega
  refine ⟨by simpa using h.lt, h.f64, by omega, fun j hj => ?_, ?_, ?_, fun j => ?_⟩
  · rw [World.cell?_setCell_other _ _ _ _ (by intro e; simp only [Addr.mk.injEq] at e; omega)]
    by_cases e : j = q
    · subst e; simp only [if_pos]
      exact World.cell?_setCell_same' _ _ _ (by rw [h.ring j hj]; rfl)
    · simp only [if_neg e]
      rw [World.cell?_setCell_other _ _ _ _ (by intro e'; simp only [Addr.mk.injEq] at e'; omega)]
      exact h.ring j hj
  · rw [World.cell?_setCell_other _ _ _ _ (by intro e; simp only [Addr.mk.injEq] at e; omega), World.cell?_setCell_other _ _ _ _ (by intro e; simp only [Addr.mk.injEq] at e; omega)]
    exact h.from_
  · have : (W.setCell ⟨b, q, none⟩ (.int .i64 p)).cell? ⟨b, 65, none⟩ = some (.int .i64 n) := by
      rw [World.cell?_setCell_other _ _ _ _ (by intro e; simp only [Addr.mk.injEq] at e; omega)]; exact h.n_
    rw [World.cell?_setCell_same' _ _ _ (by rw [this]; rfl)]; rfl
  · rw [World.frozen?_setCell, World.frozen?_setCell]; exact h.free j
theorem ring_take {W : World} {b : Nat} {r : Nat → Int} {f n : Nat} (h : Ring W b r f n) (hn : 0 < n) :
    Ring ((W.setCell ⟨b, 64, none⟩ (.int .i64 (((f + 1) % 64 : Nat) : Int))).setCell ⟨b, 65, none⟩ (.int .i64 ((n : Int) - 1))) b r ((f + 1) % 64) (n - 1) := by
  refine ⟨by simpa using h.lt, Nat.mod_lt _ (by omega), by have := h.n64; omega, fun j hj => ?_, ?_, ?_, fun j => ?_⟩
  · rw [World.cell?_setCell_other _ _ _ _ (by intro e; simp only [Addr.mk.injEq] at e; omega), World.cell?_setCell_other _ _ _ _ (by intro e; simp only [Addr.mk.injEq] at e; omega)]
    exact h.ring j hj
  · rw [World.cell?_setCell_other _ _ _ _ (by intro e; simp only [Addr.mk.injEq] at e; omega)]
    exact World.cell?_setCell_same' _ _ _ (by rw [h.from_]; rfl)
  · have : (W.setCell ⟨b, 64, none⟩ (.int .i64 (((f + 1) % 64 : Nat) : Int))).cell? ⟨b, 65, none⟩ = some (.int .i64 n) := by
      rw [World.cell?_setCell_other _ _ _ _ (by intro e; simp only [Addr.mk.injEq] at e; omega)]; exact h.n_
    rw [World.cell?_setCell_same' _ _ _ (by rw [this]; rfl)]
    have : ((n - 1 : Nat) : Int) = (n : Int) - 1 := by omega
    rw [this]
  · rw [World.frozen?_setCell, World.frozen?_setCell]; exact h.free j
def putOk (xs : List Int) (p : Int) : Bool := decide (0 ≤ p) && (xs.length != 64 && !hasI xs p)

set_option maxRecDepth 100000 in
set_option maxHeartbeats 4000000 in
theorem put_any (b : Nat) (xs : List Int) (p : Int) (w : World) (hL : LineAt w b xs) :
    Calls Try.prog 14 #[.pointer (some ⟨b, 0, none⟩), .int .i64 p] w fun e w' => e = .returned (.bool (putOk xs p)) ∧ LineAt w' b (if putOk xs p = true then xs ++ [p] else xs) ∧ w.grownBy w' (some b) := by
  obtain ⟨r, f, n, hR, rfl⟩ := hL
  have HR := Lib.hid hR
  have hf := hR.f64
  have hn := hR.n64
  have hlt := hR.lt
  have c65 := hR.n_
  have hwl := waits_length r f n
  by_cases hp : 0 ≤ p
  · by_cases h64 : n = 64
    · have hk : putOk (waits r f n) p = false := by unfold putOk; rw [hwl, h64]; simp
      have HK := Lib.hid hk
      have hnb : ((n : Int) == 64) = true := by simp; omega
      have hp' : ¬ p < 0 := by omega
      clear hR h64 hwl hk
      rw [HK.out]
      go_enter Try.func14, Try.ntmps14
      go_wp2
      go_ret
      exact ⟨rfl, ⟨r, f, n, HR.out, rfl⟩, World.grownBy.refl _ _⟩
    · have hnb : ((n : Int) == 64) = false := by simp; omega
      have hp' : ¬ p < 0 := by omega
      cases hh : hasI (waits r f n) p
      · have hk : putOk (waits r f n) p = true := by unfold putOk; rw [hwl, hh, decide_eq_true hp]; simp [h64]
        have HK := Lib.hid hk
        have HH := Lib.hid hh
        have HWL := Lib.hid hwl
        have hn64 : n < 64 := by omega
        clear hR hwl hk hh h64
        rw [HK.out]
        go_enter Try.func14, Try.ntmps14
        go_wp2_with fail
        refine (list_any b r f n _ HR.out).mono ?_
        rintro e w1 ⟨⟨v, rfl, hown⟩, hB⟩
        obtain ⟨a', cap', rfl, _, hI⟩ := ownsRow_intsn HWL.out hown
        have HI := Lib.hid hI
        clear hown hI
        go_wp2_with fail
        refine (contains_any _ _ _ (waits r f n) p _ HWL.out HI.out (by omega)).mono ?_
        rintro e w' ⟨rfl, rfl⟩
        rw [HH.out]
        have HR1 := Lib.hid (HR.out.grown (gbelow hB none) (by simp))
        have HG := Lib.hid (gbelow hB (some b))
        obtain ⟨q, hq⟩ : ∃ q, (f + n) % 64 = q := ⟨_, rfl⟩
        have hq64 : q < 64 := by omega
        have d1 := HR1.out.from_
        have d2 := HR1.out.n_
        have d3 := HR1.out.ring q hq64
        have e1 := HR1.out.free 64
        have e2 := HR1.out.free 65
        have e3 := HR1.out.free q
        have x1 : IntKind.i64.wrap ((f : Int) + (n : Int)) = (f : Int) + (n : Int) := IntWalk.i64_in _ (by omega)
        have x2 : ((f : Int) + (n : Int)).tmod 64 = (q : Int) := by rw [Int.tmod_eq_emod_of_nonneg (by omega)]; omega
        have x3 : IntKind.i64.wrap (q : Int) = (q : Int) := IntWalk.i64_in _ (by omega)
        have x4 : (0 : Int) ≤ (q : Int) := by omega
        have x5 : (q : Int) < 64 := by omega
        have x6 : (q : Int).toNat = q := by omega
        have HQ := Lib.hid hq
        clear c65 hB hq
        go_wp2_with fail
        go_still_tail 15, (by kernel_rfl)
        change wpList _ _ _ _ _ w1.drew
        have HR2 := Lib.hid (HR1.out.grown (gdrew w1 none) (by simp))
        have HG2 := Lib.hid (gtrans HG.out (gdrew w1 (some b)))
        generalize w1.drew = w2 at HR2 HG2 ⊢
        have g2 := HR2.out.n_
        have g3 := HR2.out.ring q hq64
        have g5 := HR2.out.free 65
        have g6 := HR2.out.free q
        have g7 : (w2.setCell ⟨b, q, none⟩ (.int .i64 p)).cell? ⟨b, 65, none⟩ = some (.int .i64 n) := by
          rw [World.cell?_setCell_other _ _ _ _ (by intro e; simp only [Addr.mk.injEq] at e; omega)]; exact g2
        have HRP := Lib.hid (ring_put (p := p) HR2.out hn64 HQ.out.symm)
        have HWP := Lib.hid (waits_put (r := r) p hf hn64)
        rw [HQ.out] at HWP
        have HGP := Lib.hid (gtrans (gtrans HG2.out (gset w2 b q (.int .i64 p))) (gset _ b 65 (.int .i64 ((n : Int) + 1))))
        clear d1 d2 d3 e1 e2 e3 x1 x2 x3 x4 x5 x6
        go_wp2
        go_ret
        exact ⟨rfl, ⟨_, f, n + 1, HRP.out, HWP.out⟩, HGP.out⟩
      · have hk : putOk (waits r f n) p = false := by unfold putOk; rw [hh]; simp
        have HK := Lib.hid hk
        have HH := Lib.hid hh
        have HWL := Lib.hid hwl
        clear hR hwl hk hh h64
        rw [HK.out]
        go_enter Try.func14, Try.ntmps14
        go_wp2_with fail
        refine (list_any b r f n _ HR.out).mono ?_
        rintro e w1 ⟨⟨v, rfl, hown⟩, hB⟩
        obtain ⟨a', cap', rfl, _, hI⟩ := ownsRow_intsn HWL.out hown
        have HI := Lib.hid hI
        clear hown hI
        go_wp2_with fail
        refine (contains_any _ _ _ (waits r f n) p _ HWL.out HI.out (by omega)).mono ?_
        rintro e w' ⟨rfl, rfl⟩
        rw [HH.out]
        go_wp2
        go_ret
        exact ⟨rfl, ⟨r, f, n, HR.out.grown (gbelow hB none) (by simp), rfl⟩, gbelow hB _⟩
  · have hk : putOk (waits r f n) p = false := by unfold putOk; rw [decide_eq_false hp]; rfl
    have HK := Lib.hid hk
    have hp' : p < 0 := by omega
    clear hR hk hwl
    rw [HK.out]
    go_enter Try.func14, Try.ntmps14
    go_wp2
    go_ret
    exact ⟨rfl, ⟨r, f, n, HR.out, rfl⟩, World.grownBy.refl _ _⟩

theorem put_nil (p : Int) (w : World) : Calls Try.prog 14 #[.pointer none, .int .i64 p] w fun e w' => e = .returned (.bool false) ∧ w = w' := by
  go_enter Try.func14, Try.ntmps14
  go_wp2
  go_ret
  exact ⟨rfl, rfl⟩
theorem take_nil (w : World) : Calls Try.prog 16 #[.pointer none] w fun e w' => e = .returned (.tuple #[.int .i64 0, .bool false]) ∧ w = w' := by
  go_enter Try.func16, Try.ntmps16
  go_wp2_with (go_at_call 17; refine (len_nil _).mono ?_; rintro e w' ⟨rfl, rfl⟩)
  go_ret2
  exact ⟨rfl, rfl⟩
def hdI : List Int → Int
  | [] => 0
  | x :: _ => x

set_option maxRecDepth 100000 in
set_option maxHeartbeats 4000000 in
theorem take_any (b : Nat) (xs : List Int) (w : World) (hL : LineAt w b xs) :
    Calls Try.prog 16 #[.pointer (some ⟨b, 0, none⟩)] w fun e w' => e = .returned (.tuple #[.int .i64 (hdI xs), .bool (!xs.isEmpty)]) ∧ LineAt w' b xs.tail ∧ w.grownBy w' (some b) := by
  obtain ⟨r, f, n, hR, rfl⟩ := hL
  have HR := Lib.hid hR
  have hf := hR.f64
  have hn := hR.n64
  clear hR
  by_cases h0 : n = 0
  · subst h0
    go_enter Try.func16, Try.ntmps16
    go_wp2_with (go_at_call 17; refine (len_any b r f 0 _ HR.out).mono ?_; rintro e w' ⟨rfl, rfl⟩)
    go_ret2
    exact ⟨rfl, ⟨r, f, 0, HR.out, rfl⟩, World.grownBy.refl _ _⟩
  · have hw := waits_take (r := r) (n := n) hf (by omega)
    have HW := Lib.hid hw
    have hnb : ((n : Int) == 0) = false := by simp; omega
    have HRT := Lib.hid (ring_take HR.out (show 0 < n by omega))
    have hn0 : 0 < n := by omega
    rw [hw]
    obtain ⟨q, hq⟩ : ∃ q, (f + 1) % 64 = q := ⟨_, rfl⟩
    have HQ := Lib.hid hq
    have hq64 : q < 64 := by omega
    have d1 := HR.out.from_
    have d3 := HR.out.ring f hf
    have hfl : (f : Int) < 64 := by omega
    clear hw h0 hq
    go_enter Try.func16, Try.ntmps16
    go_wp2_with (go_at_call 17; refine (len_any b r f n _ HR.out).mono ?_; rintro e w' ⟨rfl, rfl⟩)
    go_quiet (fail)
    have HR2 := Lib.hid (HR.out.grown (gdrewN w nq none) (by simp))
    have HG2 := Lib.hid (gdrewN w nq (some b))
    generalize w.drewN nq = w2 at HR2 HG2 ⊢
    have HRT := Lib.hid (ring_take HR2.out hn0)
    rw [HQ.out] at HRT
    have g1 := HR2.out.from_
    have g2 := HR2.out.n_
    have g4 := HR2.out.free 64
    have g5 := HR2.out.free 65
    have x2 : ((f : Int) + 1) % 64 = (q : Int) := by have := HQ.out; omega
    have X2 := Lib.hid x2
    have g7 : (w2.setCell ⟨b, 64, none⟩ (.int .i64 (q : Int))).cell? ⟨b, 65, none⟩ = some (.int .i64 n) := by
      rw [World.cell?_setCell_other _ _ _ _ (by intro e; simp only [Addr.mk.injEq] at e; omega)]; exact g2
    have HGP := Lib.hid (gtrans (gtrans HG2.out (gset w2 b 64 (.int .i64 (q : Int)))) (gset _ b 65 (.int .i64 ((n : Int) - 1))))
    clear d1 d3
    go_wp2
    go_ret2
    exact ⟨rfl, ⟨r, q, n - 1, HRT.out, by rw [HQ.out]; rfl⟩, HGP.out⟩
end Go.Proofs.Ytdijafdplkdfiaa
