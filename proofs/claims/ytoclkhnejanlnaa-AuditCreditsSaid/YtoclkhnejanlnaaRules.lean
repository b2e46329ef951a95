/- The rules of a sound snapshot, one after the other, as the program asks them. Conditions: the slices read as lists; of the later rules, that there are not too many groups. -/
import Derived.Test.YtoclkhnejanlnaaAsks
namespace Go.Proofs.Ytoclkhnejanlnaa
set_option linter.unusedVariables false
open Go.RowKit
/-- The snapshot's slices read as its lists. -/
structure Snp (n₀ : Nat) (W : World) (s : Sn) (ra ta ga : Option Addr) (rn tn gn : Nat) : Prop where
  r : Rd encI n₀ W ra rn s.run
  t : Rd encT n₀ W ta tn s.ts
  g : Rd encG n₀ W ga gn s.gs
theorem Snp.below {n₀ : Nat} {A B : World} {s : Sn} {ra ta ga : Option Addr} {rn tn gn : Nat} (h : Snp n₀ A s ra ta ga rn tn gn) (hb : Below n₀ A B) : Snp n₀ B s ra ta ga rn tn gn := ⟨h.r.below hb, h.t.below hb, h.g.below hb⟩
theorem Snp.grow {n₀ n₁ : Nat} {A : World} {s : Sn} {ra ta ga : Option Addr} {rn tn gn : Nat} (h : Snp n₀ A s ra ta ga rn tn gn) (hn : n₀ ≤ n₁) : Snp n₁ A s ra ta ga rn tn gn := ⟨h.r.grow hn, h.t.grow hn, h.g.grow hn⟩
theorem Snp.next {A B : World} {s : Sn} {ra ta ga : Option Addr} {rn tn gn : Nat} (h : Snp A.heap.size A s ra ta ga rn tn gn) (hb : Below A.heap.size A B) : Snp B.heap.size B s ra ta ga rn tn gn := (h.below hb).grow hb.size
theorem belowA (w : World) (O : Obj) : Below w.heap.size w (w.alloc O) := (Below.refl _ _).alloc (Nat.le_refl _) _
theorem below_alloc {w A B : World} {O : Obj} (h : A = w.alloc O) (hb : Below A.heap.size A B) : Below w.heap.size w B := by subst h; exact nx (belowA w O) hb
theorem U64.mk' {x : Int} (h0 : 0 ≤ x) (h1 : x ≤ 18446744073709551615) : 0 ≤ x ∧ x ≤ 18446744073709551615 := ⟨h0, h1⟩
/-- The masks are within their kind. -/
def SnOk (s : Sn) : Prop := (∀ i, 0 ≤ (tat s.ts i).m ∧ (tat s.ts i).m ≤ 18446744073709551615) ∧ ∀ i, 0 ≤ (gat s.gs i).stop ∧ (gat s.gs i).stop ≤ 18446744073709551615
theorem hasB_neg {m p : Int} (h : ¬ 0 ≤ p) : hasB m p = false := by unfold hasB; rw [decide_eq_false h]; rfl
theorem hasB_far {m p : Int} (h : ¬ p < 64) : hasB m p = false := by unfold hasB; rw [decide_eq_false h]; simp
theorem hasB_in {m : Int} {k : Nat} (h : (k : Int) < 64) : hasB m k = tb m k := by unfold hasB; rw [decide_eq_true h]; simp
set_option maxHeartbeats 1000000 in
theorem has_any (m p : Int) (w : World) (h0 : 0 ≤ m) (h1 : m ≤ 18446744073709551615) : Calls Try.prog 29 #[.int .u64 m, .int .i64 p] w fun e w' => e = .returned (.bool (hasB m p)) ∧ w = w' := by
  by_cases hp : 0 ≤ p
  · obtain ⟨k, rfl⟩ := Int.eq_ofNat_of_zero_le hp
    by_cases h64 : (k : Int) < 64
    · have hte : (bits BinOp.and IntKind.u64 (m / 2 ^ k) 1 == 1) = tb m k := rfl
      cases ht : tb m k
      · have HD := Lib.hid ((hasB_in (m := m) h64).trans ht)
        rw [ht] at hte
        clear ht
        go_enter Try.func29, Try.ntmps29
        go_wp2
        go_ret
        exact ⟨by rw [HD.out]; rfl, rfl⟩
      · have HD := Lib.hid ((hasB_in (m := m) h64).trans ht)
        rw [ht] at hte
        clear ht
        go_enter Try.func29, Try.ntmps29
        go_wp2
        go_ret
        exact ⟨by rw [HD.out]; rfl, rfl⟩
    · have HD := Lib.hid (hasB_far (m := m) h64)
      go_enter Try.func29, Try.ntmps29
      go_wp2
      go_ret
      exact ⟨by rw [HD.out]; rfl, rfl⟩
  · have HD := Lib.hid (hasB_neg (m := m) hp)
    go_enter Try.func29, Try.ntmps29
    go_wp2
    go_ret
    exact ⟨by rw [HD.out]; rfl, rfl⟩
section
variable {ra ta ga : Option Addr} {rn rc tn tc gn gc : Nat} {s : Sn}
set_option maxHeartbeats 1000000 in
theorem many_any (w : World) (hr : s.run.length = rn) (ht : s.ts.length = tn) (hg : s.gs.length = gn) :
    Calls Try.prog 17 #[.agg #[.slice ra rn rc, .slice ta tn tc, .slice ga gn gc]] w fun e w' => e = .returned (.bool (manyB s)) ∧ Below w.heap.size w w' := by
  have HM := Lib.hid (show manyB s = (decide (64 < rn) || (decide (64 < tn) || (decide (32 < gn) || gn == 0))) by unfold manyB; rw [hr, ht, hg])
  clear hr ht hg
  by_cases h1 : 64 < rn
  · have HD := Lib.hid (show manyB s = true by rw [HM.out]; simp; omega)
    have h1' : (64 : Int) < (rn : Int) := by omega
    go_enter Try.func17, Try.ntmps17
    go_wp2
    go_ret
    exact ⟨by rw [HD.out]; rfl, belowA _ _⟩
  · have h1' : ¬ (64 : Int) < (rn : Int) := by omega
    by_cases h2 : 64 < tn
    · have HD := Lib.hid (show manyB s = true by rw [HM.out]; simp; omega)
      have h2' : (64 : Int) < (tn : Int) := by omega
      go_enter Try.func17, Try.ntmps17
      go_wp2
      go_ret
      exact ⟨by rw [HD.out]; rfl, belowA _ _⟩
    · have h2' : ¬ (64 : Int) < (tn : Int) := by omega
      by_cases h3 : 32 < gn
      · have HD := Lib.hid (show manyB s = true by rw [HM.out]; simp; omega)
        have h3' : (32 : Int) < (gn : Int) := by omega
        go_enter Try.func17, Try.ntmps17
        go_wp2
        go_ret
        exact ⟨by rw [HD.out]; rfl, belowA _ _⟩
      · have h3' : ¬ (32 : Int) < (gn : Int) := by omega
        cases h4 : ((gn : Int) == 0)
        · have HD := Lib.hid (show manyB s = false by rw [HM.out]; simp at h4 ⊢; omega)
          go_enter Try.func17, Try.ntmps17
          go_wp2
          go_ret
          exact ⟨by rw [HD.out]; rfl, belowA _ _⟩
        · have HD := Lib.hid (show manyB s = true by rw [HM.out]; simp at h4 ⊢; omega)
          go_enter Try.func17, Try.ntmps17
          go_wp2
          go_ret
          exact ⟨by rw [HD.out]; rfl, belowA _ _⟩
theorem loose1_any (bx : Nat) (k : Int) (w : World) (h : Rd encG w.heap.size w ga gn s.gs) (hn : gn ≤ 1000) (hc : w.cell? ⟨bx, 2, none⟩ = some (.slice ga gn gc)) :
    Calls Try.prog 41 #[.int .i64 k, .pointer (some ⟨bx, 0, none⟩)] w fun e w' => e = .returned (.bool (!underB s.gs k 0)) ∧ Below w.heap.size w w' := by
  have HR := Lib.hid h
  clear h
  have hnot : ∀ (x : Bool) (w : World), (Op.unary .not (.bool x)).run Try.prog w = .ok (.bool (!x)) w := fun _ _ => rfl
  go_enter Try.func41, Try.ntmps41
  go_wp2_with fail
  refine (under_any ga gn gc s.gs k 0 _ HR.out hn).mono ?_
  rintro e w' ⟨rfl, hb⟩
  have HB := Lib.hid hb
  clear hb
  go_wp2
  go_ret
  exact ⟨rfl, HB.out⟩
theorem enters41 : Enters 41 := fun _ _ => by kernel_rfl
theorem looseB_one (h : (gat s.gs 0).par ≠ -1) : looseB s = true := by unfold looseB; simp [h]
theorem looseB_any (h : (gat s.gs 0).par = -1) : looseB s = anyB s.gs.length fun g => !underB s.gs g 0 := by unfold looseB; simp [h]
set_option maxHeartbeats 1000000 in
theorem loose_any (w : World) (hs : Snp w.heap.size w s ra ta ga rn tn gn) (h0 : 0 < gn) (hn : gn ≤ 1000) :
    Calls Try.prog 18 #[.agg #[.slice ra rn rc, .slice ta tn tc, .slice ga gn gc]] w fun e w' => e = .returned (.bool (looseB s)) ∧ Below w.heap.size w w' := by
  obtain ⟨b, off, ha, hb, hc⟩ := hs.g.grs h0
  subst ha
  have c0 := (hc 0 h0).1
  have HS := Lib.hid hs
  have HL := Lib.hid hs.g.1
  have h0' : (0 : Int) < (gn : Int) := by omega
  clear hc hs
  rw [Nat.zero_mul, Nat.add_zero] at c0
  cases hp : ((gat s.gs 0).par != -1)
  · have HD := Lib.hid (looseB_any (s := s) (by simpa using hp))
    go_enter Try.func18, Try.ntmps18
    go_wp2_with fail
    refine (among_any 41 #[.pointer (some ⟨w.heap.size, 0, none⟩)] gn (fun g => !underB s.gs g 0) _ (by omega) enters41 (fun k W hk hbW => ?_)).mono ?_
    · exact loose1_any w.heap.size k W (ga := some ⟨b, off, none⟩) (gn := gn) (gc := gc) ((HS.out.g.next (belowA _ _)).next hbW) hn (cellb hbW (by simp) (cnewb.trans rfl))
    · rintro e w' ⟨rfl, hb1⟩
      have HB := Lib.hid (nx (belowA _ _) hb1)
      clear hb1
      go_wp2
      go_ret
      exact ⟨by rw [HD.out, HL.out]; rfl, HB.out⟩
  · have HD := Lib.hid (looseB_one (s := s) (by simpa using hp))
    go_enter Try.func18, Try.ntmps18
    go_wp2
    go_ret
    exact ⟨by rw [HD.out]; rfl, belowA _ _⟩
set_option maxHeartbeats 2000000 in
theorem odd1_any (bx : Nat) (t : Tk) (w : World) (hl : s.gs.length = gn) (hc : w.cell? ⟨bx, 2, none⟩ = some (.slice ga gn gc)) :
    Calls Try.prog 43 #[.agg #[.int .i64 t.st, .int .i64 t.p, .int .u64 t.m, .int .i64 t.g], .pointer (some ⟨bx, 0, none⟩)] w fun e w' => e = .returned (.bool (oddT s t)) ∧ Below w.heap.size w w' := by
  have HM := Lib.hid (show oddT s t = (decide (t.st < 1) || (decide (4 < t.st) || (decide (t.g < 0) || decide ((gn : Int) ≤ t.g)))) by unfold oddT; rw [hl])
  have hlt := World.block_lt_of_cell? w _ hc
  simp only at hlt
  clear hl
  by_cases h1 : t.st < 1
  · have HD := Lib.hid (show oddT s t = true by rw [HM.out]; simp; omega)
    go_enter Try.func43, Try.ntmps43
    go_wp2
    go_ret
    exact ⟨by rw [HD.out]; rfl, belowA _ _⟩
  · by_cases h2 : 4 < t.st
    · have HD := Lib.hid (show oddT s t = true by rw [HM.out]; simp; omega)
      go_enter Try.func43, Try.ntmps43
      go_wp2
      go_ret
      exact ⟨by rw [HD.out]; rfl, belowA _ _⟩
    · by_cases h3 : t.g < 0
      · have HD := Lib.hid (show oddT s t = true by rw [HM.out]; simp; omega)
        go_enter Try.func43, Try.ntmps43
        go_wp2
        go_ret
        exact ⟨by rw [HD.out]; rfl, belowA _ _⟩
      · have c1 : ∀ O, (w.alloc O).cell? ⟨bx, 2, none⟩ = some (.slice ga gn gc) := fun O => cella O hlt hc
        have C1 := Lib.hid c1
        clear c1
        by_cases h4 : (gn : Int) ≤ t.g
        · have HD := Lib.hid (show oddT s t = true by rw [HM.out]; simp; omega)
          go_enter Try.func43, Try.ntmps43
          go_wp2
          go_ret
          exact ⟨by rw [HD.out]; rfl, belowA _ _⟩
        · have HD := Lib.hid (show oddT s t = false by rw [HM.out]; simp; omega)
          go_enter Try.func43, Try.ntmps43
          go_wp2
          go_ret
          exact ⟨by rw [HD.out]; rfl, belowA _ _⟩
theorem enters43 : Enters 43 := fun _ _ => by kernel_rfl
theorem odd_any (w : World) (hs : Snp w.heap.size w s ra ta ga rn tn gn) (hn : tn ≤ 1000) :
    Calls Try.prog 19 #[.agg #[.slice ra rn rc, .slice ta tn tc, .slice ga gn gc]] w fun e w' => e = .returned (.bool (oddB s)) ∧ Below w.heap.size w w' := by
  have HS := Lib.hid hs
  have HL := Lib.hid hs.t.1
  clear hs
  go_enter Try.func19, Try.ntmps19
  go_wp2_with fail
  refine (containsT_any 43 #[.pointer (some ⟨w.heap.size, 0, none⟩)] ta tn tc s.ts (fun i => oddT s (tat s.ts i)) _ (HS.out.t.next (belowA _ _)) (by omega) enters43 (fun k W hk hbW => ?_)).mono ?_
  · exact odd1_any (ga := ga) (gc := gc) w.heap.size (tat s.ts k) W HS.out.g.1 (cellb hbW (by simp) (cnewb.trans rfl))
  · rintro e w' ⟨rfl, hb1⟩
    have HB := Lib.hid (nx (belowA _ _) hb1)
    clear hb1
    go_wp2
    go_ret
    exact ⟨by unfold oddB; rw [HL.out]; rfl, HB.out⟩
theorem off1_any (bx : Nat) (x : Int) (w : World) (hl : s.ts.length = tn) (hc : w.cell? ⟨bx, 1, none⟩ = some (.slice ta tn tc)) :
    Calls Try.prog 22 #[.int .i64 x, .pointer (some ⟨bx, 0, none⟩)] w fun e w' => e = .returned (.bool (offN s x)) ∧ Below w.heap.size w w' := by
  have HM := Lib.hid (show offN s x = (decide (x < -1) || decide ((tn : Int) ≤ x)) by unfold offN; rw [hl])
  clear hl
  by_cases h1 : x < -1
  · have HD := Lib.hid (show offN s x = true by rw [HM.out]; simp; omega)
    go_enter Try.func22, Try.ntmps22
    go_wp2
    go_ret
    exact ⟨by rw [HD.out]; rfl, Below.refl _ _⟩
  · by_cases h4 : (tn : Int) ≤ x
    · have HD := Lib.hid (show offN s x = true by rw [HM.out]; simp; omega)
      go_enter Try.func22, Try.ntmps22
      go_wp2
      go_ret
      exact ⟨by rw [HD.out]; rfl, Below.refl _ _⟩
    · have HD := Lib.hid (show offN s x = false by rw [HM.out]; simp; omega)
      go_enter Try.func22, Try.ntmps22
      go_wp2
      go_ret
      exact ⟨by rw [HD.out]; rfl, Below.refl _ _⟩
theorem enters22 : Enters 22 := fun _ _ => by kernel_rfl
theorem off_any (bx : Nat) (w : World) (hs : Snp w.heap.size w s ra ta ga rn tn gn) (hn : rn ≤ 1000) (hc0 : w.cell? ⟨bx, 0, none⟩ = some (.slice ra rn rc)) (hc : w.cell? ⟨bx, 1, none⟩ = some (.slice ta tn tc)) :
    Calls Try.prog 20 #[.pointer (some ⟨bx, 0, none⟩)] w fun e w' => e = .returned (.bool (offB s)) ∧ Below w.heap.size w w' := by
  have HS := Lib.hid hs
  have HL := Lib.hid hs.r.1
  have HC := Lib.hid hc
  have hlt := World.block_lt_of_cell? w _ hc
  simp only at hlt
  clear hs hc
  go_enter Try.func20, Try.ntmps20
  go_wp2_with fail
  refine (containsF_any 22 #[.pointer (some ⟨bx, 0, none⟩)] ra rn rc s.run (fun p => offN s (rat s.run p)) _ HS.out.r (by omega) enters22 (fun k W hk hbW => ?_)).mono ?_
  · exact off1_any (ta := ta) (tc := tc) bx (rat s.run k) W HS.out.t.1 (cellb hbW hlt HC.out)
  · rintro e w' ⟨rfl, hb1⟩
    have HB := Lib.hid hb1
    clear hb1
    go_wp2
    go_ret
    exact ⟨by unfold offB; rw [HL.out]; rfl, HB.out⟩
end
end Go.Proofs.Ytoclkhnejanlnaa
