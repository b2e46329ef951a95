/- What each gets of a pool, by package fifo and by the document: both are the plain words. Conditions: the needs read as a list of at most 300 numbers. -/
import Derived.Test.YtdijafdplkdfiaaBase
namespace Go.Proofs.Ytdijafdplkdfiaa
set_option linter.unusedVariables false
open Go.RowKit

def top63 : Int := 9223372036854775807
/-- What one would get. -/
def wantI (n s : Int) : Int := if n ≤ 0 ∨ s < 1 then 0 else if top63 - -(n % s) % s < n then n else n + -(n % s) % s
theorem want_no {n s : Int} (h : n ≤ 0 ∨ s < 1) : wantI n s = 0 := by unfold wantI; rw [if_pos h]
theorem want_over {n s : Int} (h : ¬ (n ≤ 0 ∨ s < 1)) (h2 : top63 - -(n % s) % s < n) : wantI n s = n := by unfold wantI; rw [if_neg h, if_pos h2]
theorem want_in {n s : Int} (h : ¬ (n ≤ 0 ∨ s < 1)) (h2 : ¬ top63 - -(n % s) % s < n) : wantI n s = n + -(n % s) % s := by unfold wantI; rw [if_neg h, if_neg h2]
theorem want_bd (n s : Int) (hn : n ≤ top63) : 0 ≤ wantI n s ∧ wantI n s ≤ top63 := by
  unfold wantI
  split
  · simp [top63]
  · split
    · rename_i h _; omega
    · rename_i h h2
      have h1 : 0 ≤ -(n % s) % s := Int.emod_nonneg _ (by omega)
      omega
/-- The whole slices that lie in a need: what the document's own formula needs. -/
theorem want_parts {n s : Int} (hn : 0 < n) (hs : 1 ≤ s) :
    ∃ q r : Int, n / s = q ∧ q * s = n - r ∧ 0 ≤ r ∧ r < s ∧ n % s = r ∧ 0 ≤ q ∧ q ≤ n ∧ ((r = 0 ∧ -(n % s) % s = 0) ∨ (0 < r ∧ -(n % s) % s = s - r)) := by
  have h1 := Int.mul_ediv_add_emod n s
  have h2 := Int.emod_nonneg n (show s ≠ 0 by omega)
  have h3 := Int.emod_lt_of_pos n (show 0 < s by omega)
  have h4 : 0 ≤ n / s := Int.ediv_nonneg (by omega) (by omega)
  have h5 : n / s ≤ n := Int.ediv_le_self s (by omega)
  refine ⟨n / s, n % s, rfl, by rw [Int.mul_comm]; omega, h2, h3, rfl, h4, h5, ?_⟩
  have h6 : (s - n % s) % s = -(n % s) % s := by simp
  by_cases h0 : n % s = 0
  · exact .inl ⟨h0, by rw [h0]; simp⟩
  · exact .inr ⟨by omega, by rw [← h6]; exact Int.emod_eq_of_lt (by omega) (by omega)⟩
theorem top_parts {s : Int} (hs : 1 ≤ s) : ∃ d e : Int, top63 / s = d ∧ d * s = top63 - e ∧ 0 ≤ e ∧ e < s ∧ 0 ≤ d := by
  have h1 := Int.mul_ediv_add_emod top63 s
  have h2 := Int.emod_nonneg top63 (show s ≠ 0 by omega)
  have h3 := Int.emod_lt_of_pos top63 (show 0 < s by omega)
  exact ⟨top63 / s, top63 % s, rfl, by rw [Int.mul_comm]; omega, h2, h3, Int.ediv_nonneg (by decide) (by omega)⟩
/-- The document's formula. -/
theorem want_ref {n s q : Int} (hn : 0 < n) (hn2 : n ≤ top63) (hs : 1 ≤ s) (hq : n / s = q) :
    (q * s = n ∧ wantI n s = n) ∨ (q * s ≠ n ∧ top63 / s ≤ q ∧ wantI n s = n) ∨ (q * s ≠ n ∧ ¬ top63 / s ≤ q ∧ wantI n s = (q + 1) * s ∧ 0 ≤ (q + 1) * s ∧ (q + 1) * s ≤ top63) := by
  obtain ⟨q', r, h1, h2, h3, h4, h5, h6, h7, h8⟩ := want_parts hn hs
  rw [hq] at h1
  subst h1
  obtain ⟨d, e, d1, d2, d3, d4, d5⟩ := top_parts hs
  have hno : ¬ (n ≤ 0 ∨ s < 1) := by omega
  have hmul : (q + 1) * s = q * s + s := by rw [Int.add_mul, Int.one_mul]
  rcases h8 with ⟨r0, m0⟩ | ⟨r0, m0⟩
  · refine .inl ⟨by omega, ?_⟩
    rw [want_in hno (by rw [m0]; omega), m0]; omega
  · have hne : q * s ≠ n := by omega
    rw [d1]
    by_cases hd : d ≤ q
    · have hm : d * s ≤ q * s := Int.mul_le_mul_of_nonneg_right hd (by omega)
      refine .inr (.inl ⟨hne, hd, want_over hno (by rw [m0]; omega)⟩)
    · have hm : (q + 1) * s ≤ d * s := Int.mul_le_mul_of_nonneg_right (by omega) (by omega)
      have hq0 : 0 ≤ q * s := Int.mul_nonneg h6 (by omega)
      refine .inr (.inr ⟨hne, hd, ?_, by omega, by omega⟩)
      rw [want_in hno (by rw [m0]; omega), m0]; omega

set_option maxHeartbeats 1000000 in
theorem want_any (n s : Int) (w : World) (hn : -9223372036854775808 ≤ n ∧ n ≤ 9223372036854775807) (hs : -9223372036854775808 ≤ s ∧ s ≤ 9223372036854775807) :
    Calls Try.prog 23 #[.int .i64 n, .int .i64 s] w fun e w' => e = .returned (.int .i64 (wantI n s)) ∧ w = w' := by
  obtain ⟨hn1, hn2⟩ := hn
  obtain ⟨hs1, hs2⟩ := hs
  by_cases h1 : n ≤ 0
  · have HW := Lib.hid (want_no (s := s) (.inl h1))
    go_enter Try.func23, Try.ntmps23
    go_wp2
    go_ret
    exact ⟨by rw [HW.out]; rfl, rfl⟩
  · by_cases h2 : s < 1
    · have HW := Lib.hid (want_no (n := n) (.inr h2))
      go_enter Try.func23, Try.ntmps23
      go_wp2
      go_ret
      exact ⟨by rw [HW.out]; rfl, rfl⟩
    · obtain ⟨q, r, p1, p2, p3, p4, p5, p6, p7, p8⟩ := want_parts (n := n) (s := s) (by omega) (by omega)
      have hno : ¬ (n ≤ 0 ∨ s < 1) := by omega
      have m1 : 0 ≤ -(n % s) % s := Int.emod_nonneg _ (by omega)
      have m2 : -(n % s) % s < s := Int.emod_lt_of_pos _ (by omega)
      have m3 : 0 ≤ n % s := by omega
      have m4 : n % s < s := by omega
      have h1' : 0 < n := by omega
      have h2' : 1 ≤ s := by omega
      have h1b : ¬ n ≤ 0 := h1
      clear p1 p2 p3 p4 p5 p6 p7 p8
      by_cases h3 : 9223372036854775807 - -(n % s) % s < n
      · have HW := Lib.hid (want_over hno h3)
        clear hno
        go_enter Try.func23, Try.ntmps23
        go_wp2
        go_ret
        exact ⟨by rw [HW.out]; rfl, rfl⟩
      · have HW := Lib.hid (want_in hno h3)
        clear hno
        go_enter Try.func23, Try.ntmps23
        go_wp2
        go_ret
        exact ⟨by rw [HW.out]; rfl, rfl⟩
set_option maxHeartbeats 1000000 in
theorem refWant_any (n s : Int) (w : World) (hn : -9223372036854775808 ≤ n ∧ n ≤ 9223372036854775807) (hs : -9223372036854775808 ≤ s ∧ s ≤ 9223372036854775807) :
    Calls Try.prog 24 #[.int .i64 n, .int .i64 s] w fun e w' => e = .returned (.int .i64 (wantI n s)) ∧ w = w' := by
  obtain ⟨hn1, hn2⟩ := hn
  obtain ⟨hs1, hs2⟩ := hs
  by_cases h1 : n ≤ 0
  · have HW := Lib.hid (want_no (s := s) (.inl h1))
    go_enter Try.func24, Try.ntmps24
    go_wp2
    go_ret
    exact ⟨by rw [HW.out]; rfl, rfl⟩
  · by_cases h2 : s < 1
    · have HW := Lib.hid (want_no (n := n) (.inr h2))
      go_enter Try.func24, Try.ntmps24
      go_wp2
      go_ret
      exact ⟨by rw [HW.out]; rfl, rfl⟩
    · have hq := want_ref (n := n) (s := s) (by omega) hn2 (by omega) rfl
      obtain ⟨q, r, p1, p2, p3, p4, p5, p6, p7, p8⟩ := want_parts (n := n) (s := s) (by omega) (by omega)
      have h1' : 0 < n := by omega
      have h2' : 1 ≤ s := by omega
      have hb0 : 0 ≤ n / s := by omega
      have hb1 : n / s ≤ n := by omega
      have hb2 : n / s * s ≤ 9223372036854775807 := by rw [p1]; omega
      have hb3 : 0 ≤ n / s * s := by rw [p1]; exact Int.mul_nonneg p6 (by omega)
      clear p1 p2 p3 p4 p5 p6 p7 p8
      rcases hq with ⟨e1, e2⟩ | ⟨e1, e2, e3⟩ | ⟨e1, e2, e3, e4, e5⟩
      · have HW := Lib.hid e2
        have hb : (n / s * s == n) = true := by simpa using e1
        clear e1 e2
        go_enter Try.func24, Try.ntmps24
        go_wp2
        go_ret
        exact ⟨by rw [HW.out]; rfl, rfl⟩
      · have HW := Lib.hid e3
        have hb : (n / s * s == n) = false := by simpa using e1
        have hg : 9223372036854775807 / s ≤ n / s := e2
        clear e1 e2 e3
        go_enter Try.func24, Try.ntmps24
        go_wp2
        go_ret
        exact ⟨by rw [HW.out]; rfl, rfl⟩
      · have HW := Lib.hid e3
        have hb : (n / s * s == n) = false := by simpa using e1
        have hg : ¬ 9223372036854775807 / s ≤ n / s := e2
        have e5' : (n / s + 1) * s ≤ 9223372036854775807 := e5
        have e6 : n / s + 1 ≤ 9223372036854775807 := by
          have : (9223372036854775807 : Int) / s ≤ 9223372036854775807 := Int.ediv_le_self s (by decide)
          omega
        clear e1 e2 e3 e5
        go_enter Try.func24, Try.ntmps24
        go_wp2
        go_ret
        exact ⟨by rw [HW.out]; rfl, rfl⟩

/-! ### Give -/
def gotOf (s p n : Int) : Int := min (wantI n s) (max p 0)
/-- What is left behind the first k. -/
def leftTo (s p : Int) (zs : List Int) : Nat → Int
  | 0 => p
  | k + 1 => leftTo s p zs k - gotOf s (leftTo s p zs k) (zat zs k)
def gotAt (s p : Int) (zs : List Int) (k : Nat) : Int := gotOf s (leftTo s p zs k) (zat zs k)
/-- What the first k get. -/
def gots (s p : Int) (zs : List Int) (k : Nat) : List Int := (List.range k).map (gotAt s p zs)
theorem gots_length (s p : Int) (zs : List Int) (k : Nat) : (gots s p zs k).length = k := by simp [gots]
theorem gots_succ (s p : Int) (zs : List Int) (k : Nat) : gots s p zs (k + 1) = gots s p zs k ++ [gotAt s p zs k] := by simp [gots, List.range_succ]
theorem zat_gots {s p : Int} {zs : List Int} {k j : Nat} (h : j < k) : zat (gots s p zs k) j = gotAt s p zs j := by simp [zat, gots, h]
theorem left_bd {s p : Int} {zs : List Int} (hz : ∀ j, zat zs j ≤ top63) (k : Nat) : leftTo s p zs k ≤ p ∧ (0 ≤ p → 0 ≤ leftTo s p zs k) ∧ (p < 0 → leftTo s p zs k = p) := by
  induction k with
  | zero => exact ⟨Int.le_refl _, fun h => h, fun _ => rfl⟩
  | succ k ih =>
    obtain ⟨h1, h2, h3⟩ := ih
    have hw := want_bd (zat zs k) s (hz k)
    have hs : leftTo s p zs (k + 1) = leftTo s p zs k - gotOf s (leftTo s p zs k) (zat zs k) := rfl
    have hg : gotOf s (leftTo s p zs k) (zat zs k) = min (wantI (zat zs k) s) (max (leftTo s p zs k) 0) := rfl
    rw [hs, hg]
    refine ⟨by omega, fun h => ?_, fun h => ?_⟩
    · have := h2 h; omega
    · have := h3 h; omega
theorem got_bd {s p : Int} {zs : List Int} (hz : ∀ j, zat zs j ≤ top63) (k : Nat) : 0 ≤ gotAt s p zs k ∧ gotAt s p zs k ≤ top63 ∧ (0 ≤ p → gotAt s p zs k ≤ leftTo s p zs k) ∧ (p < 0 → gotAt s p zs k = 0) := by
  have hw := want_bd (zat zs k) s (hz k)
  have hg : gotAt s p zs k = min (wantI (zat zs k) s) (max (leftTo s p zs k) 0) := rfl
  obtain ⟨h1, h2, h3⟩ := left_bd (s := s) (p := p) hz k
  rw [hg]
  refine ⟨by omega, by omega, fun h => ?_, fun h => ?_⟩
  · have := h2 h; omega
  · have := h3 h; omega

set_option maxRecDepth 100000 in
set_option maxHeartbeats 4000000 in
theorem give_any (a : Option Addr) (cap : Nat) (zs : List Int) (p s : Int) (w : World) (hI : Ints w.heap.size w (.slice a zs.length cap) zs) (hl : zs.length ≤ 1000) (hz : ∀ j, -9223372036854775808 ≤ zat zs j ∧ zat zs j ≤ 9223372036854775807)
    (hp : -9223372036854775808 ≤ p ∧ p ≤ 9223372036854775807) (hs : -9223372036854775808 ≤ s ∧ s ≤ 9223372036854775807) :
    Calls Try.prog 10 #[.slice a zs.length cap, .int .i64 p, .int .i64 s] w fun e w' => (∃ a' cap', e = .returned (.tuple #[.slice a' zs.length cap', .int .i64 (leftTo s p zs zs.length)]) ∧ Ints w'.heap.size w' (.slice a' zs.length cap') (gots s p zs zs.length)) ∧ Below w.heap.size w w' := by
  have HI := Lib.hid hI
  have HZ := Lib.hid hz
  have HT := Lib.hid (show ∀ j, zat zs j ≤ top63 from fun j => (hz j).2)
  have HP := Lib.hid hp
  have HS := Lib.hid hs
  clear hI hz
  go_enter Try.func10, Try.ntmps10
  go_wp2_with fail
  go_loopw [1, 8, 14] (fun q v i wr => ∃ k : Nat, k ≤ zs.length ∧ i = .int .i64 k ∧ q = .int .i64 (leftTo s p zs k) ∧ wr.ownsRow w.heap.size 2 1 v k ((gots s p zs k).map (Value.int .i64)) ∧ Below w.heap.size w wr) (fun _ _ i _ => zs.length - (intOf i).toNat)
  case atStart => exact ⟨0, by omega, rfl, rfl, World.ownsRow_nil _ _ _ _, Below.refl _ _⟩
  case round =>
    obtain ⟨k, hk, rfl, rfl, hown, hB⟩ := hrel
    have HO := Lib.hid hown
    clear hown
    by_cases hlt : k < zs.length
    · have hlt' : (k : Int) < (zs.length : Int) := by omega
      obtain ⟨b, off, ha, hb, hc⟩ := HI.out.cells hlt
      subst ha
      have hck : wr.cell? ⟨b, off + k, none⟩ = some (.int .i64 (zat zs k)) := (hB.cell (p := ⟨b, off + k, none⟩) hb).trans (hc k hlt)
      obtain ⟨L1, L2, L3⟩ := left_bd (s := s) (p := p) HT.out k
      obtain ⟨G1, G2, G3, G4⟩ := got_bd (s := s) (p := p) HT.out k
      have hW := want_bd (zat zs k) s (HT.out k)
      have HG := Lib.hid (gots_succ s p zs k)
      have HL := Lib.hid (show leftTo s p zs (k + 1) = leftTo s p zs k - gotAt s p zs k from rfl)
      have HGO := Lib.hid (show gotAt s p zs k = min (wantI (zat zs k) s) (max (leftTo s p zs k) 0) from rfl)
      clear hc
      generalize leftTo s p zs k = Q at *
      generalize gotAt s p zs k = G at *
      have hQ := hp
      have hQ1 : -9223372036854775808 ≤ Q := by
        by_cases h : 0 ≤ p
        · have := L2 h; omega
        · have := L3 (by omega); omega
      have hQ2 : Q ≤ 9223372036854775807 := by omega
      have hGQ1 : -9223372036854775808 ≤ Q - G := by
        by_cases h : 0 ≤ p
        · have := G3 h; have := L2 h; omega
        · have := G4 (by omega); omega
      have hGQ2 : Q - G ≤ 9223372036854775807 := by omega
      have HW := Lib.hid hW
      clear L1 L2 L3 G2 G3 G4 hW hQ hp hs
      go_wp2_with fail
      refine (want_any _ _ _ (HZ.out k) HS.out).mono ?_
      rintro e w' ⟨rfl, rfl⟩
      have hV := HW.out
      have HWV := Lib.hid hV
      generalize wantI (zat zs k) s = V at *
      have hVb : 0 ≤ V := hV.1
      have hcase : (Q < 0 ∧ G = 0 ∧ V = 0) ∨ (Q < 0 ∧ G = 0 ∧ 0 < V) ∨ (Q = 0 ∧ G = 0 ∧ V = 0) ∨ (Q = 0 ∧ G = 0 ∧ 0 < V) ∨ (0 < Q ∧ G = V ∧ V < Q) ∨ (0 < Q ∧ G = V ∧ V = Q) ∨ (0 < Q ∧ G = Q ∧ Q < V) := by
        have := HGO.out
        omega
      have hVt : V ≤ 9223372036854775807 := hV.2
      have hh8 : (k + 1) * 8 ≤ 140737488355328 := by omega
      have hsz := hB.size
      clear hV HWV
      rcases hcase with ⟨c1, rfl, rfl⟩ | ⟨c1, rfl, c3⟩ | ⟨rfl, rfl, rfl⟩ | ⟨rfl, rfl, c3⟩ | ⟨c1, rfl, c3⟩ | ⟨c1, rfl, rfl⟩ | ⟨c1, rfl, c3⟩
      all_goals
        go_wp2_with (at_builtin; refine append_ints Try.underlying22 Try.info2 rfl _ _ rfl w.heap.size _ k (gots s p zs k) rfl (HO.out.alloc _) (wr.heap.size + 1) _ 1 _ [_] rfl (by intro h; cases h) rfl (Ints.new1 wr 2 _) hh8 (by simp; omega) ?_; intro v' u hown' hgrow; have hB' : Below w.heap.size w u := (hB.alloc hsz _).grown hgrow (by simp; omega) (fun j e => (HO.out.lt j e).1); rw [← HG.out] at hown'; have HO' := Lib.hid hown'; clear hown' hgrow)
        go_roundw
        case rel => exact ⟨k + 1, by omega, by go_num, by rw [HL.out] <;> simp, HO'.out, hB'⟩
        case measure => simp [intOf]; omega
    · obtain rfl : k = zs.length := by omega
      obtain ⟨a', cap', rfl, _, hI2⟩ := ownsRow_intsn (gots_length s p zs _) HO.out
      have HI2 := Lib.hid hI2
      clear hI2
      go_wp2
      go_ret2
      exact ⟨⟨a', cap', rfl, HI2.out⟩, hB⟩
end Go.Proofs.Ytdijafdplkdfiaa
