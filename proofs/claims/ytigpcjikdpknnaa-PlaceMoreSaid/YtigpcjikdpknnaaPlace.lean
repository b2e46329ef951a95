/- Package place and the document's own words for it: which P is idle, the lowest idle one, the P where a task wakes. Conditions: the slices read as lists within the reach. -/
import Derived.Test.YtigpcjikdpknnaaLawB
namespace Go.Proofs.Ytigpcjikdpknnaa
set_option linter.unusedVariables false
open Go.RowKit

def bat (bs : List Bool) (p : Nat) : Bool := bs[p]?.getD false
/-- The slice value reads as the truths bs, in a block below n₀. -/
def Bools (n₀ : Nat) (W : World) (sv : Value) (bs : List Bool) : Prop :=
  ((∃ a cap, sv = .slice a 0 cap) ∧ bs = []) ∨ ∃ b off cap, sv = .slice (some ⟨b, off, none⟩) bs.length cap ∧ b < n₀ ∧ ∀ j, j < bs.length → W.cell? ⟨b, off + j, none⟩ = some (.bool (bat bs j))
theorem Bools.below {n₀ : Nat} {A B : World} (h : Below n₀ A B) {sv : Value} {bs : List Bool} : Bools n₀ A sv bs → Bools n₀ B sv bs
  | .inl e => .inl e
  | .inr ⟨b, off, cap, e, hb, hc⟩ => .inr ⟨b, off, cap, e, hb, fun j hj => (h.cell (p := ⟨b, off + j, none⟩) hb).trans (hc j hj)⟩
theorem Bools.grow {n₀ n₁ : Nat} {A : World} (hn : n₀ ≤ n₁) {sv : Value} {bs : List Bool} : Bools n₀ A sv bs → Bools n₁ A sv bs
  | .inl e => .inl e
  | .inr ⟨b, off, cap, e, hb, hc⟩ => .inr ⟨b, off, cap, e, by omega, hc⟩
theorem Bools.cells {n₀ : Nat} {W : World} {a : Option Addr} {n cap : Nat} {bs : List Bool} (h : Bools n₀ W (.slice a n cap) bs) {p : Nat} (hp : p < bs.length) :
    ∃ b off, a = some ⟨b, off, none⟩ ∧ b < n₀ ∧ ∀ j, j < bs.length → W.cell? ⟨b, off + j, none⟩ = some (.bool (bat bs j)) := by
  rcases h with ⟨_, rfl⟩ | ⟨b, off, c, h1, hb, hc⟩
  · simp at hp
  · simp only [Value.slice.injEq] at h1
    exact ⟨b, off, h1.1, hb, hc⟩
theorem bx0 {A B : World} (h : Below A.heap.size A B) {sv : Value} {bs : List Bool} (hI : Bools A.heap.size A sv bs) : Bools B.heap.size B sv bs := (hI.below h).grow h.size

/-- P p is idle. -/
def idleB (zs : List Int) (bs : List Bool) (m : Int) (p : Nat) : Bool := mayB zs m p && (zat zs p == 0 && (decide (bs.length ≤ p) || !bat bs p))
def idleI (zs : List Int) (bs : List Bool) (m p : Int) : Bool := decide (0 ≤ p) && idleB zs bs m p.toNat
def mayI (zs : List Int) (m p : Int) : Bool := decide (0 ≤ p) && mayB zs m p.toNat
def placeIdle (zs : List Int) (bs : List Bool) (m : Int) : Int := firstP (idleB zs bs m) zs.length
def choose (zs : List Int) (bs : List Bool) (prev m : Int) : Int × Int :=
  if least zs m < 0 then (0, 9) else if idleI zs bs m prev = true then (prev, 0) else if 0 ≤ placeIdle zs bs m then (placeIdle zs bs m, 0)
  else if mayI zs m prev = true ∧ zat zs prev.toNat ≤ zat zs (least zs m).toNat then (prev, 0) else (least zs m, 0)
theorem idleI_nat (zs : List Int) (bs : List Bool) (m : Int) (p : Nat) : idleI zs bs m p = idleB zs bs m p := by simp [idleI]
theorem mayI_nat (zs : List Int) (m : Int) (p : Nat) : mayI zs m p = mayB zs m p := by simp [mayI]

theorem may_cases (zs : List Int) (m : Int) (p : Nat) : (mayB zs m p = false ∧ ¬ p < zs.length) ∨ (mayB zs m p = false ∧ p < zs.length ∧ ¬ p < 64) ∨ (p < zs.length ∧ p < 64 ∧ mayB zs m p = tb m p) := by
  unfold mayB
  by_cases h1 : p < zs.length
  · by_cases h2 : p < 64
    · exact .inr (.inr ⟨h1, h2, by simp [h1, h2]⟩)
    · exact .inr (.inl ⟨by simp [h2], h1, h2⟩)
  · exact .inl ⟨by simp [h1], h1⟩

set_option maxRecDepth 100000 in
set_option maxHeartbeats 4000000 in
/-- The closure that asks a P. -/
theorem idle1_any (p : Int) (a : Option Addr) (cap : Nat) (ra : Option Addr) (rlen rcap : Nat) (zs : List Int) (bs : List Bool) (m : Int) (b0 b1 b2 : Nat) (w : World) (n₀ : Nat)
    (hI : Ints n₀ w (.slice a zs.length cap) zs) (hR : Bools n₀ w (.slice ra rlen rcap) bs) (hrl : bs.length = rlen) (hl : zs.length ≤ 1000) (hrm : rlen ≤ 9223372036854775807)
    (c0 : w.cell? ⟨b0, 0, none⟩ = some (.slice a zs.length cap)) (c1 : w.cell? ⟨b1, 0, none⟩ = some (.int .u64 m)) (c2 : w.cell? ⟨b2, 0, none⟩ = some (.slice ra rlen rcap)) :
    Calls Try.prog 38 #[.int .i64 p, .pointer (some ⟨b0, 0, none⟩), .pointer (some ⟨b1, 0, none⟩), .pointer (some ⟨b2, 0, none⟩)] w fun e w' => e = .returned (.bool (idleI zs bs m p)) ∧ w = w' := by
  have HI := Lib.hid hI
  have HR := Lib.hid hR
  have HL := Lib.hid hrl
  clear hI hR hrl
  by_cases hp : 0 ≤ p
  · obtain ⟨k, rfl⟩ := Int.eq_ofNat_of_zero_le hp
    rw [idleI_nat]
    rcases may_cases zs m k with ⟨hm, h1⟩ | ⟨hm, h1, h2⟩ | ⟨h1, h2, hm⟩
    · have HD := Lib.hid (show idleB zs bs m k = false by unfold idleB; rw [hm]; rfl)
      have h1' : ¬ (k : Int) < (zs.length : Int) := by omega
      clear hm h1
      go_enter Try.func38, Try.ntmps38
      go_wp2
      go_ret
      exact ⟨by rw [HD.out]; rfl, rfl⟩
    · have HD := Lib.hid (show idleB zs bs m k = false by unfold idleB; rw [hm]; rfl)
      have h1' : (k : Int) < (zs.length : Int) := by omega
      have h2' : ¬ (k : Int) < 64 := by omega
      clear hm h1 h2
      go_enter Try.func38, Try.ntmps38
      go_wp2
      go_ret
      exact ⟨by rw [HD.out]; rfl, rfl⟩
    · have h1' : (k : Int) < (zs.length : Int) := by omega
      have h2' : (k : Int) < 64 := by omega
      have hte : (bits BinOp.and IntKind.u64 (m / 2 ^ k) 1 == 1) = tb m k := rfl
      cases ht : tb m k
      · have HD := Lib.hid (show idleB zs bs m k = false by unfold idleB; rw [hm, ht]; rfl)
        rw [ht] at hte
        clear hm h1 h2 ht
        go_enter Try.func38, Try.ntmps38
        go_wp2
        go_ret
        exact ⟨by rw [HD.out]; rfl, rfl⟩
      · rw [ht] at hm hte
        obtain ⟨b, off, ha, hb, hc⟩ := HI.out.cells h1
        subst ha
        have hck := hc k h1
        cases hz : (zat zs k == 0)
        · have HD := Lib.hid (show idleB zs bs m k = false by unfold idleB; rw [hm, hz]; rfl)
          clear hm h1 h2 ht hc
          go_enter Try.func38, Try.ntmps38
          go_wp2
          go_ret
          exact ⟨by rw [HD.out]; rfl, rfl⟩
        · by_cases hr : bs.length ≤ k
          · have HD := Lib.hid (show idleB zs bs m k = true by unfold idleB; rw [hm, hz]; simp [hr])
            have hr' : (rlen : Int) ≤ (k : Int) := by have := HL.out; omega
            clear hm h1 h2 ht hc hr
            go_enter Try.func38, Try.ntmps38
            go_wp2
            go_ret
            exact ⟨by rw [HD.out]; rfl, rfl⟩
          · have HD := Lib.hid (show idleB zs bs m k = !bat bs k by unfold idleB; rw [hm, hz]; simp [hr])
            have hr' : ¬ (rlen : Int) ≤ (k : Int) := by have := HL.out; omega
            have hr2 : (k : Int) < (rlen : Int) := by omega
            have hr3 : k < rlen := by omega
            obtain ⟨b', off', ha', hb', hc'⟩ := HR.out.cells (show k < bs.length by omega)
            subst ha'
            have hcr := hc' k (by omega)
            clear hm h1 h2 ht hc hc' hr
            go_enter Try.func38, Try.ntmps38
            go_wp2
            go_ret
            exact ⟨by rw [HD.out]; rfl, rfl⟩
  · have HD := Lib.hid (show idleI zs bs m p = false by unfold idleI; rw [decide_eq_false hp]; rfl)
    go_enter Try.func38, Try.ntmps38
    go_wp2
    go_ret
    exact ⟨by rw [HD.out]; rfl, rfl⟩

/-- What 'idle' makes: three boxes. -/
theorem mkidle_any (a : Option Addr) (len cap : Nat) (ra : Option Addr) (rlen rcap : Nat) (m : Int) (w : World) :
    Calls Try.prog 36 #[.slice a len cap, .slice ra rlen rcap, .int .u64 m] w fun e w' => e = .returned (.func (.func 38) #[] #[.pointer (some ⟨w.heap.size, 0, none⟩), .pointer (some ⟨w.heap.size + 1 + 1, 0, none⟩), .pointer (some ⟨w.heap.size + 1, 0, none⟩)]) ∧
      Below w.heap.size w w' ∧ w.heap.size + 3 ≤ w'.heap.size ∧ w'.cell? ⟨w.heap.size, 0, none⟩ = some (.slice a len cap) ∧ w'.cell? ⟨w.heap.size + 1, 0, none⟩ = some (.slice ra rlen rcap) ∧ w'.cell? ⟨w.heap.size + 1 + 1, 0, none⟩ = some (.int .u64 m) := by
  go_enter Try.func36, Try.ntmps36
  go_wp2
  go_ret
  refine ⟨rfl, (((Below.refl _ w).alloc (Nat.le_refl _) _).alloc (by simp) _).alloc (by simp; omega) _, by simp, ?_, ?_, ?_⟩
  · have b0 := Boxed.new w 22 (.slice a len cap)
    exact ((b0.alloc _).alloc _).cell
  · have b1 := Boxed.new (w.alloc (.cells #[.slice a len cap] 22)) 34 (.slice ra rlen rcap)
    rw [World.size_alloc] at b1
    exact (b1.alloc _).cell
  · have b2 := Boxed.new ((w.alloc (.cells #[.slice a len cap] 22)).alloc (.cells #[.slice ra rlen rcap] 34)) 23 (.int .u64 m)
    simp only [World.size_alloc] at b2
    exact b2.cell

set_option maxRecDepth 100000 in
set_option maxHeartbeats 4000000 in
/-- The lowest idle P. -/
theorem placeIdle_any (a : Option Addr) (cap : Nat) (ra : Option Addr) (rlen rcap : Nat) (zs : List Int) (bs : List Bool) (m : Int) (w : World)
    (hI : Ints w.heap.size w (.slice a zs.length cap) zs) (hR : Bools w.heap.size w (.slice ra rlen rcap) bs) (hrl : bs.length = rlen) (hl : zs.length ≤ 1000) (hrm : rlen ≤ 9223372036854775807) :
    Calls Try.prog 32 #[.slice a zs.length cap, .slice ra rlen rcap, .int .u64 m] w fun e w' => e = .returned (.int .i64 (placeIdle zs bs m)) ∧ Below w.heap.size w w' := by
  have HI := Lib.hid hI
  have HR := Lib.hid hR
  have HL := Lib.hid hrl
  clear hI hR hrl
  go_enter Try.func32, Try.ntmps32
  go_wp2_with fail
  refine (mkidle_any _ _ _ _ _ _ _ _).mono ?_
  rintro e w1 ⟨rfl, hb1, hs1, c0, c1, c2⟩
  have HI1 := Lib.hid (nx0 hb1 HI.out)
  have HR1 := Lib.hid (bx0 hb1 HR.out)
  go_wp2_with fail
  go_loop [15] (fun i => ∃ k : Nat, k ≤ zs.length ∧ i = .int .i64 k ∧ ∀ q, q < k → idleB zs bs m q = false) (fun i => zs.length - (intOf i).toNat)
  case atStart => exact ⟨0, by omega, rfl, fun q h => by omega⟩
  case round =>
    obtain ⟨k, hk, rfl, hno⟩ := hrel
    have HN := Lib.hid hno
    clear hno
    by_cases hlt : k < zs.length
    · have hlt' : (k : Int) < (zs.length : Int) := by omega
      cases hid : idleB zs bs m k
      · have HD := Lib.hid (show idleI zs bs m k = false by rw [idleI_nat]; exact hid)
        have HD2 := Lib.hid hid
        clear hid
        go_wp2_with fail
        refine (idle1_any _ _ _ _ _ _ zs bs m _ _ _ _ _ HI1.out HR1.out HL.out hl hrm c0 c2 c1).mono ?_
        rintro e w' ⟨rfl, rfl⟩
        rw [HD.out]
        go_wp2
        go_round
        case rel => exact ⟨k + 1, by omega, by go_num, fun q hq => by
          by_cases e : q = k
          · subst e; exact HD2.out
          · exact HN.out q (by omega)⟩
        case measure => simp [intOf]; omega
      · have HD := Lib.hid (show idleI zs bs m k = true by rw [idleI_nat]; exact hid)
        have HF := Lib.hid (show placeIdle zs bs m = k from firstP_at hlt hid HN.out)
        clear hid
        go_wp2_with fail
        refine (idle1_any _ _ _ _ _ _ zs bs m _ _ _ _ _ HI1.out HR1.out HL.out hl hrm c0 c2 c1).mono ?_
        rintro e w' ⟨rfl, rfl⟩
        rw [HD.out]
        go_wp2
        go_ret
        exact ⟨by rw [HF.out]; rfl, hb1⟩
    · obtain rfl : k = zs.length := by omega
      have HF := Lib.hid (show placeIdle zs bs m = -1 from firstP_none HN.out)
      go_wp2
      go_ret
      exact ⟨by rw [HF.out]; rfl, hb1⟩
end Go.Proofs.Ytigpcjikdpknnaa
