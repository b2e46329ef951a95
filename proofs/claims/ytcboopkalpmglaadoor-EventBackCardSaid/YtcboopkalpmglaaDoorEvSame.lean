/- Two rows of events are the same. Conditions: a row's length below 2^47. -/
import Derived.Test.YtcboopkalpmglaaDoorEvMem
import Derived.Laws.StructEq
import Derived.Laws.RangeAny
import Derived.WalkSmall
import Derived.Outline
import Derived.RegionTactic
import Derived.ChangeAlike
namespace Go.Proofs.YtcboopkalpmglaaDoor
set_option linter.unusedVariables false
open Go.RowKit
theorem EvAt.below {n₀ b o : Nat} {W W' : World} {e : Ev} (h : EvAt W b o e) (hb : Below n₀ W W') (hlt : b < n₀) : EvAt W' b o e :=
  ⟨cellb hb hlt h.c0, cellb hb hlt h.c1, cellb hb hlt h.c2, cellb hb hlt h.c3, cellb hb hlt h.c4, cellb hb hlt h.c5⟩
/-- Two events: the same, or the first number in which they are not. -/
inductive Apart (x y : Ev) : Prop
  | same (h : x = y) (h0 : (x.k == y.k) = true) (h1 : (x.a == y.a) = true) (h2 : (x.b == y.b) = true) (h3 : (x.n == y.n) = true) (h4 : (x.m == y.m) = true) (h5 : ((x.s : Int) == (y.s : Int)) = true) : Apart x y
  | k (h : x ≠ y)  (h0 : (x.k == y.k) = false) : Apart x y
  | a (h : x ≠ y) (h0 : (x.k == y.k) = true) (h1 : (x.a == y.a) = false) : Apart x y
  | b (h : x ≠ y) (h0 : (x.k == y.k) = true) (h1 : (x.a == y.a) = true) (h2 : (x.b == y.b) = false) : Apart x y
  | n (h : x ≠ y) (h0 : (x.k == y.k) = true) (h1 : (x.a == y.a) = true) (h2 : (x.b == y.b) = true) (h3 : (x.n == y.n) = false) : Apart x y
  | m (h : x ≠ y) (h0 : (x.k == y.k) = true) (h1 : (x.a == y.a) = true) (h2 : (x.b == y.b) = true) (h3 : (x.n == y.n) = true) (h4 : (x.m == y.m) = false) : Apart x y
  | s (h : x ≠ y) (h0 : (x.k == y.k) = true) (h1 : (x.a == y.a) = true) (h2 : (x.b == y.b) = true) (h3 : (x.n == y.n) = true) (h4 : (x.m == y.m) = true) (h5 : ((x.s : Int) == (y.s : Int)) = false) : Apart x y
theorem apart (x y : Ev) : Apart x y := by
  cases h0 : (x.k == y.k) with
  | false => exact .k (fun h => by subst h; simp at h0) h0
  | true =>
    cases h1 : (x.a == y.a) with
    | false => exact .a (fun h => by subst h; simp at h1) h0 h1
    | true =>
      cases h2 : (x.b == y.b) with
      | false => exact .b (fun h => by subst h; simp at h2) h0 h1 h2
      | true =>
        cases h3 : (x.n == y.n) with
        | false => exact .n (fun h => by subst h; simp at h3) h0 h1 h2 h3
        | true =>
          cases h4 : (x.m == y.m) with
          | false => exact .m (fun h => by subst h; simp at h4) h0 h1 h2 h3 h4
          | true =>
            cases h5 : ((x.s : Int) == (y.s : Int)) with
            | false => exact .s (fun h => by subst h; simp at h5) h0 h1 h2 h3 h4 h5
            | true =>
              refine .same ?_ h0 h1 h2 h3 h4 h5
              obtain ⟨k, a, b, n, m, s⟩ := x
              obtain ⟨k', a', b', n', m', s'⟩ := y
              simp only [beq_iff_eq] at h0 h1 h2 h3 h4 h5
              subst h0 h1 h2 h3 h4
              rw [show s = s' by omega]
def SameGives (xs ys : List Ev) (w : World) (e : Ending) (w' : World) : Prop := ∃ r : Bool, e = .returned (.bool r) ∧ (r = true ↔ xs = ys) ∧ Below w.heap.size w w'
theorem take_next {xs ys : List Ev} {i : Nat} (h : xs.take i = ys.take i) (hx : i < xs.length) (hy : i < ys.length) (he : eat xs i = eat ys i) : xs.take (i + 1) = ys.take (i + 1) := by
  rw [List.take_add_one, List.take_add_one, eat_some hx, eat_some hy, h, he]
theorem take_apart {xs ys : List Ev} {i : Nat} (he : eat xs i ≠ eat ys i) : xs ≠ ys := fun h => he (by rw [h])
set_option maxRecDepth 20000 in
set_option maxHeartbeats 4000000 in
theorem same_any (a b : Option Addr) (n m ca cb : Nat) (xs ys : List Ev) (w : World) (hx : Rd encEv w.heap.size w a n xs) (hy : Rd encEv w.heap.size w b m ys) (hn : n ≤ 140737488351232) (hm : m ≤ 140737488351232) :
    Calls Tryd.prog 12 #[.slice a n ca, .slice b m cb] w (SameGives xs ys w) := by
  have lx := hx.1
  have ly := hy.1
  by_cases hnm : n = m
  · subst hnm
    have e0 : ((n : Int) == (n : Int)) = true := by simp
    go_enter Tryd.func12, Tryd.ntmps12
    go_wp2_with fail
    go_loopw [5] (fun vi wr => ∃ i : Nat, i ≤ n ∧ vi = .int .i64 (i : Int) ∧ xs.take i = ys.take i ∧ Below w.heap.size w wr) (fun vi _ => n - (intOf vi).toNat)
    case atStart => exact ⟨0, Nat.zero_le _, rfl, rfl, Below.refl _ _⟩
    case round =>
      obtain ⟨i, hi, rfl, ht, hb⟩ := hrel
      have HT := Lib.hid ht
      have HB := Lib.hid hb
      clear ht hb
      by_cases hlt : i < n
      · have hlt' : (i : Int) < (n : Int) := by omega
        obtain ⟨bx, ox, rfl, hbx, hcx⟩ := rd_ev hx (by omega)
        obtain ⟨bY, oy, rfl, hby, hcy⟩ := rd_ev hy (by omega)
        have HX := Lib.hid ((hcx i hlt).below HB.out hbx)
        have HY := Lib.hid ((hcy i hlt).below HB.out hby)
        clear hcx hcy
        generalize hex : eat xs i = x at HX
        generalize hey : eat ys i = y at HY
        have x0 := HX.out.c0
        have x1 := HX.out.c1
        have x2 := HX.out.c2
        have x3 := HX.out.c3
        have x4 := HX.out.c4
        have x5 := HX.out.c5
        have y0 := HY.out.c0
        have y1 := HY.out.c1
        have y2 := HY.out.c2
        have y3 := HY.out.c3
        have y4 := HY.out.c4
        have y5 := HY.out.c5
        have HEX := Lib.hid hex
        have HEY := Lib.hid hey
        clear hex hey HX HY
        have hA := apart x y
        cases hA with
        | same h g0 g1 g2 g3 g4 g5 =>
          have HE := Lib.hid h
          clear h
          go_wp2
          go_region
          all_goals
            go_wp2
            go_roundw
            case rel => exact ⟨i + 1, hlt, by go_num, take_next HT.out (by omega) (by omega) (by rw [HEX.out, HEY.out, HE.out]), below_drewN HB.out 1⟩
            case measure => simp [intOf]; omega
        | k h g0 =>
          have HE := Lib.hid (take_apart (xs := xs) (ys := ys) (i := i) (by rw [HEX.out, HEY.out]; exact h))
          clear h
          go_wp2
          go_region
          all_goals
            go_wp2
            go_ret
            exact ⟨false, rfl, ⟨(fun h => nomatch h), fun h => absurd h HE.out⟩, below_drewN HB.out 1⟩
        | a h g0 g1 =>
          have HE := Lib.hid (take_apart (xs := xs) (ys := ys) (i := i) (by rw [HEX.out, HEY.out]; exact h))
          clear h
          go_wp2
          go_region
          all_goals
            go_wp2
            go_ret
            exact ⟨false, rfl, ⟨(fun h => nomatch h), fun h => absurd h HE.out⟩, below_drewN HB.out 1⟩
        | b h g0 g1 g2 =>
          have HE := Lib.hid (take_apart (xs := xs) (ys := ys) (i := i) (by rw [HEX.out, HEY.out]; exact h))
          clear h
          go_wp2
          go_region
          all_goals
            go_wp2
            go_ret
            exact ⟨false, rfl, ⟨(fun h => nomatch h), fun h => absurd h HE.out⟩, below_drewN HB.out 1⟩
        | n h g0 g1 g2 g3 =>
          have HE := Lib.hid (take_apart (xs := xs) (ys := ys) (i := i) (by rw [HEX.out, HEY.out]; exact h))
          clear h
          go_wp2
          go_region
          all_goals
            go_wp2
            go_ret
            exact ⟨false, rfl, ⟨(fun h => nomatch h), fun h => absurd h HE.out⟩, below_drewN HB.out 1⟩
        | m h g0 g1 g2 g3 g4 =>
          have HE := Lib.hid (take_apart (xs := xs) (ys := ys) (i := i) (by rw [HEX.out, HEY.out]; exact h))
          clear h
          go_wp2
          go_region
          all_goals
            go_wp2
            go_ret
            exact ⟨false, rfl, ⟨(fun h => nomatch h), fun h => absurd h HE.out⟩, below_drewN HB.out 1⟩
        | s h g0 g1 g2 g3 g4 g5 =>
          have HE := Lib.hid (take_apart (xs := xs) (ys := ys) (i := i) (by rw [HEX.out, HEY.out]; exact h))
          clear h
          go_wp2
          go_region
          all_goals
            go_wp2
            go_ret
            exact ⟨false, rfl, ⟨(fun h => nomatch h), fun h => absurd h HE.out⟩, below_drewN HB.out 1⟩
      · have hlt' : ¬ (i : Int) < (n : Int) := by omega
        obtain rfl : i = n := by omega
        have HE := Lib.hid (show xs = ys by have := HT.out; rwa [List.take_of_length_le (by omega), List.take_of_length_le (by omega)] at this)
        go_wp2
        go_ret
        exact ⟨true, rfl, ⟨fun _ => HE.out, fun _ => rfl⟩, HB.out⟩
  · have e0 : ((n : Int) == (m : Int)) = false := by simp; omega
    go_enter Tryd.func12, Tryd.ntmps12
    go_wp2
    go_ret
    exact ⟨false, rfl, ⟨(fun h => nomatch h), fun h => absurd (congrArg List.length h) (by omega)⟩, Below.refl _ _⟩
end Go.Proofs.YtcboopkalpmglaaDoor
