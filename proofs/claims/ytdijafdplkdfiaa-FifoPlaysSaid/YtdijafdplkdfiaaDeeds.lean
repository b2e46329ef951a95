/- A slice of deeds that came in reads as a list of pairs, from the row's own reading of it. No condition. -/
import Derived.Test.YtdijafdplkdfiaaPlays
import Derived.ProofKit
import Derived.OpenShut
import Derived.DataReads
namespace Go.Proofs.Ytdijafdplkdfiaa
set_option linter.unusedVariables false
open Go.ChangeShapes Go.WideShapes Go.ChangeAt Go.RowKit

/-- A slice of rows of c cells that came in: the cells of each row, and how the reading goes on there. -/
theorem open_rows {H : Type} {enc : TypeId × Value → H} {w : World} {base : Nat} {spare : Nat → Bool} {held : Bool} {fuel : Nat} {T E c : Nat} {a : Option Addr} {len cap : Nat} {x : DataW H × List MemPlace}
    (hT : Try.prog.underlying T = some (.slice E)) (hc : Try.prog.cellsOf E = c) (hc0 : 0 < c)
    (h : DataW.trod enc Try.prog w base spare held fuel T (Value.cells (.slice a len cap)).toList = some x) :
    (a = none ∧ len = 0 ∧ cap = 0) ∨ ∃ (ad : Addr) (elems : List (DataW H × List MemPlace)) (n : Nat), a = some ad ∧ len ≤ cap ∧ cap ≤ maxLen ∧ elems.length = len ∧ (0 < len → ad.block < w.heap.size ∧ ad.spot = none) ∧
      ∀ i, i < len → ∃ (cs : List Value) (y : DataW H × List MemPlace), cs.length = c ∧ (∀ q, q < c → w.cell? ⟨ad.block, ad.off + (i * c + q), none⟩ = cs[q]?) ∧ elems[i]? = some y ∧ DataW.trod enc Try.prog w base spare held n E cs = some y := by
  rcases DataW.trod_slice hT h with ⟨hcs, _⟩ | ⟨ad, l, c', elems, rest, n, hfu, hcs, hx, hb, hl, hm, hlen, hel, hsp, hns⟩
  · simp [Value.cells] at hcs
    exact .inl hcs
  · simp [Value.cells] at hcs
    obtain ⟨rfl, rfl, rfl⟩ := hcs
    have each : ∀ i, i < len → ∃ (cs : List Value) (y : DataW H × List MemPlace), cs.length = c ∧ (∀ q, q < c → w.cell? ((ad.add (i * c)).add q) = cs[q]?) ∧ elems[i]? = some y ∧ DataW.trod enc Try.prog w base spare held n E cs = some y := by
      intro i hi
      have h1 := hel i hi
      have hei : elems[i]? = some (elems[i]'(by omega)) := List.getElem?_eq_getElem (by omega)
      rw [hei, hc, Option.bind_eq_some_iff] at h1
      obtain ⟨cs, hcs, hy⟩ := h1
      obtain ⟨_, k2, k3⟩ := World.cells?_some hcs
      exact ⟨cs, _, k2, k3, hei, hy⟩
    have spot : 0 < len → ad.block < w.heap.size ∧ ad.spot = none := by
      intro h0
      obtain ⟨cs, y, k1, k2, _⟩ := each 0 h0
      have hc := k2 0 hc0
      rw [List.getElem?_eq_getElem (by omega)] at hc
      obtain ⟨b, off, sp⟩ := ad
      have hs := World.cell?_spot hc
      have hb := World.block_lt_of_cell? w _ hc
      have hsp : sp = none := by simpa [Addr.add] using hs
      subst hsp
      simp only [Nat.zero_mul, addr_add] at hb
      exact ⟨hb, rfl⟩
    refine .inr ⟨ad, elems, n, rfl, hl, hm, hlen, spot, fun i hi => ?_⟩
    obtain ⟨cs, y, k1, k2, k3, k4⟩ := each i hi
    obtain ⟨b, off, sp⟩ := ad
    obtain ⟨_, hsp⟩ := spot (by omega)
    simp only at hsp
    subst hsp
    refine ⟨cs, y, k1, fun q hq => ?_, k3, k4⟩
    have := k2 q hq
    rw [addr_add, addr_add] at this
    simp only
    rw [show off + (i * c + q) = off + i * c + q by omega]
    exact this

/-- What the walk is told of a slice of deeds that came in. -/
def IsDeeds (w : World) (a : Option Addr) (len cap : Nat) (zs : List (Int × Int)) : Prop :=
  zs.length = len ∧ len ≤ 9223372036854775807 ∧ (len = 0 ∨ ∃ b off, a = some ⟨b, off, none⟩ ∧ b < w.heap.size ∧ ∀ j, j < len → w.cell? ⟨b, off + j * 2, none⟩ = some (.int .i64 (zs.getD j (0, 0)).1) ∧ w.cell? ⟨b, off + j * 2 + 1, none⟩ = some (.int .i64 (zs.getD j (0, 0)).2) ∧
    (Lit.int .i64 (zs.getD j (0, 0)).1).wf = true ∧ (Lit.int .i64 (zs.getD j (0, 0)).2).wf = true)
def deedOf {H : Type} (y : DataW H × List MemPlace) : Int × Int := match y.1 with | .agg [.lit (.int _ k), .lit (.int _ p)] => (k, p) | _ => (0, 0)
theorem open_deeds {H : Type} {enc : TypeId × Value → H} {w : World} {base : Nat} {spare : Nat → Bool} {held : Bool} {fuel : Nat} {a : Option Addr} {len cap : Nat} {x : DataW H × List MemPlace}
    (h : DataW.trod enc Try.prog w base spare held fuel 42 (Value.cells (.slice a len cap)).toList = some x) : ∃ zs, IsDeeds w a len cap zs := by
  rcases open_rows Try.underlying42 (c := 2) (by kernel_rfl) (by omega) h with ⟨rfl, rfl, rfl⟩ | ⟨ad, elems, n, rfl, hl, hm, hlen, hs, each⟩
  · exact ⟨[], rfl, by decide, .inl rfl⟩
  · refine ⟨elems.map deedOf, by simp [hlen], by unfold maxLen at hm; omega, ?_⟩
    by_cases h0 : len = 0
    · exact .inl h0
    · obtain ⟨b, off, sp⟩ := ad
      obtain ⟨hb, hsp⟩ := hs (by omega)
      simp only at hsp hb
      subst hsp
      refine .inr ⟨b, off, rfl, hb, fun j hj => ?_⟩
      obtain ⟨cs, y, k1, k2, k3, k4⟩ := each j hj
      match cs, k1 with
      | [u, v], _ =>
        have c0 := k2 0 (by omega)
        have c1 := k2 1 (by omega)
        obtain ⟨y0, y1, m, rfl, _, t0, t1⟩ := trod_struct2 Try.underlying44 k4
        have e3 : Try.prog.cellsOf 3 = 1 := by kernel_rfl
        simp only [e3, List.drop, List.take] at t0 t1
        obtain ⟨n0, e0, rfl, f0⟩ := DataW.trod_int Try.underlying3 t0
        obtain ⟨n1, e1, rfl, f1⟩ := DataW.trod_int Try.underlying3 t1
        simp only [List.cons.injEq, and_true] at e0 e1
        subst e0 e1
        have hd : (elems.map deedOf).getD j (0, 0) = (n0, n1) := by simp [List.getD, k3, deedOf]
        rw [hd]
        refine ⟨by simpa using c0, ?_, f0, f1⟩
        rw [show off + j * 2 + 1 = off + (j * 2 + 1) by omega]
        simpa using c1
end Go.Proofs.Ytdijafdplkdfiaa
