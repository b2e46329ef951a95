/- A slice of truths that came in reads as a list, from the row's own reading of it. No condition. -/
import Derived.Test.YtigpcjikdpknnaaRefPlace
import Derived.ProofKit
import Derived.OpenShut
namespace Go.Proofs.Ytigpcjikdpknnaa
set_option linter.unusedVariables false
open Go.ChangeShapes Go.WideShapes Go.ChangeAt Go.RowKit

/-- What the walk is told of a slice of truths that came in. -/
def IsBools (w : World) (a : Option Addr) (len cap : Nat) (bs : List Bool) : Prop :=
  bs.length = len ∧ len ≤ 9223372036854775807 ∧ Bools w.heap.size w (.slice a len cap) bs
def boolOf {H : Type} (y : DataW H × List MemPlace) : Bool := match y.1 with | .lit (.bool b) => b | _ => false
theorem open_bools {H : Type} {enc : TypeId × Value → H} {w : World} {base : Nat} {spare : Nat → Bool} {held : Bool} {fuel : Nat} {a : Option Addr} {len cap : Nat} {x : DataW H × List MemPlace}
    (h : DataW.trod enc Try.prog w base spare held fuel 34 (Value.cells (.slice a len cap)).toList = some x) : ∃ bs, IsBools w a len cap bs := by
  rcases DataW.trod_slice Try.underlying34 h with ⟨hcs, _⟩ | ⟨ad, l, c, elems, rest, n, hfu, hcs, hx, hb, hl, hm, hlen, hel, hsp, hns⟩
  · simp [Value.cells] at hcs
    obtain ⟨rfl, rfl, rfl⟩ := hcs
    exact ⟨[], rfl, by decide, .inl ⟨⟨_, _, rfl⟩, rfl⟩⟩
  · simp [Value.cells] at hcs
    obtain ⟨rfl, rfl, rfl⟩ := hcs
    have hc1 : Try.prog.cellsOf 4 = 1 := by kernel_rfl
    have each : ∀ i, i < len → w.cell? (ad.add i) = some (.bool (bat (elems.map boolOf) i)) := by
      intro i hi
      have h1 := hel i hi
      have hei : elems[i]? = some (elems[i]'(by omega)) := List.getElem?_eq_getElem (by omega)
      rw [hei, hc1, Nat.mul_one, Option.bind_eq_some_iff] at h1
      obtain ⟨cs', hcs', hy⟩ := h1
      obtain ⟨b, rfl, he⟩ := DataW.trod_bool Try.underlying4 hy
      have := cell_of_cells?_one hcs'
      rw [this]
      have hbt : bat (elems.map boolOf) i = b := by unfold bat; rw [List.getElem?_map, hei, he]; rfl
      rw [hbt]
    refine ⟨elems.map boolOf, by simp [hlen], by unfold maxLen at hm; omega, ?_⟩
    by_cases h0 : len = 0
    · subst h0
      have : elems = [] := List.length_eq_zero_iff.1 hlen
      subst this
      exact .inl ⟨⟨_, _, rfl⟩, rfl⟩
    · obtain ⟨b, off, spot⟩ := ad
      have hc := each 0 (by omega)
      have hspot : spot = none := by simpa [Addr.add] using World.cell?_spot hc
      subst hspot
      refine .inr ⟨b, off, cap, by simp [hlen], ?_, fun j hj => ?_⟩
      · have := World.block_lt_of_cell? w _ hc
        simpa [Addr.add] using this
      · have := each j (by simpa [hlen] using hj)
        have ea : (⟨b, off, none⟩ : Addr).add j = ⟨b, off + j, none⟩ := by
          by_cases e : j = 0
          · subst e; simp [Addr.add]
          · simp [Addr.add, e]
        rwa [ea] at this
end Go.Proofs.Ytigpcjikdpknnaa
