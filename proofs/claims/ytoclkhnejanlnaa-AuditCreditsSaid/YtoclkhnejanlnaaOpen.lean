/- A slice that came in reads as a list, from the row's own reading of it, whatever the elements. Conditions: as each says. -/
import Derived.Test.YtoclkhnejanlnaaChecked
import Derived.Test.YtoclkhnejanlnaaMem
import Derived.ProofKit
import Derived.OpenShut
import Derived.DataReads
import Derived.ChangeSame
import Derived.Lib.SmallJoins
namespace Go.Proofs.Ytoclkhnejanlnaa
set_option linter.unusedVariables false
open Go.ChangeShapes Go.WideShapes Go.ChangeAt Go.RowKit
theorem choose_list {α : Type} {P : Nat → α → Prop} (n : Nat) (h : ∀ i, i < n → ∃ z, P i z) : ∃ zs : List α, zs.length = n ∧ ∀ (i : Nat) (z : α), zs[i]? = some z → P i z := by
  induction n with
  | zero => exact ⟨[], rfl, fun i z h => by simp at h⟩
  | succ n ih =>
    obtain ⟨zs, hl, hz⟩ := ih (fun i hi => h i (by omega))
    obtain ⟨z, hp⟩ := h n (by omega)
    refine ⟨zs ++ [z], by simp [hl], fun i y hy => ?_⟩
    by_cases e : i < n
    · rw [List.getElem?_append_left (by omega)] at hy; exact hz i y hy
    · rw [List.getElem?_append_right (by omega), hl] at hy
      have hi : i - n = 0 := by have := (List.getElem?_eq_some_iff.1 hy).1; simpa using this
      rw [hi] at hy
      simp at hy
      subst hy
      obtain rfl : i = n := by omega
      exact hp
/-- A slice of rows of c cells that came in, read as a list by what its elements read. -/
theorem open_list {H : Type} {enc : TypeId × Value → H} {w : World} {base : Nat} {spare : Nat → Bool} {held : Bool} {fuel : Nat} {T E : Nat} {cs : List Value} {x : DataW H × List MemPlace} {α : Type} (F : Enc α) (G : α → Prop)
    (hT : Try.prog.underlying T = some (.slice E)) (hc : Try.prog.cellsOf E = F.c)
    (hdec : ∀ n cs y, DataW.trod enc Try.prog w base spare held n E cs = some y → cs.length = F.c → ∃ z, cs = F.e z ∧ G z)
    (h : DataW.trod enc Try.prog w base spare held fuel T cs = some x) :
    ∃ (a : Option Addr) (len cap : Nat) (zs : List α), cs = [.slice a len cap] ∧ len ≤ cap ∧ cap ≤ 9223372036854775807 ∧ (a = none → len = 0 ∧ cap = 0) ∧ Rd F w.heap.size w a len zs ∧ ∀ (i : Nat) (z : α), zs[i]? = some z → G z := by
  rcases DataW.trod_slice hT h with ⟨hcs, _⟩ | ⟨ad, l, c', elems, rest, n, hfu, hcs, hx, hb, hl, hm, hlen, hel, hsp, hns⟩
  · exact ⟨none, 0, 0, [], hcs, Nat.le_refl _, by decide, fun _ => ⟨rfl, rfl⟩, Rd.nil, fun i z h => by simp at h⟩
  · have each : ∀ i, i < l → ∃ z, (∀ q, q < F.c → w.cell? ((ad.add (i * F.c)).add q) = (F.e z)[q]?) ∧ G z := by
      intro i hi
      have h1 := hel i hi
      have hei : elems[i]? = some (elems[i]'(by omega)) := List.getElem?_eq_getElem (by omega)
      rw [hei, hc, Option.bind_eq_some_iff] at h1
      obtain ⟨cs, hcs, hy⟩ := h1
      obtain ⟨_, k2, k3⟩ := World.cells?_some hcs
      obtain ⟨z, rfl, hg⟩ := hdec _ _ _ hy k2
      exact ⟨z, k3, hg⟩
    obtain ⟨zs, hzl, hz⟩ := choose_list l each
    refine ⟨some ad, l, c', zs, hcs, hl, by unfold maxLen at hm; omega, (fun e => by cases e), ⟨hzl, fun h0 => ?_⟩, fun i z h => (hz i z h).2⟩
    obtain ⟨z0, hz0⟩ : ∃ z, zs[0]? = some z := ⟨_, List.getElem?_eq_getElem (by omega)⟩
    have hpos := F.pos
    have hc0 := (hz 0 z0 hz0).1 0 hpos
    rw [List.getElem?_eq_getElem (by rw [F.len]; exact hpos)] at hc0
    obtain ⟨b, off, sp⟩ := ad
    have hs := World.cell?_spot hc0
    have hbl := World.block_lt_of_cell? w _ hc0
    have hsp' : sp = none := by simpa [Addr.add] using hs
    subst hsp'
    simp only [Nat.zero_mul, addr_add] at hbl
    refine ⟨b, off, rfl, hbl, fun j z hj q v hq => ?_⟩
    have hql : q < F.c := by have := (List.getElem?_eq_some_iff.1 hq).1; rw [F.len] at this; exact this
    have := (hz j z hj).1 q hql
    rw [addr_add, addr_add] at this
    rw [← Nat.add_assoc, this, hq]
end Go.Proofs.Ytoclkhnejanlnaa
