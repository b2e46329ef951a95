/- A slice of events, and an event, that came in, from the row's own reading. Conditions: as each says. -/
import Derived.Test.YtcboopkalpmglaaDoorChecked
import Derived.Test.YtcboopkalpmglaaDoorEvMem
import Derived.ProofKit
import Derived.OpenShut
import Derived.DataReads
import Derived.ChangeSame
import Derived.Lib.SmallJoins
namespace Go.Proofs.YtcboopkalpmglaaDoor
set_option linter.unusedVariables false
open Go.ChangeShapes Go.WideShapes Go.ChangeAt Go.RowKit
theorem choose_list {α : Type} {P : Nat → α → Prop} (n : Nat) (h : ∀ i, i < n → ∃ z, P i z) : ∃ zs : List α, zs.length = n ∧ ∀ (i : Nat) (z : α), zs[i]? = some z → P i z := by
  induction n with
  | zero => exact ⟨[], rfl, fun i z h => by simp at h⟩
  | succ n ih =>
    obtain ⟨zs, hl, hz⟩ := ih (fun i hi => h i (by omega))
    obtain ⟨z, hp⟩ := h n (by omega)
    refine ⟨zs ++ [z], by simp [hl], fun i y hy => ?_⟩
    by_cases e : i < n
    · rw [List.getElem?_append_left (by omega)] at hy; exact hz i y hy
    · rw [List.getElem?_append_right (by omega), hl] at hy
      have hi : i - n = 0 := by have := (List.getElem?_eq_some_iff.1 hy).1; simpa using this
      rw [hi] at hy
      simp at hy
      subst hy
      obtain rfl : i = n := by omega
      exact hp
/-- A slice of rows of c cells that came in, read as a list by what its elements read. -/
theorem open_list {H : Type} {enc : TypeId × Value → H} {w : World} {base : Nat} {spare : Nat → Bool} {held : Bool} {fuel : Nat} {T E : Nat} {cs : List Value} {x : DataW H × List MemPlace} {α : Type} (F : Enc α) (G : α → Prop)
    (hT : Tryd.prog.underlying T = some (.slice E)) (hc : Tryd.prog.cellsOf E = F.c)
    (hdec : ∀ n cs y, DataW.trod enc Tryd.prog w base spare held n E cs = some y → cs.length = F.c → ∃ z, cs = F.e z ∧ G z)
    (h : DataW.trod enc Tryd.prog w base spare held fuel T cs = some x) :
    ∃ (a : Option Addr) (len cap : Nat) (zs : List α), cs = [.slice a len cap] ∧ len ≤ cap ∧ cap ≤ maxLen ∧ (a = none → len = 0 ∧ cap = 0) ∧ Rd F w.heap.size w a len zs ∧ ∀ (i : Nat) (z : α), zs[i]? = some z → G z := by
  rcases DataW.trod_slice hT h with ⟨hcs, _⟩ | ⟨ad, l, c', elems, rest, n, hfu, hcs, hx, hb, hl, hm, hlen, hel, hsp, hns⟩
  · exact ⟨none, 0, 0, [], hcs, Nat.le_refl _, Nat.zero_le _, fun _ => ⟨rfl, rfl⟩, Rd.nil, fun i z h => by simp at h⟩
  · have each : ∀ i, i < l → ∃ z, (∀ q, q < F.c → w.cell? ((ad.add (i * F.c)).add q) = (F.e z)[q]?) ∧ G z := by
      intro i hi
      have h1 := hel i hi
      have hei : elems[i]? = some (elems[i]'(by omega)) := List.getElem?_eq_getElem (by omega)
      rw [hei, hc, Option.bind_eq_some_iff] at h1
      obtain ⟨cs, hcs, hy⟩ := h1
      obtain ⟨_, k2, k3⟩ := World.cells?_some hcs
      obtain ⟨z, rfl, hg⟩ := hdec _ _ _ hy k2
      exact ⟨z, k3, hg⟩
    obtain ⟨zs, hzl, hz⟩ := choose_list l each
    refine ⟨some ad, l, c', zs, hcs, hl, hm, (fun e => by cases e), ⟨hzl, fun h0 => ?_⟩, fun i z h => (hz i z h).2⟩
    obtain ⟨z0, hz0⟩ : ∃ z, zs[0]? = some z := ⟨_, List.getElem?_eq_getElem (by omega)⟩
    have hpos := F.pos
    have hc0 := (hz 0 z0 hz0).1 0 hpos
    rw [List.getElem?_eq_getElem (by rw [F.len]; exact hpos)] at hc0
    obtain ⟨b, off, sp⟩ := ad
    have hs := World.cell?_spot hc0
    have hbl := World.block_lt_of_cell? w _ hc0
    have hsp' : sp = none := by simpa [Addr.add] using hs
    subst hsp'
    simp only [Nat.zero_mul, addr_add] at hbl
    refine ⟨b, off, rfl, hbl, fun j z hj q v hq => ?_⟩
    have hql : q < F.c := by have := (List.getElem?_eq_some_iff.1 hq).1; rw [F.len] at this; exact this
    have := (hz j z hj).1 q hql
    rw [addr_add, addr_add] at this
    rw [← Nat.add_assoc, this, hq]
theorem ev_dec {H : Type} {enc : TypeId × Value → H} {w : World} {base : Nat} {spare : Nat → Bool} {held : Bool} {fuel : Nat} {cs : List Value} {y : DataW H × List MemPlace}
    (h : DataW.trod enc Tryd.prog w base spare held fuel 34 cs = some y) (hl : cs.length = 6) : ∃ z : Ev, cs = encEv.e z ∧ z.Ok := by
  match cs, hl with
  | [u0, u1, u2, u3, u4, u5], _ =>
    obtain ⟨xs, m, _, rfl, _, hxl, hf⟩ := DataW.trod_struct Tryd.underlying34 h
    match xs, hxl with
    | [y0, y1, y2, y3, y4, y5], _ =>
      have e3 : Tryd.prog.cellsOf 3 = 1 := by kernel_rfl
      have e2 : Tryd.prog.cellsOf 2 = 1 := by kernel_rfl
      have e32 : Tryd.prog.cellsOf 32 = 1 := by kernel_rfl
      have t0 : DataW.trod enc Tryd.prog w base spare held m 3 (List.take (Tryd.prog.cellsOf 3) [u0, u1, u2, u3, u4, u5]) = some y0 := hf 0 _ rfl
      have t1 : DataW.trod enc Tryd.prog w base spare held m 3 (List.take (Tryd.prog.cellsOf 3) [u1, u2, u3, u4, u5]) = some y1 := hf 1 _ rfl
      have t2 : DataW.trod enc Tryd.prog w base spare held m 3 (List.take (Tryd.prog.cellsOf 3) [u2, u3, u4, u5]) = some y2 := hf 2 _ rfl
      have t3 : DataW.trod enc Tryd.prog w base spare held m 2 (List.take (Tryd.prog.cellsOf 2) [u3, u4, u5]) = some y3 := hf 3 _ rfl
      have t4 : DataW.trod enc Tryd.prog w base spare held m 2 (List.take (Tryd.prog.cellsOf 2) [u4, u5]) = some y4 := hf 4 _ rfl
      have t5 : DataW.trod enc Tryd.prog w base spare held m 32 (List.take (Tryd.prog.cellsOf 32) [u5]) = some y5 := hf 5 _ rfl
      simp only [e3, e2, e32, List.take] at t0 t1 t2 t3 t4 t5
      obtain ⟨n0, g0, rfl, f0⟩ := DataW.trod_int Tryd.underlying3 t0
      obtain ⟨n1, g1, rfl, f1⟩ := DataW.trod_int Tryd.underlying3 t1
      obtain ⟨n2, g2, rfl, f2⟩ := DataW.trod_int Tryd.underlying3 t2
      obtain ⟨n3, g3, rfl, f3⟩ := DataW.trod_int Tryd.underlying2 t3
      obtain ⟨n4, g4, rfl, f4⟩ := DataW.trod_int Tryd.underlying2 t4
      obtain ⟨n5, g5, rfl, f5⟩ := DataW.trod_int Tryd.underlying32 t5
      simp only [List.cons.injEq, and_true] at g0 g1 g2 g3 g4 g5
      subst g0 g1 g2 g3 g4 g5
      have b0 := bounds_i64 f0
      have b1 := bounds_i64 f1
      have b2 := bounds_i64 f2
      have b3 := bounds_i64 f3
      have b4 := bounds_i64 f4
      have b5 := bounds_u64 f5
      obtain ⟨s, rfl⟩ : ∃ s : Nat, n5 = (s : Int) := ⟨n5.toNat, by omega⟩
      exact ⟨⟨n0, n1, n2, n3, n4, s⟩, rfl, ⟨by simp only; omega, by simp only; omega, by simp only; omega, by simp only; omega, by simp only; omega, by simp only; omega⟩⟩
/-- What a walk is told of a slice of events that came in. -/
def IsEvs (w : World) (a : Option Addr) (len cap : Nat) (zs : List Ev) : Prop := len ≤ cap ∧ cap ≤ maxLen ∧ Rd encEv w.heap.size w a len zs ∧ ∀ e ∈ zs, e.Ok
theorem open_evs {H : Type} {enc : TypeId × Value → H} {w : World} {base : Nat} {spare : Nat → Bool} {held : Bool} {fuel : Nat} {a : Option Addr} {len cap : Nat} {x : DataW H × List MemPlace}
    (h : DataW.trod enc Tryd.prog w base spare held fuel 23 (Value.cells (.slice a len cap)).toList = some x) : ∃ zs, IsEvs w a len cap zs := by
  obtain ⟨a', l', c', zs, hcs, h1, h2, _, h4, h5⟩ := open_list encEv Ev.Ok Tryd.underlying23 (by kernel_rfl) (fun n cs y h hl => ev_dec h hl) h
  have hcs : [Value.slice a len cap] = [.slice a' l' c'] := hcs
  simp only [List.cons.injEq, Value.slice.injEq, and_true] at hcs
  obtain ⟨rfl, rfl, rfl⟩ := hcs
  exact ⟨zs, h1, h2, h4, fun e he => by obtain ⟨i, hi⟩ := List.getElem?_of_mem he; exact h5 i e hi⟩
/-- An event by value. -/
def IsEv (w : World) (v : Value) (z : Ev) : Prop := v = evV z ∧ z.Ok
set_option maxRecDepth 100000 in
theorem open_ev {H : Type} {enc : TypeId × Value → H} {W : World} {base b0 : Nat} {spare : Nat → Bool} {held : Bool} {v : Value} {d : DataW H} {p : List MemPlace}
    (hok : Value.okWide Tryd.prog W .any base 34 v) (h : DataW.Trod enc Tryd.prog W b0 spare held 34 v d p) : ∃ z, IsEv W v z := by
  obtain ⟨cs, rfl, hs⟩ := okWide_struct Tryd.underlying34 hok
  obtain ⟨fuel, hf⟩ := h
  have hc : Tryd.prog.cellsOf 34 = 6 := by kernel_rfl
  obtain ⟨z, hz, hk⟩ := ev_dec hf (by show cs.toList.length = 6; rw [Array.length_toList, hs, hc])
  refine ⟨z, ?_, hk⟩
  have : cs.toList = encEv.e z := hz
  obtain ⟨l⟩ := cs
  have : l = encEv.e z := this
  subst this
  rfl
end Go.Proofs.YtcboopkalpmglaaDoor
