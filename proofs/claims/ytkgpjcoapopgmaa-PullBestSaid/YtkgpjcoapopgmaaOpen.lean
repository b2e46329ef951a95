/- A slice of tasks that came in reads as a list, from the row's own reading of it; the cut to a hundred. No condition. -/
import Derived.Test.YtkgpjcoapopgmaaChoose
import Derived.ProofKit
import Derived.OpenShut
import Derived.DataReads
import Derived.ChangeSame
namespace Go.Proofs.Ytkgpjcoapopgmaa
set_option linter.unusedVariables false
open Go.ChangeShapes Go.WideShapes Go.ChangeAt Go.RowKit
theorem addr_add (b off j : Nat) : (⟨b, off, none⟩ : Addr).add j = ⟨b, off + j, none⟩ := by
  by_cases e : j = 0
  · subst e; simp [Addr.add]
  · simp [Addr.add, e]
/-- A slice of rows of c cells that came in: the cells of each row, and how the reading goes on there. -/
theorem open_rows {H : Type} {enc : TypeId × Value → H} {w : World} {base : Nat} {spare : Nat → Bool} {held : Bool} {fuel : Nat} {T E c : Nat} {a : Option Addr} {len cap : Nat} {x : DataW H × List MemPlace}
    (hT : Try.prog.underlying T = some (.slice E)) (hc : Try.prog.cellsOf E = c) (hc0 : 0 < c)
    (h : DataW.trod enc Try.prog w base spare held fuel T (Value.cells (.slice a len cap)).toList = some x) :
    (a = none ∧ len = 0 ∧ cap = 0) ∨ ∃ (ad : Addr) (elems : List (DataW H × List MemPlace)) (n : Nat), a = some ad ∧ len ≤ cap ∧ cap ≤ maxLen ∧ elems.length = len ∧ (0 < len → ad.block < w.heap.size ∧ ad.spot = none) ∧
      ∀ i, i < len → ∃ (cs : List Value) (y : DataW H × List MemPlace), cs.length = c ∧ (∀ q, q < c → w.cell? ⟨ad.block, ad.off + (i * c + q), none⟩ = cs[q]?) ∧ elems[i]? = some y ∧ DataW.trod enc Try.prog w base spare held n E cs = some y := by
  rcases DataW.trod_slice hT h with ⟨hcs, _⟩ | ⟨ad, l, c', elems, rest, n, hfu, hcs, hx, hb, hl, hm, hlen, hel, hsp, hns⟩
  · simp [Value.cells] at hcs
    exact .inl hcs
  · simp [Value.cells] at hcs
    obtain ⟨rfl, rfl, rfl⟩ := hcs
    have each : ∀ i, i < len → ∃ (cs : List Value) (y : DataW H × List MemPlace), cs.length = c ∧ (∀ q, q < c → w.cell? ((ad.add (i * c)).add q) = cs[q]?) ∧ elems[i]? = some y ∧ DataW.trod enc Try.prog w base spare held n E cs = some y := by
      intro i hi
      have h1 := hel i hi
      have hei : elems[i]? = some (elems[i]'(by omega)) := List.getElem?_eq_getElem (by omega)
      rw [hei, hc, Option.bind_eq_some_iff] at h1
      obtain ⟨cs, hcs, hy⟩ := h1
      obtain ⟨_, k2, k3⟩ := World.cells?_some hcs
      exact ⟨cs, _, k2, k3, hei, hy⟩
    have spot : 0 < len → ad.block < w.heap.size ∧ ad.spot = none := by
      intro h0
      obtain ⟨cs, y, k1, k2, _⟩ := each 0 h0
      have hc := k2 0 hc0
      rw [List.getElem?_eq_getElem (by omega)] at hc
      obtain ⟨b, off, sp⟩ := ad
      have hs := World.cell?_spot hc
      have hb := World.block_lt_of_cell? w _ hc
      have hsp : sp = none := by simpa [Addr.add] using hs
      subst hsp
      simp only [Nat.zero_mul, addr_add] at hb
      exact ⟨hb, rfl⟩
    refine .inr ⟨ad, elems, n, rfl, hl, hm, hlen, spot, fun i hi => ?_⟩
    obtain ⟨cs, y, k1, k2, k3, k4⟩ := each i hi
    obtain ⟨b, off, sp⟩ := ad
    obtain ⟨_, hsp⟩ := spot (by omega)
    simp only at hsp
    subst hsp
    refine ⟨cs, y, k1, fun q hq => ?_, k3, k4⟩
    have := k2 q hq
    rw [addr_add, addr_add] at this
    simp only
    rw [show off + (i * c + q) = off + i * c + q by omega]
    exact this
/-- What the walk is told of a slice of tasks that came in. -/
def IsCds (w : World) (a : Option Addr) (len cap : Nat) (zs : List Cd) : Prop :=
  zs.length = len ∧ len ≤ cap ∧ cap ≤ 9223372036854775807 ∧ (a = none → len = 0) ∧ Cds w.heap.size w (.slice a len cap) zs ∧ CdsOk zs
def cdOf {H : Type} (y : DataW H × List MemPlace) : Cd := match y.1 with | .agg [.lit (.int _ i), .lit (.int _ w), .lit (.int _ m), .lit (.bool r)] => ⟨i, w, m, r⟩ | _ => ⟨0, 0, 0, false⟩
theorem cat_map {α : Type} (l : List α) (f : α → Cd) {j : Nat} {x : α} (h : l[j]? = some x) : cat (l.map f) j = f x := by unfold cat; rw [List.getElem?_map, h]; rfl
theorem open_cds {H : Type} {enc : TypeId × Value → H} {w : World} {base : Nat} {spare : Nat → Bool} {held : Bool} {fuel : Nat} {a : Option Addr} {len cap : Nat} {x : DataW H × List MemPlace}
    (h : DataW.trod enc Try.prog w base spare held fuel 22 (Value.cells (.slice a len cap)).toList = some x) : ∃ zs, IsCds w a len cap zs := by
  rcases open_rows Try.underlying22 (c := 4) (by kernel_rfl) (by omega) h with ⟨rfl, rfl, rfl⟩ | ⟨ad, elems, n, rfl, hl, hm, hlen, hs, each⟩
  · exact ⟨[], rfl, Nat.le_refl _, by decide, fun _ => rfl, .inl ⟨⟨_, _, rfl⟩, rfl⟩, fun k => ⟨⟨by simp [cat], by simp [cat]⟩, ⟨by simp [cat], by simp [cat]⟩⟩⟩
  · have hm' : cap ≤ 9223372036854775807 := by unfold maxLen at hm; omega
    have fields : ∀ j, j < len → w.cell? ⟨ad.block, ad.off + j * 4, none⟩ = some (.int .i64 (cat (elems.map cdOf) j).id) ∧ w.cell? ⟨ad.block, ad.off + j * 4 + 1, none⟩ = some (.int .u64 (cat (elems.map cdOf) j).w) ∧
        w.cell? ⟨ad.block, ad.off + j * 4 + 2, none⟩ = some (.int .u64 (cat (elems.map cdOf) j).m) ∧ w.cell? ⟨ad.block, ad.off + j * 4 + 3, none⟩ = some (.bool (cat (elems.map cdOf) j).r) ∧ CdOk (cat (elems.map cdOf) j) := by
      intro j hj
      obtain ⟨cs, y, k1, k2, k3, k4⟩ := each j hj
      rw [cat_map elems cdOf k3]
      match cs, k1 with
      | [u0, u1, u2, u3], _ =>
        have c0 := k2 0 (by omega)
        have c1 := k2 1 (by omega)
        have c2 := k2 2 (by omega)
        have c3 := k2 3 (by omega)
        obtain ⟨xs, m, _, rfl, _, hxl, hf⟩ := DataW.trod_struct Try.underlying35 k4
        match xs, hxl with
        | [y0, y1, y2, y3], _ =>
          have e3 : Try.prog.cellsOf 3 = 1 := by kernel_rfl
          have e23 : Try.prog.cellsOf 23 = 1 := by kernel_rfl
          have e4 : Try.prog.cellsOf 4 = 1 := by kernel_rfl
          have t0 : DataW.trod enc Try.prog w base spare held m 3 (List.take (Try.prog.cellsOf 3) [u0, u1, u2, u3]) = some y0 := hf 0 _ rfl
          have t1 : DataW.trod enc Try.prog w base spare held m 23 (List.take (Try.prog.cellsOf 23) [u1, u2, u3]) = some y1 := hf 1 _ rfl
          have t2 : DataW.trod enc Try.prog w base spare held m 23 (List.take (Try.prog.cellsOf 23) [u2, u3]) = some y2 := hf 2 _ rfl
          have t3 : DataW.trod enc Try.prog w base spare held m 4 (List.take (Try.prog.cellsOf 4) [u3]) = some y3 := hf 3 _ rfl
          simp only [e3, e23, e4, List.take] at t0 t1 t2 t3
          obtain ⟨n0, e0, rfl, f0⟩ := DataW.trod_int Try.underlying3 t0
          obtain ⟨n1, e1, rfl, f1⟩ := DataW.trod_int Try.underlying23 t1
          obtain ⟨n2, e2, rfl, f2⟩ := DataW.trod_int Try.underlying23 t2
          obtain ⟨n3, eb, e3'⟩ := DataW.trod_bool Try.underlying4 t3
          simp only [List.cons.injEq, and_true] at e0 e1 e2 eb
          subst e0 e1 e2 eb
          have hd : cdOf (H := H) (DataW.agg (List.map (fun x => x.1) [(DataW.lit (.int .i64 n0), []), (DataW.lit (.int .u64 n1), []), (DataW.lit (.int .u64 n2), []), y3]), List.flatMap (fun x => x.2) [(DataW.lit (H := H) (.int .i64 n0), []), (DataW.lit (.int .u64 n1), []), (DataW.lit (.int .u64 n2), []), y3]) = ⟨n0, n1, n2, n3⟩ := by rw [e3']; rfl
          rw [hd]
          have b1 := bounds_u64 f1
          have b2 := bounds_u64 f2
          rw [Nat.add_zero, ← Nat.add_assoc] at *
          refine ⟨by simpa using c0, by simpa using c1, by simpa using c2, by simpa using c3, ⟨b1.1, by simp only; omega⟩, ⟨b2.1, by simp only; omega⟩⟩
    refine ⟨elems.map cdOf, by simp [hlen], hl, hm', (fun e => by cases e), ?_, fun k => ?_⟩
    · by_cases h0 : len = 0
      · subst h0
        exact .inl ⟨⟨_, _, rfl⟩, by rw [List.length_eq_zero_iff.1 hlen]; rfl⟩
      · obtain ⟨b, off, sp⟩ := ad
        obtain ⟨hb, hsp⟩ := hs (by omega)
        simp only at hsp hb
        subst hsp
        refine .inr ⟨b, off, cap, by simp [hlen], hb, fun j hj => ?_⟩
        obtain ⟨q0, q1, q2, q3, _⟩ := fields j (by simpa [hlen] using hj)
        exact ⟨q0, q1, q2, q3⟩
    · by_cases hk : k < len
      · exact (fields k hk).2.2.2.2
      · have : cat (elems.map cdOf) k = ⟨0, 0, 0, false⟩ := by unfold cat; rw [List.getElem?_eq_none (by simp; omega)]; rfl
        rw [this]
        exact ⟨⟨by simp, by simp⟩, ⟨by simp, by simp⟩⟩
theorem cat_take {zs : List Cd} {n k : Nat} (h : k < n) : cat (zs.take n) k = cat zs k := by unfold cat; rw [List.getElem?_take, if_pos h]
theorem pre {w : World} {a0 : Option Addr} {len0 cap0 : Nat} {z0 : List Cd} (w0 : IsCds w a0 len0 cap0 z0) :
    ∃ (n : Nat) (zs : List Cd), zs.length = n ∧ n ≤ 100 ∧ n ≤ cap0 ∧ cap0 ≤ 9223372036854775807 ∧ Cds w.heap.size w (.slice a0 n cap0) zs ∧ CdsOk zs ∧ ∀ W, Calls Try.prog 10 #[.slice a0 len0 cap0] W fun e w' => e = .returned (.slice a0 n cap0) ∧ W = w' := by
  obtain ⟨h1, h2, h3, h4, h5, h6⟩ := w0
  refine ⟨min len0 100, z0.take (min len0 100), by simp [h1], by omega, by omega, h3, ?_, ?_, fun W => few_any a0 len0 cap0 W h2 h3 h4⟩
  · rcases h5 with ⟨⟨a, c, e⟩, rfl⟩ | ⟨b, off, c, e, hb, hc⟩
    · simp only [Value.slice.injEq] at e
      obtain ⟨rfl, rfl, rfl⟩ := e
      exact .inl ⟨⟨_, _, rfl⟩, by simp⟩
    · simp only [Value.slice.injEq] at e
      obtain ⟨rfl, e2, rfl⟩ := e
      refine .inr ⟨b, off, cap0, by simp [h1], hb, fun j hj => ?_⟩
      simp at hj
      rw [cat_take (by omega)]
      exact hc j (by omega)
  · intro k
    by_cases hk : k < min len0 100
    · rw [cat_take hk]; exact h6 k
    · have : cat (z0.take (min len0 100)) k = ⟨0, 0, 0, false⟩ := by unfold cat; rw [List.getElem?_eq_none (by simp; omega)]; rfl
      rw [this]
      exact ⟨⟨by simp, by simp⟩, ⟨by simp, by simp⟩⟩
theorem u64_of {a : Int} (h : (Lit.int .u64 a).wf = true) : U64 a := by have := bounds_u64 h; exact ⟨this.1, by omega⟩

/-! ### What is chosen -/
theorem chosen_facts {zs : List Cd} {fr to p : Int} {k : Nat} (hf : U64 fr) (ht : U64 to) (hok : CdsOk zs) (h : mayP zs (gapI fr to) p k = true) :
    0 ≤ p ∧ p < 64 ∧ tb (cat zs k).m p.toNat = true ∧ (cat zs k).r = false ∧ 0 < (cat zs k).w ∧ to < fr ∧ (cat zs k).w < fr - to ∧ gapI fr to = fr - to := by
  have := mayC_iff.1 h
  have hg : to < fr := by
    by_cases hh : to < fr
    · exact hh
    · have e : gapI fr to ≤ 0 := by unfold gapI; split <;> omega
      omega
  have hgap : gapI fr to = fr - to := by unfold gapI; rw [if_pos (by omega)]
  rw [hgap] at this
  exact ⟨this.1, this.2.1, this.2.2.1, this.2.2.2.1, this.2.2.2.2.1, hg, this.2.2.2.2.2, hgap⟩
def someTo (zs : List Cd) (gap p : Int) (k : Nat) : Bool := (List.range k).any fun q => mayP zs gap p q
theorem someTo_succ (zs : List Cd) (gap p : Int) (k : Nat) : someTo zs gap p (k + 1) = (someTo zs gap p k || mayP zs gap p k) := by simp [someTo, List.range_succ]
theorem someTo_none {zs : List Cd} {gap p : Int} {n : Nat} (h : ∀ q, q < n → mayP zs gap p q = false) : someTo zs gap p n = false := by
  unfold someTo; rw [List.any_eq_false]; intro q hq; rw [h q (List.mem_range.1 hq)]; simp
theorem someTo_at {zs : List Cd} {gap p : Int} {n k : Nat} (hk : k < n) (h : mayP zs gap p k = true) : someTo zs gap p n = true := by
  unfold someTo; rw [List.any_eq_true]; exact ⟨k, List.mem_range.2 hk, h⟩
/-- Why one may, or may not. -/
theorem may_way {c : Cd} {fr to : Int} (P : Nat) (hf : U64 fr) (ht : U64 to) (hw : U64 c.w) :
    (¬ (P : Int) < 64 ∧ mayC c (gapI fr to) P = false) ∨ ((P : Int) < 64 ∧ tb c.m P = false ∧ mayC c (gapI fr to) P = false) ∨ ((P : Int) < 64 ∧ tb c.m P = true ∧ c.r = true ∧ mayC c (gapI fr to) P = false) ∨
    ((P : Int) < 64 ∧ tb c.m P = true ∧ c.r = false ∧ ¬ 0 < c.w ∧ mayC c (gapI fr to) P = false) ∨ ((P : Int) < 64 ∧ tb c.m P = true ∧ c.r = false ∧ 0 < c.w ∧ ¬ to < fr ∧ mayC c (gapI fr to) P = false) ∨
    ((P : Int) < 64 ∧ tb c.m P = true ∧ c.r = false ∧ 0 < c.w ∧ to < fr ∧ ¬ c.w < fr - to ∧ mayC c (gapI fr to) P = false) ∨ ((P : Int) < 64 ∧ tb c.m P = true ∧ c.r = false ∧ 0 < c.w ∧ to < fr ∧ c.w < fr - to ∧ mayC c (gapI fr to) P = true) := by
  by_cases h1 : (P : Int) < 64
  · cases h2 : tb c.m P
    · exact .inr (.inl ⟨h1, rfl, mayC_mask h2⟩)
    · cases h3 : c.r
      · by_cases h4 : 0 < c.w
        · by_cases h5 : to < fr
          · have e : gapI fr to = fr - to := by unfold gapI; rw [if_pos (by omega)]
            rw [e]
            by_cases h6 : c.w < fr - to
            · exact .inr (.inr (.inr (.inr (.inr (.inr ⟨h1, rfl, rfl, h4, h5, h6, mayC_iff.2 ⟨by omega, h1, by simpa using h2, h3, h4, h6⟩⟩)))))
            · exact .inr (.inr (.inr (.inr (.inr (.inl ⟨h1, rfl, rfl, h4, h5, h6, mayC_gap h6⟩)))))
          · have e : gapI fr to = 0 := by unfold gapI; split <;> omega
            rw [e]
            exact .inr (.inr (.inr (.inr (.inl ⟨h1, rfl, rfl, h4, h5, mayC_gap (by omega)⟩))))
        · exact .inr (.inr (.inr (.inl ⟨h1, rfl, rfl, h4, mayC_none h4⟩)))
      · exact .inr (.inr (.inl ⟨h1, rfl, rfl, mayC_runs h3⟩))
  · exact .inl ⟨h1, mayC_far h1⟩
theorem apart_le {fr to x y : Int} (hf : U64 fr) (ht : U64 to) (hx0 : 0 < x) (hx : x < fr - to) (hy0 : 0 < y) (hy : y < fr - to) (h : (y ≤ (fr - to) / 2 ∧ y ≤ x ∧ x ≤ (fr - to) / 2) ∨ ((fr - to) / 2 < x ∧ x ≤ y)) :
    ¬ diffI (fr - y) (to + y) < diffI (fr - x) (to + x) := by
  obtain ⟨a, b⟩ := hf
  obtain ⟨c, d⟩ := ht
  unfold diffI
  split <;> split <;> omega
/-- Of those that may be, what is chosen is the heaviest of at most half, or, if there is none, the lightest. -/
theorem best_law {zs : List Cd} {fr to p : Int} {q k : Nat} (hf : U64 fr) (ht : U64 to) (hok : CdsOk zs) (hq : mayP zs (gapI fr to) p q = true) (hk : mayP zs (gapI fr to) p k = true) (hb : k ≠ q → aheadC zs (gapI fr to) q k = true)
    (hc : (cat zs k).w ≤ (fr - to) / 2 ∨ (fr - to) / 2 < (cat zs q).w) : ¬ diffI (fr - (cat zs k).w) (to + (cat zs k).w) < diffI (fr - (cat zs q).w) (to + (cat zs q).w) := by
  obtain ⟨_, _, _, _, a4, a5, a6, a7⟩ := chosen_facts hf ht hok hq
  obtain ⟨_, _, _, _, b4, _, b6, _⟩ := chosen_facts hf ht hok hk
  refine apart_le hf ht a4 a6 b4 b6 ?_
  by_cases e : k = q
  · subst e; omega
  · have h := hb e
    rw [a7] at h
    unfold aheadC at h
    have hx := isHalf_iff (c := cat zs q) (gap := fr - to)
    have hy := isHalf_iff (c := cat zs k) (gap := fr - to)
    cases h1 : isHalf (cat zs q) (fr - to) <;> cases h2 : isHalf (cat zs k) (fr - to) <;> rw [h1] at hx <;> rw [h2] at hy <;> simp only [h1, h2] at h
    · simp at hx hy h
      by_cases hw : (cat zs q).w = (cat zs k).w
      · omega
      · rw [if_neg hw] at h; try simp at h
        omega
    · simp at h
    · simp at hx hy; omega
    · simp at hx hy h
      by_cases hw : (cat zs q).w = (cat zs k).w
      · omega
      · rw [if_neg hw] at h; try simp at h
        omega
theorem nears {fr to x : Int} (hf : U64 fr) (ht : U64 to) (h0 : 0 < x) (h1 : to < fr) (h2 : x < fr - to) :
    gapI fr x = fr - x ∧ sat2 to x = to + x ∧ diffI (fr - x) (to + x) < diffI fr to ∧ U64 (fr - x) ∧ U64 (to + x) := by
  obtain ⟨a, b⟩ := hf
  obtain ⟨c, d⟩ := ht
  refine ⟨by unfold gapI; rw [if_pos (by omega)], by unfold sat2; rw [if_neg (by omega)], ?_, ⟨by omega, by omega⟩, ⟨by omega, by omega⟩⟩
  unfold diffI
  split <;> split <;> omega
end Go.Proofs.Ytkgpjcoapopgmaa
