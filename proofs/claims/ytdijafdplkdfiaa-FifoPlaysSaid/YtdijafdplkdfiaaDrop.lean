/- A line drops one that waits: the others stay in their order. Conditions: those that wait are unlike, and no number is below 0. -/
import Derived.Test.YtdijafdplkdfiaaTurns
import Derived.Test.YtdijafdplkdfiaaShelf
import Derived.Laws.IdiomCopy
namespace Go.Proofs.Ytdijafdplkdfiaa
set_option linter.unusedVariables false
open Go.RowKit

theorem gsetCells (g : Nat) : ∀ (vs : List Value) (o : Nat) (w : World), w.grownBy (w.setCells g o vs) (some g)
  | [], _, w => World.grownBy.refl _ _
  | v :: vs, o, w => gtrans (gset w g o v) (gsetCells g vs (o + 1) _)
theorem gabove {w u v : World} {row : Option Nat} {g : Nat} (h : w.grownBy u row) (k : u.grownBy v (some g)) (hg : w.heap.size ≤ g) : w.grownBy v row :=
  ⟨k.os.trans h.os, k.tape.trans h.tape, k.output.trans h.output, Nat.le_trans h.size k.size, fun i hi hr => (k.block i (Nat.lt_of_lt_of_le hi h.size) (fun e => by cases e; omega)).trans (h.block i hi hr)⟩
/-- A block's head reads as ys. -/
def RowAt (W : World) (g : Nat) (ys : List Int) : Prop := g < W.heap.size ∧ ∀ j, j < ys.length → W.cell? ⟨g, j, none⟩ = some (.int .i64 (zat ys j))
theorem RowAt.grown {W U : World} {g b : Nat} {ys : List Int} (h : RowAt W g ys) (hg : W.grownBy U (some b)) (hne : g ≠ b) : RowAt U g ys :=
  ⟨Nat.lt_of_lt_of_le h.1 hg.size, fun j hj => (World.cell?_of_block (a := ⟨g, j, none⟩) (hg.block g h.1 (fun e => hne (by cases e; rfl)))).trans (h.2 j hj)⟩

theorem delete_any (g n cap k : Nat) (xs : List Int) (B : Nat) (w : World) (hO : OwnI w B (.slice (some ⟨g, 0, none⟩) n cap) n xs) (hxl : xs.length = n) (hk : k < n) (j : Int) (hj : j = (k : Int) + 1) :
    Calls Try.prog 27 #[.slice (some ⟨g, 0, none⟩) n cap, .int .i64 k, .int .i64 j] w fun e w' => e = .returned (.slice (some ⟨g, 0, none⟩) (n - 1) cap) ∧ RowAt w' g (xs.take k ++ xs.drop (k + 1)) ∧ w.grownBy w' (some g) := by
  obtain ⟨h0, h1⟩ := hO
  rcases h1 with ⟨_, hn⟩ | ⟨g', cap', cur, e, hg, hc, hn, hm, hs, ht⟩
  · omega
  · simp only [Value.slice.injEq, Option.some.injEq, Addr.mk.injEq] at e
    obtain ⟨⟨rfl, _⟩, _, rfl⟩ := e
    have hO' : w.ownsRow B 3 1 (.slice (some ⟨g, 0, none⟩) n cap) n (xs.map (Value.int .i64)) := ⟨h0, .inr ⟨g, cap, cur, rfl, hg, hc, hn, hm, hs, ht⟩⟩
    have hcell : ∀ i, i < xs.length → w.cell? ⟨g, 0 + i, none⟩ = some (.int .i64 (xs.getD i 0)) := fun i hi => by
      have := hO'.cellAt i (by omega)
      rw [show 0 + i = i by omega, this]
      simp [hi, List.getD]
    have hfr : ∀ i, i < n → w.frozen? ⟨g, 0 + i, none⟩ = false := fun i hi => by rw [show 0 + i = i by omega]; exact hO'.frozenAt i
    have hj' : j = ((k + 1 : Nat) : Int) := by omega
    subst hj'
    refine (Try.slices_Delete_int_cells g 0 n cap k (k + 1) xs w (by omega) hn (by unfold maxLen at hm; omega) (by omega) (by omega) hcell hfr).mono ?_
    rintro e w' ⟨rfl, q, rfl⟩
    have hkk : k + 1 - k = 1 := by omega
    have htk : xs.take n = xs := List.take_of_length_le (by omega)
    rw [htk]
    refine ⟨by rw [hkk], ?_, gtrans (gdrewN w q (some g)) (gsetCells g _ 0 _)⟩
    rw [hkk]
    have hl : ((xs.take k ++ xs.drop (k + 1) ++ List.replicate 1 0).map (Value.int .i64)).length = n := by simp; omega
    have hsz : (w.drewN q).heap.size ≤ ((w.drewN q).setCells g 0 ((xs.take k ++ xs.drop (k + 1) ++ List.replicate 1 0).map (Value.int .i64))).heap.size := (gsetCells g _ 0 _).size
    have hgl : g < w.heap.size := (Array.getElem?_eq_some_iff.1 hc).1
    refine ⟨Nat.lt_of_lt_of_le (show g < (w.drewN q).heap.size by simpa using hgl) hsz, fun i hi => ?_⟩
    have hi' : i < n - 1 := by simp at hi; omega
    have := World.cell?_setCells_in g ((xs.take k ++ xs.drop (k + 1) ++ List.replicate 1 0).map (Value.int .i64)) 0 (w.drewN q) (fun m hm => by rw [hl] at hm; rw [World.cell?_drewN, hcell m (by omega)]; rfl) i (by rw [hl]; omega)
    rw [show 0 + i = i by omega] at this
    rw [this]
    congr 1
    rw [List.getElem_map]
    congr 1
    rw [List.getElem_append_left hi]
    unfold zat
    rw [List.getElem?_eq_getElem hi]
    rfl

/-- Unlike numbers, none below 0, at most 64. -/
def Good (xs : List Int) : Prop := xs.Nodup ∧ (∀ x ∈ xs, 0 ≤ x) ∧ xs.length ≤ 64
def dropL (xs : List Int) (p : Int) : List Int := xs.filter fun x => x != p
theorem dropL_none {xs : List Int} {p : Int} (h : hasI xs p = false) : dropL xs p = xs := by
  unfold dropL
  rw [List.filter_eq_self]
  intro x hx
  have : x ≠ p := fun e => by
    subst e
    rw [hasI_iff.2 hx] at h; cases h
  simpa using this
theorem dropL_at {xs : List Int} {p : Int} {k : Nat} (hd : xs.Nodup) (hk : k < xs.length) (hz : zat xs k = p) : dropL xs p = xs.take k ++ xs.drop (k + 1) := by
  have hp : xs[k] = p := by unfold zat at hz; rw [List.getElem?_eq_getElem hk] at hz; exact hz
  have e : xs = xs.take k ++ p :: xs.drop (k + 1) := by
    rw [← hp, ← List.drop_eq_getElem_cons hk, List.take_append_drop]
  have hd' := hd
  rw [e, List.nodup_append, List.nodup_cons] at hd'
  unfold dropL
  conv => lhs; rw [e]
  rw [List.filter_append, List.filter_cons]
  have h1 : (xs.take k).filter (fun x => x != p) = xs.take k := by
    rw [List.filter_eq_self]
    intro x hx
    have := hd'.2.2 x hx p (by simp)
    simpa using this
  have h2 : (xs.drop (k + 1)).filter (fun x => x != p) = xs.drop (k + 1) := by
    rw [List.filter_eq_self]
    intro x hx
    have : x ≠ p := fun e => hd'.2.1.1 (e ▸ hx)
    simpa using this
  rw [h1, h2]
  simp
theorem Good.drop {xs : List Int} (h : Good xs) (p : Int) : Good (dropL xs p) :=
  ⟨h.1.filter _, fun x hx => h.2.1 x (List.mem_filter.1 hx).1, Nat.le_trans (List.length_filter_le _ _) h.2.2⟩
theorem Good.put {xs : List Int} (h : Good xs) {p : Int} (hp : putOk xs p = true) : Good (xs ++ [p]) := by
  unfold putOk at hp
  simp only [Bool.and_eq_true, decide_eq_true_eq, bne_iff_ne, ne_eq, Bool.not_eq_true'] at hp
  obtain ⟨h1, h2, h3⟩ := hp
  have hn : p ∉ xs := fun e => by rw [hasI_iff.2 e] at h3; cases h3
  refine ⟨List.nodup_append.2 ⟨h.1, by simp, fun x hx y hy => ?_⟩, fun x hx => ?_, ?_⟩
  · simp at hy; subst hy; exact fun e => hn (e ▸ hx)
  · rcases List.mem_append.1 hx with hx | hx
    · exact h.2.1 x hx
    · simp at hx; omega
  · have := h.2.2; simp; omega
theorem Good.tail {xs : List Int} (h : Good xs) : Good xs.tail := by
  cases xs with
  | nil => exact h
  | cons x xs => exact ⟨(List.nodup_cons.1 h.1).2, fun y hy => h.2.1 y (List.mem_cons_of_mem _ hy), by have := h.2.2; simp at this ⊢; omega⟩
theorem putOk_good {ys : List Int} {k : Nat} (h : Good ys) (hk : k < ys.length) : putOk (ys.take k) (zat ys k) = true := by
  have hz : zat ys k = ys[k] := by unfold zat; rw [List.getElem?_eq_getElem hk]; rfl
  have hl := h.2.2
  rw [putOk_lt (by rw [hz]; exact h.2.1 _ (List.getElem_mem _)) (by simp; omega)]
  have : hasI (ys.take k) (zat ys k) = false := by
    cases hh : hasI (ys.take k) (zat ys k) with
    | false => rfl
    | true =>
      have hm := hasI_iff.1 hh
      have hd := h.1
      rw [← List.take_append_drop k ys, List.nodup_append] at hd
      exact absurd rfl (hd.2.2 _ hm (zat ys k) (by rw [List.drop_eq_getElem_cons hk, hz]; exact List.mem_cons_self))
  rw [this]; rfl
end Go.Proofs.Ytdijafdplkdfiaa
