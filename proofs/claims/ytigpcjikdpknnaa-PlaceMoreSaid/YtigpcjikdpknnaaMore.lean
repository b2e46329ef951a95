/- With more that runs no P gets idle: plain words; a slice of truths that came in, and how many there are; a slice of truths that the law makes. Conditions: as each says. -/
import Derived.Test.YtigpcjikdpknnaaWake
import Derived.Test.YtigpcjikdpknnaaRows
import Derived.ChangeSlices
import Derived.Laws.MakeOwn
import Derived.Laws.Entries
namespace Go.Proofs.Ytigpcjikdpknnaa.bulks
theorem one_le {H : Type} (d : DataW H) : 1 ≤ Rows.uptoBulk d := by
  cases d with
  | lit l => cases l <;> simp [Rows.uptoBulk]
  | nil => simp [Rows.uptoBulk]
  | ptr d => simp [Rows.uptoBulk]
  | slice elems spare => simp [Rows.uptoBulk]
  | agg parts => simp [Rows.uptoBulk]
  | iface t d => simp [Rows.uptoBulk]
  | map entries => simp [Rows.uptoBulk]
  | held h => simp [Rows.uptoBulk]
theorem length_le {H : Type} (l : List (DataW H)) : l.length ≤ Rows.uptoBulkAll l := by
  induction l with
  | nil => simp [Rows.uptoBulkAll]
  | cons x r ih => have := one_le x; simp only [Rows.uptoBulkAll, List.length_cons]; omega
theorem slice_le {H : Type} (elems spare : List (DataW H)) : elems.length + spare.length + 1 ≤ Rows.uptoBulk (.slice elems spare) := by
  have h1 := length_le elems
  have h2 := length_le spare
  simp only [Rows.uptoBulk]
  omega
theorem lits_le {H : Type} {k : IntKind} {zs : List Int} {len cap : Nat} (hl : len ≤ cap) (hz : zs.length = cap) : cap ≤ Rows.uptoBulk (H := H) (.slice (ChangeShapes.lits k (zs.take len)) (ChangeShapes.lits k (zs.drop len))) := by
  have h := slice_le (H := H) (ChangeShapes.lits k (zs.take len)) (ChangeShapes.lits k (zs.drop len))
  have e1 : (ChangeShapes.lits (H := H) k (zs.take len)).length = len := by unfold ChangeShapes.lits; rw [List.length_map, List.length_take]; omega
  have e2 : (ChangeShapes.lits (H := H) k (zs.drop len)).length = cap - len := by unfold ChangeShapes.lits; rw [List.length_map, List.length_drop]; omega
  omega
end Go.Proofs.Ytigpcjikdpknnaa.bulks
namespace Go.Proofs.Ytigpcjikdpknnaa
set_option linter.unusedVariables false
open Go.ChangeShapes Go.WideShapes Go.ChangeAt Go.RowKit
theorem open_bools_u {H : Type} {enc : TypeId × Value → H} {w : World} {base : Nat} {spare : Nat → Bool} {held : Bool} {fuel : Nat} {a : Option Addr} {len cap : Nat} {d : DataW H} {p : List MemPlace}
    (h : DataW.trod enc Try.prog w base spare held fuel 34 (Value.cells (.slice a len cap)).toList = some (d, p)) : ∃ bs, IsBools w a len cap bs ∧ len ≤ Rows.uptoBulk d := by
  obtain ⟨bs, hbs⟩ := open_bools h
  refine ⟨bs, hbs, ?_⟩
  rcases DataW.trod_slice Try.underlying34 h with ⟨hcs, _⟩ | ⟨ad, l, c, elems, rest, n, hfu, hcs, hx, hb, hl, hm, hlen, _⟩
  · simp [Value.cells] at hcs
    omega
  · simp [Value.cells] at hcs
    obtain ⟨rfl, rfl, rfl⟩ := hcs
    obtain ⟨rfl, rfl⟩ := Prod.mk.inj hx
    have := bulks.slice_le (H := H) (elems.map fun x => x.1) (rest.map fun x => x.1)
    rw [List.length_map] at this
    omega
theorem open_bools_s {H : Type} {enc : TypeId × Value → H} {w : World} {base : Nat} {spare : Nat → Bool} {held : Bool} {fuel : Nat} {a : Option Addr} {len cap : Nat} {d : DataW H} {p : List MemPlace}
    (h : DataW.trod enc Try.prog w base spare held fuel 34 (Value.cells (.slice a len cap)).toList = some (d, p)) : ∃ bs, IsBools w a len cap bs ∧ (len = 0 ∨ ∃ elems rest, d = .slice elems rest ∧ len ≤ elems.length + rest.length) := by
  obtain ⟨bs, hbs⟩ := open_bools h
  refine ⟨bs, hbs, ?_⟩
  rcases DataW.trod_slice Try.underlying34 h with ⟨hcs, _⟩ | ⟨ad, l, c, elems, rest, n, hfu, hcs, hx, hb, hl, hm, hlen, _⟩
  · simp [Value.cells] at hcs
    exact .inl (by omega)
  · simp [Value.cells] at hcs
    obtain ⟨rfl, rfl, rfl⟩ := hcs
    obtain ⟨rfl, rfl⟩ := Prod.mk.inj hx
    exact .inr ⟨_, _, rfl, by rw [List.length_map]; omega⟩
theorem run_make_rowN {P : Program} (t e : TypeId) (i : TypeInfo) (z : Value) (ht : P.underlying t = some (.slice e)) (hi : P.info? e = some i) (hz : i.zero = some z)
    (kl kc : IntKind) (n c : Nat) (hnc : n ≤ c) (hbytes : i.bytes * c ≤ 281474976710656) (h63 : c ≤ 9223372036854775807) (w : World) :
    (Instr.makeSlice t (.int kl (n : Int)) (.int kc (c : Int))).run P w = .ok (.slice (some ⟨w.heap.size, 0, none⟩) n c) (w.alloc (.cells (madeCells z.cells (c * i.size)) e)) := by
  have hb : (i.bytes : Int) * (c : Int) ≤ 281474976710656 := by
    have h : ((i.bytes * c : Nat) : Int) ≤ 281474976710656 := by omega
    rwa [Int.natCast_mul] at h
  have hr := run_make (P := P) w t e i z ht hi hz kl kc n c (by omega) (by omega) hb (by omega)
  simp only [Int.toNat_natCast] at hr
  exact hr
theorem Try.info4 : (Try.prog.info? 4).map (fun i => (i.zero, i.size, i.bytes)) = some (some (.bool false), 1, 1) := by kernel_rfl
theorem make_bools (n : Nat) (hn : n ≤ 140737488355328) : ∀ w : World, (Instr.makeSlice 34 (.int .i64 (n : Int)) (.int .i64 (n : Int))).run Try.prog w = .ok (.slice (some ⟨w.heap.size, 0, none⟩) n n) (w.alloc (.cells (madeCells #[.bool false] n) 4)) := by
  obtain ⟨i0, hi0, hz0, hz1, hz2⟩ := info_parts Try.info4
  intro w
  have h := run_make_rowN 34 4 i0 _ Try.underlying34 hi0 hz0 .i64 .i64 n n (Nat.le_refl _) (by rw [hz2]; omega) (by omega) w
  rw [hz1, Nat.mul_one] at h
  exact h
/-- The slice that the law fills: i of it are as they were. -/
structure Fill (W : World) (g n i : Nat) (bs : List Bool) : Prop where
  lt : g < W.heap.size
  cell : ∀ j, j < n → W.cell? ⟨g, j, none⟩ = some (.bool (if j < i then bat bs j else false))
  free : ∀ j, W.frozen? ⟨g, j, none⟩ = false
theorem fill_new (w : World) (n : Nat) (bs : List Bool) : Fill (w.alloc (.cells (madeCells #[.bool false] n) 4)) w.heap.size n 0 bs := by
  refine ⟨by simp, fun j hj => ?_, fun j => by simp⟩
  rw [World.cell?_alloc_at _ 4 _ j rfl]
  simp [madeCells, hj, Nat.mod_one]
theorem Fill.put {W : World} {g n i : Nat} {bs : List Bool} (h : Fill W g n i bs) (hi : i < n) : Fill (W.setCell ⟨g, i, none⟩ (.bool (bat bs i))) g n (i + 1) bs := by
  refine ⟨by simpa using h.lt, fun j hj => ?_, fun j => by rw [World.frozen?_setCell]; exact h.free j⟩
  by_cases e : j = i
  · subst e
    rw [World.cell?_setCell_same' _ _ _ (by rw [h.cell j hj]; rfl), if_pos (by omega)]
  · rw [World.cell?_setCell_other _ _ _ _ (by intro e'; simp only [Addr.mk.injEq] at e'; omega), h.cell j hj]
    by_cases hj2 : j < i
    · rw [if_pos hj2, if_pos (by omega)]
    · rw [if_neg hj2, if_neg (by omega)]
/-- What runs besides. -/
def moreOf (bs : List Bool) (n k : Nat) : List Bool := (List.range n).map fun j => if j = k then true else bat bs j
theorem moreOf_length (bs : List Bool) (n k : Nat) : (moreOf bs n k).length = n := by simp [moreOf]
theorem bat_more {bs : List Bool} {n k : Nat} (j : Nat) (hn : bs.length ≤ n) (hk : k < n) : bat (moreOf bs n k) j = if j = k then true else bat bs j := by
  unfold moreOf bat
  by_cases hj : j < n
  · simp [hj]
  · rw [if_neg (by omega), List.getElem?_eq_none (by simp; omega), List.getElem?_eq_none (by omega)]
theorem Fill.done {W : World} {g n k : Nat} {bs : List Bool} (h : Fill W g n bs.length bs) (hn : bs.length ≤ n) (hk : k < n) : Bools (g + 1) (W.setCell ⟨g, k, none⟩ (.bool true)) (.slice (some ⟨g, 0, none⟩) n n) (moreOf bs n k) := by
  have hl := moreOf_length bs n k
  refine .inr ⟨g, 0, n, by rw [hl], by omega, fun j hj => ?_⟩
  rw [hl] at hj
  rw [Nat.zero_add, bat_more j hn hk]
  by_cases e : j = k
  · subst e
    rw [World.cell?_setCell_same' _ _ _ (by rw [h.cell j hj]; rfl), if_pos rfl]
  · rw [World.cell?_setCell_other _ _ _ _ (by intro e'; simp only [Addr.mk.injEq] at e'; omega), h.cell j hj, if_neg e]
    by_cases hj2 : j < bs.length
    · rw [if_pos hj2]
    · rw [if_neg hj2]; unfold bat; rw [List.getElem?_eq_none (by omega)]; rfl
theorem idleB_bat {zs : List Int} {bs : List Bool} {m : Int} {p : Nat} : idleB zs bs m p = true ↔ mayB zs m p = true ∧ zat zs p = 0 ∧ bat bs p = false := by
  rw [idleB_iff]
  refine ⟨fun ⟨a, b, c⟩ => ⟨a, b, c.elim (fun h => by unfold bat; rw [List.getElem?_eq_none h]; rfl) id⟩, fun ⟨a, b, c⟩ => ⟨a, b, .inr c⟩⟩
theorem placeIdle_nil (zs : List Int) (m : Int) : placeIdle zs [] m = firstP (nilB zs m) zs.length := by
  rcases placeIdle_spec zs [] m with ⟨h1, h2⟩ | ⟨p, h1, h2, h3, h4⟩
  · rw [h1, firstP_none]
    intro q hq
    cases hb : nilB zs m q
    · rfl
    · have := nilB_iff.1 hb
      have e := h2 q hq
      rw [idleB_bat.2 ⟨this.1, this.2, rfl⟩] at e; cases e
  · rw [h2]
    obtain ⟨a, b, _⟩ := idleB_bat.1 h3
    refine (firstP_at h1 (nilB_iff.2 ⟨a, b⟩) fun q hq => ?_).symm
    cases hb : nilB zs m q
    · rfl
    · have := nilB_iff.1 hb
      have e := h4 q hq
      rw [idleB_bat.2 ⟨this.1, this.2, rfl⟩] at e; cases e
/-- What the law says of the three answers. -/
structure Says (A B C : Int) (k : Nat) : Prop where
  ne : (B != (k : Int)) = true
  ab : B < 0 ∨ (¬ B < 0 ∧ 0 ≤ A ∧ A ≤ B)
  ac : A < 0 ∨ (¬ A < 0 ∧ 0 ≤ C ∧ C ≤ A)
  aor : (A == (k : Int)) = true ∨ ((A == (k : Int)) = false ∧ (A == B) = true)
theorem says (zs : List Int) (bs : List Bool) (m : Int) (n k : Nat) (hn : bs.length ≤ n) (hk : k < n) : Says (placeIdle zs bs m) (placeIdle zs (moreOf bs n k) m) (placeIdle zs [] m) k := by
  have sub : ∀ q, idleB zs (moreOf bs n k) m q = true ↔ idleB zs bs m q = true ∧ q ≠ k := fun q => by
    rw [idleB_bat, idleB_bat, bat_more q hn hk]
    by_cases e : q = k
    · rw [if_pos e]; simp [e]
    · rw [if_neg e]; simp [e]
  have sup : ∀ q, idleB zs bs m q = true → idleB zs [] m q = true := fun q h => by
    rw [idleB_bat] at h ⊢; exact ⟨h.1, h.2.1, rfl⟩
  have hA := placeIdle_spec zs bs m
  have hB := placeIdle_spec zs (moreOf bs n k) m
  have hC := placeIdle_spec zs [] m
  have key : ∀ q, q < zs.length → idleB zs bs m q = true → q ≠ k → idleB zs (moreOf bs n k) m q = true := fun q _ h1 h2 => (sub q).2 ⟨h1, h2⟩
  rcases hB with ⟨b1, b2⟩ | ⟨b, b0, b1, b2, b3⟩
  · refine ⟨by rw [b1]; simp, .inl (by omega), ?_, ?_⟩
    · rcases hA with ⟨a1, a2⟩ | ⟨a, a0, a1, a2, a3⟩
      · exact .inl (by omega)
      · refine .inr ⟨by omega, ?_⟩
        rcases hC with ⟨c1, c2⟩ | ⟨c, c0, c1, c2, c3⟩
        · have := c2 a a0; rw [sup a a2] at this; cases this
        · refine ⟨by omega, ?_⟩
          by_cases h : a < c
          · have := c3 a h; rw [sup a a2] at this; cases this
          · omega
    · rcases hA with ⟨a1, a2⟩ | ⟨a, a0, a1, a2, a3⟩
      · exact .inr ⟨by rw [a1]; simp, by rw [a1, b1]; rfl⟩
      · by_cases e : a = k
        · exact .inl (by rw [a1, e]; simp)
        · have := b2 a a0; rw [key a a0 a2 e] at this; cases this
  · obtain ⟨s1, s2⟩ := (sub b).1 b2
    refine ⟨by rw [b1]; simp; omega, .inr ⟨by omega, ?_⟩, ?_, ?_⟩
    · rcases hA with ⟨a1, a2⟩ | ⟨a, a0, a1, a2, a3⟩
      · have := a2 b b0; rw [s1] at this; cases this
      · refine ⟨by omega, ?_⟩
        by_cases h : b < a
        · have := a3 b h; rw [s1] at this; cases this
        · omega
    · rcases hA with ⟨a1, a2⟩ | ⟨a, a0, a1, a2, a3⟩
      · exact .inl (by omega)
      · refine .inr ⟨by omega, ?_⟩
        rcases hC with ⟨c1, c2⟩ | ⟨c, c0, c1, c2, c3⟩
        · have := c2 a a0; rw [sup a a2] at this; cases this
        · refine ⟨by omega, ?_⟩
          by_cases h : a < c
          · have := c3 a h; rw [sup a a2] at this; cases this
          · omega
    · rcases hA with ⟨a1, a2⟩ | ⟨a, a0, a1, a2, a3⟩
      · have := a2 b b0; rw [s1] at this; cases this
      · by_cases e : a = k
        · exact .inl (by rw [a1, e]; simp)
        · refine .inr ⟨by rw [a1]; simp; omega, ?_⟩
          have h1 : ¬ b < a := fun h => by have := a3 b h; rw [s1] at this; cases this
          have h2 : ¬ a < b := fun h => by have := b3 a h; rw [key a a0 a2 e] at this; cases this
          rw [a1, b1]; simp; omega
/-- The first of none so far. -/
theorem firstP_stop {P : Nat → Bool} {r n : Nat} (h : 0 ≤ firstP P r) (hr : r ≤ n) : firstP P r = firstP P n := by
  obtain ⟨d, rfl⟩ : ∃ d, n = r + d := ⟨n - r, by omega⟩
  clear hr
  induction d with
  | zero => rfl
  | succ d ih => rw [ih, ← Nat.add_assoc]; show _ = if 0 ≤ firstP P (r + d) then _ else _; rw [if_pos (by rw [← ih]; exact h)]
theorem firstP_succ (P : Nat → Bool) (n : Nat) : firstP P (n + 1) = if 0 ≤ firstP P n then firstP P n else if P n then (n : Int) else -1 := rfl
end Go.Proofs.Ytigpcjikdpknnaa
