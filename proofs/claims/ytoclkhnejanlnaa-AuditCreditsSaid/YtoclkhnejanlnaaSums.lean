/- Numbers that rise by steps: their list, that it may be, and one number more behind a row of the call's own. Conditions: as each says. -/
import Derived.Test.YtoclkhnejanlnaaFar
import Derived.Test.YtoclkhnejanlnaaSnap
namespace Go.Proofs.Ytoclkhnejanlnaa
set_option linter.unusedVariables false
open Go.ChangeShapes Go.WideShapes Go.ChangeAt Go.RowKit
def encH : Enc Int := ⟨1, fun x => [.int .u16 x], fun _ => rfl, fun _ u h => by simp at h; subst h; rfl, by decide⟩
def encB : Enc Int := ⟨1, fun x => [.int .u8 x], fun _ => rfl, fun _ u h => by simp at h; subst h; rfl, by decide⟩
theorem Rd.halfs {n₀ n : Nat} {W : World} {a : Option Addr} {zs : List Int} (h : Rd encH n₀ W a n zs) (hn : 0 < n) : ∃ b off, a = some ⟨b, off, none⟩ ∧ b < n₀ ∧ ∀ j, j < n → W.cell? ⟨b, off + j, none⟩ = some (.int .u16 (rat zs j)) := by
  obtain ⟨b, off, e, hb, hc⟩ := h.cells hn
  refine ⟨b, off, e, hb, fun j hj => ?_⟩
  have := hc j _ (rat_at (by rw [h.1]; exact hj)) 0 _ rfl
  simpa [encH] using this
theorem Rd.bytes {n₀ n : Nat} {W : World} {a : Option Addr} {zs : List Int} (h : Rd encB n₀ W a n zs) (hn : 0 < n) : ∃ b off, a = some ⟨b, off, none⟩ ∧ b < n₀ ∧ ∀ j, j < n → W.cell? ⟨b, off + j, none⟩ = some (.int .u8 (rat zs j)) := by
  obtain ⟨b, off, e, hb, hc⟩ := h.cells hn
  refine ⟨b, off, e, hb, fun j hj => ?_⟩
  have := hc j _ (rat_at (by rw [h.1]; exact hj)) 0 _ rfl
  simpa [encB] using this
section
variable {H : Type} {enc : TypeId × Value → H} {w : World} {base : Nat} {spare : Nat → Bool} {held : Bool}
def IsHalfs (w : World) (a : Option Addr) (len cap : Nat) (zs : List Int) : Prop := len ≤ cap ∧ cap ≤ 9223372036854775807 ∧ Rd encH w.heap.size w a len zs ∧ ∀ i, 0 ≤ rat zs i ∧ rat zs i ≤ 65535
def IsBytes (w : World) (a : Option Addr) (len cap : Nat) (zs : List Int) : Prop := len ≤ cap ∧ cap ≤ 9223372036854775807 ∧ Rd encB w.heap.size w a len zs ∧ ∀ i, 0 ≤ rat zs i ∧ rat zs i ≤ 255
theorem open_halfs {fuel : Nat} {a : Option Addr} {len cap : Nat} {x : DataW H × List MemPlace} (h : DataW.trod enc Try.prog w base spare held fuel 45 (Value.cells (.slice a len cap)).toList = some x) : ∃ zs, IsHalfs w a len cap zs := by
  obtain ⟨ra, rn, rc, zr, e0, r1, r2, r3, r4, r5⟩ := open_list encH (fun z => 0 ≤ z ∧ z ≤ 65535) Try.underlying45 (by kernel_rfl) (fun n cs y ht _ => by obtain ⟨z, e, _, f⟩ := DataW.trod_int Try.underlying46 ht; exact ⟨z, e, bounds_u16 f⟩) h
  simp [Value.cells] at e0
  obtain ⟨rfl, rfl, rfl⟩ := e0
  refine ⟨zr, r1, r2, r4, fun i => ?_⟩
  by_cases hi : i < zr.length
  · exact r5 i _ (rat_at hi)
  · have : rat zr i = 0 := by unfold rat; rw [List.getElem?_eq_none (by omega)]; rfl
    rw [this]; exact ⟨by decide, by decide⟩
theorem open_bytes {fuel : Nat} {a : Option Addr} {len cap : Nat} {x : DataW H × List MemPlace} (h : DataW.trod enc Try.prog w base spare held fuel 37 (Value.cells (.slice a len cap)).toList = some x) : ∃ zs, IsBytes w a len cap zs := by
  obtain ⟨ra, rn, rc, zr, e0, r1, r2, r3, r4, r5⟩ := open_list encB (fun z => 0 ≤ z ∧ z ≤ 255) Try.underlying37 (by kernel_rfl) (fun n cs y ht _ => by obtain ⟨z, e, _, f⟩ := DataW.trod_int Try.underlying5 ht; exact ⟨z, e, bounds_u8 f⟩) h
  simp [Value.cells] at e0
  obtain ⟨rfl, rfl, rfl⟩ := e0
  refine ⟨zr, r1, r2, r4, fun i => ?_⟩
  by_cases hi : i < zr.length
  · exact r5 i _ (rat_at hi)
  · have : rat zr i = 0 := by unfold rat; rw [List.getElem?_eq_none (by omega)]; rfl
    rw [this]; exact ⟨by decide, by decide⟩
theorem open_longs {fuel : Nat} {a : Option Addr} {len cap : Nat} {x : DataW H × List MemPlace} (h : DataW.trod enc Try.prog w base spare held fuel 36 (Value.cells (.slice a len cap)).toList = some x) : ∃ zs, IsInts w a len cap zs := open_nums Try.underlying36 Try.underlying2 (by kernel_rfl) h
theorem open_ints' {fuel : Nat} {a : Option Addr} {len cap : Nat} {x : DataW H × List MemPlace} (h : DataW.trod enc Try.prog w base spare held fuel 22 (Value.cells (.slice a len cap)).toList = some x) : ∃ zs, IsInts w a len cap zs := open_nums Try.underlying22 Try.underlying3 (by kernel_rfl) h
end
/-- The first k steps together. -/
def preSum (zs : List Int) : Nat → Int
  | 0 => 0
  | k + 1 => preSum zs k + rat zs k
def sums (zs : List Int) (k : Nat) : List Int := (List.range k).map fun i => preSum zs (i + 1)
theorem sums_succ (zs : List Int) (k : Nat) : sums zs (k + 1) = sums zs k ++ [preSum zs (k + 1)] := by simp [sums, List.range_succ]
theorem sums_length (zs : List Int) (k : Nat) : (sums zs k).length = k := by simp [sums]
theorem rat_sums {zs : List Int} {k i : Nat} (h : i < k) : rat (sums zs k) i = preSum zs (i + 1) := by
  unfold rat sums; rw [List.getElem?_map, List.getElem?_range h]; rfl
theorem preSum_bd {zs : List Int} (h : ∀ i, 0 ≤ rat zs i ∧ rat zs i ≤ 65535) (k : Nat) : 0 ≤ preSum zs k ∧ preSum zs k ≤ 65535 * k := by
  induction k with
  | zero => exact ⟨Int.le_refl _, by simp [preSum]⟩
  | succ k ih => have := h k; unfold preSum; omega
theorem sums_rise {zs : List Int} (h : ∀ i, 0 ≤ rat zs i ∧ rat zs i ≤ 65535) {k : Nat} (hk : k ≤ 100) : riseB (sums zs k) = true := by
  refine rise_iff.2 ⟨by rw [sums_length]; omega, fun i hi => ?_, fun i hi => ?_⟩
  · rw [sums_length] at hi
    rw [rat_sums hi]
    have := preSum_bd h (i + 1)
    omega
  · rw [sums_length] at hi
    rw [rat_sums (by omega), rat_sums hi]
    have := h (i + 1)
    show preSum zs (i + 1) ≤ preSum zs (i + 1) + rat zs (i + 1)
    omega
theorem long_info : (Try.prog.info? 2).map (fun i => (i.zero, i.size, i.bytes)) = some (some (.int .i64 0), 1, 8) := by kernel_rfl
/-- One number more. -/
theorem append_long {T E : Nat} (hT : Try.prog.underlying T = some (.slice E)) (hE : (Try.prog.info? E).map (fun i => (i.zero, i.size, i.bytes)) = some (some (.int .i64 0), 1, 8)) {ops : Array Oper} {rest : List Oper} {o : Oper} {a : Act} {Q : Exit → Act → World → Prop} {w : World} (hgd : o.guard = none) (s x : Operand)
    (ho : o.op = .call { callee := .builtin .append, args := #[s, x], argTypes := #[T, T] })
    (base : Nat) (v : Value) (n : Nat) (zs : List Int) (hs : a.eval s = v) (hown : Own encI w base E v n zs) (b c : Nat) (y : Int) (hx : a.eval x = .slice (some ⟨b, 0, none⟩) 1 c)
    (h0 : w.cell? ⟨b, 0, none⟩ = some (.int .i64 y)) (hn : n ≤ 100000) (hbase : base ≤ w.heap.size)
    (h : ∀ v' w', Own encI w' base E v' (n + 1) (zs ++ [y]) → w.grownBy w' v.ownBlock → (v'.ownBlock = v.ownBlock ∨ v'.ownBlock = some w.heap.size) → wpList Try.prog ops Q rest (a.put o.dst v') w') : wpList Try.prog ops Q (o :: rest) a w := by
  obtain ⟨i0, hi, hz0, hz1, hz2⟩ := info_parts hE
  refine wpList_append_own_at _ hgd s x T ho base E i0 _ 1 8 hT hi hz0 hz1 hz2 rfl (by decide) v n _ hs hown ⟨b, 0, none⟩ 1 c [.int .i64 y] hx rfl ?_ ?_ (by unfold maxLen; omega) (by omega) hbase ?_
  · intro j u hj
    rw [addr_add, Nat.zero_add]
    have hj4 : j < 1 := by have := (List.getElem?_eq_some_iff.1 hj).1; simpa using this
    obtain rfl : j = 0 := by omega
    rw [h0]; simpa using hj
  · intro u hu
    simp at hu
    subst hu; rfl
  · intro v' w' g1 g2 _ g3
    exact h v' w' (by unfold Own; rw [Enc.all_snoc]; exact g1) g2 g3
/-- A row stays while another one grows. -/
theorem Own.keep {α : Type} {E : Enc α} {W u : World} {B T n : Nat} {v : Value} {zs : List α} {row : Option Nat} (h : Own E W B T v n zs) (hg : W.grownBy u row) (hne : ∀ g, v.ownBlock = some g → some g ≠ row) : Own E u B T v n zs := by
  refine ⟨h.1, ?_⟩
  rcases h.2 with ⟨rfl, h0⟩ | ⟨g, cap, cur, rfl, hg', hc, hnc, hm, hs, ht⟩
  · exact .inl ⟨rfl, h0⟩
  · exact .inr ⟨g, cap, cur, rfl, hg', (hg.block g (Array.getElem?_eq_some_iff.1 hc).1 (hne g rfl)).trans hc, hnc, hm, hs, ht⟩
/-- Two rows of the call's own that share no block. -/
def Other (v v' : Value) : Prop := ∀ g, v.ownBlock = some g → v'.ownBlock ≠ some g
theorem Other.symm {v v' : Value} (h : Other v v') : Other v' v := fun g e e' => h g e' e
/-- One of the two has grown, in its own block or in a new one. -/
theorem Other.grown {α : Type} {E : Enc α} {W : World} {B T n : Nat} {v v' x : Value} {zs : List α} (h : Other v x) (hx : Own E W B T x n zs) (hl : v'.ownBlock = v.ownBlock ∨ v'.ownBlock = some W.heap.size) : Other v' x := fun g e e' => by
  rcases hl with hl | hl
  · exact h g (by rw [← hl]; exact e) e'
  · rw [e] at hl
    have := (hx.lt g e').2
    injection hl with hl
    omega
theorem Other.keep {α : Type} {E : Enc α} {W u : World} {B T n : Nat} {v x : Value} {zs : List α} (h : Other v x) (hx : Own E W B T x n zs) (hg : W.grownBy u v.ownBlock) : Own E u B T x n zs := hx.keep hg fun g e e' => h g e'.symm e
end Go.Proofs.Ytoclkhnejanlnaa
