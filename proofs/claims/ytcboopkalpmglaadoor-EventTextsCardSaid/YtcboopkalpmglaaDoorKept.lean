/- A world in which one block alone has changed, and new ones lie behind: what is kept; cells of a block known whole. Conditions: as each says. -/
import Derived.WalkKit
import Derived.Below
import Derived.Laws.Rows
import Derived.Laws.AppendOwn
import Derived.Lib.Hide
import Derived.Deep.QuietTactic
namespace Go.Proofs.YtcboopkalpmglaaDoor
set_option linter.unusedVariables false
open Go.RowKit
/-- All but block b is as it was; new blocks may lie behind. -/
structure Kept (b : Nat) (w w' : World) : Prop where
  os : w'.os = w.os
  tape : w'.tape = w.tape
  output : w'.output = w.output
  size : w.heap.size ≤ w'.heap.size
  block : ∀ k, k < w.heap.size → k ≠ b → w'.heap[k]? = w.heap[k]?
theorem Kept.refl (b : Nat) (w : World) : Kept b w w := ⟨rfl, rfl, rfl, Nat.le_refl _, fun _ _ _ => rfl⟩
theorem Kept.trans {b : Nat} {x y z : World} (h : Kept b x y) (k : Kept b y z) : Kept b x z :=
  ⟨k.os.trans h.os, k.tape.trans h.tape, k.output.trans h.output, Nat.le_trans h.size k.size, fun i hi hb => (k.block i (Nat.lt_of_lt_of_le hi h.size) hb).trans (h.block i hi hb)⟩
theorem Kept.setCell {b i : Nat} {x y : World} (h : Kept b x y) (v : Value) : Kept b x (y.setCell ⟨b, i, none⟩ v) :=
  ⟨h.os, h.tape, h.output, by simpa using h.size, fun k hk hb => (heap_setCell_other y ⟨b, i, none⟩ k v hb).trans (h.block k hk hb)⟩
theorem Kept.drew {b : Nat} {x y : World} (h : Kept b x y) : Kept b x y.drew := ⟨h.os, h.tape, h.output, h.size, h.block⟩
theorem Kept.drewN {b : Nat} {x y : World} (h : Kept b x y) (n : Nat) : Kept b x (y.drewN n) := ⟨h.os, h.tape, h.output, h.size, h.block⟩
theorem Kept.below {b B : Nat} {x y : World} (h : Kept b x y) (hb : B ≤ b) (hB : B ≤ x.heap.size) : Below B x y :=
  ⟨h.os, h.tape, h.output, h.size, fun k hk => h.block k (by omega) (by omega)⟩
theorem Kept.cell {b : Nat} {x y : World} (h : Kept b x y) {k o : Nat} {v : Value} (hk : k < x.heap.size) (hb : k ≠ b) (hc : x.cell? ⟨k, o, none⟩ = some v) : y.cell? ⟨k, o, none⟩ = some v :=
  (World.cell?_of_block (a := ⟨k, o, none⟩) (h.block k hk hb)).trans hc
theorem of_below {b : Nat} {x y : World} (h : Below x.heap.size x y) : Kept b x y := ⟨h.os, h.tape, h.output, h.size, fun k hk _ => h.block k hk⟩
/-- The cells of a block that is known whole. -/
theorem block_cell {w : World} {b T i : Nat} {C : Array Value} {v : Value} (h : w.heap[b]? = some (.cells C T (0, 0))) (hv : C[i]? = some v) : w.cell? ⟨b, i, none⟩ = some v := by
  simp [World.cell?, h, hv]
theorem block_free {w : World} {b T i : Nat} {C : Array Value} (h : w.heap[b]? = some (.cells C T (0, 0))) : w.frozen? ⟨b, i, none⟩ = false := frozen_of_row w b i C T h
theorem block_set {w : World} {b T i : Nat} {C : Array Value} (v : Value) (h : w.heap[b]? = some (.cells C T (0, 0))) : (w.setCell ⟨b, i, none⟩ v).heap[b]? = some (.cells (C.setIfInBounds i v) T (0, 0)) := heap_setCell_same w b i C T v h
theorem block_lt {w : World} {b : Nat} {O : Obj} (h : w.heap[b]? = some O) : b < w.heap.size := (Array.getElem?_eq_some_iff.1 h).1
theorem block_drewN {w : World} {b n : Nat} {O : Obj} (h : w.heap[b]? = some O) : (w.drewN n).heap[b]? = some O := h
theorem block_alloc (w : World) (O : Obj) : (w.alloc O).heap[w.heap.size]? = some O := by show (w.heap.push O)[w.heap.size]? = _; simp
theorem block_keep {w : World} {b : Nat} {O O' : Obj} (h : w.heap[b]? = some O) : (w.alloc O').heap[b]? = some O := by
  have := block_lt h
  show (w.heap.push O')[b]? = _
  rw [Array.getElem?_push, if_neg (by omega), h]
end Go.Proofs.YtcboopkalpmglaaDoor
