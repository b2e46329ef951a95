/- What the library's variables hold at a call of the events' functions; kept by whatever leaves the variables' blocks. Conditions: as each says. -/
import Derived.Test.YtcboopkalpmglaaDoorTz
import Derived.Test.YtcboopkalpmglaaDoorShelf
import Derived.Test.YtcboopkalpmglaaDoorNums
import Derived.Test.YtcboopkalpmglaaDoorStrs
import Derived.Stop.LaidErr
import Derived.Lib.LaidTab
import Derived.ShapedOpen
namespace Go.Proofs.YtcboopkalpmglaaDoor
set_option linter.unusedVariables false
open Go.RowKit
theorem gPow : Tryd.prog.globalNamed Tryd.nmPow = some 2 := by kernel_rfl
theorem gSyn : Tryd.prog.globalNamed "strconv.ErrSyntax" = some 5 := by kernel_rfl
theorem gRng : Tryd.prog.globalNamed "strconv.ErrRange" = some 6 := by kernel_rfl
theorem varKept {P : Program} {B g : Nat} {W W' : World} {n : String} {cs : Array Value} (h : Below B W W') (hg : P.globalNamed n = some g) (hgB : g < B) (hv : W.var? P n = some cs) : W'.var? P n = some cs := by
  unfold World.var? at hv ⊢
  rw [hg] at hv ⊢
  simp only [Option.bind_some] at hv ⊢
  rw [h.block g hgB]
  exact hv
/-- The variables. -/
structure EvW (w : World) : Prop where
  lo : 8 ≤ w.heap.size
  tab : Tab64 w
  len : ∃ m : Int, w.cell? ⟨1, 0, none⟩ = some (.int .i64 m)
  pow : Lib.TabIs Tryd.prog w Tryd.nmPow .u64 Lib.pow10Tab
  syn : ∃ tp p, w.var? Tryd.prog "strconv.ErrSyntax" = some #[.iface tp p]
  rng : ∃ tp p, w.var? Tryd.prog "strconv.ErrRange" = some #[.iface tp p]
theorem EvW.of {w w' : World} (h : EvW w) {B : Nat} (hb : Below B w w') (hB : 8 ≤ B) : EvW w' where
  lo := Nat.le_trans h.lo hb.size
  tab := fun j hj => (hb.cell (p := ⟨0, j, none⟩) (by show (0 : Nat) < B; omega)).trans (h.tab j hj)
  len := by
    obtain ⟨m, hm⟩ := h.len
    exact ⟨m, (hb.cell (p := ⟨1, 0, none⟩) (by show (1 : Nat) < B; omega)).trans hm⟩
  pow := varKept hb gPow (by omega) h.pow
  syn := by
    obtain ⟨tp, p, hv⟩ := h.syn
    exact ⟨tp, p, varKept hb gSyn (by omega) hv⟩
  rng := by
    obtain ⟨tp, p, hv⟩ := h.rng
    exact ⟨tp, p, varKept hb gRng (by omega) hv⟩
theorem EvW.next {w w' : World} (h : EvW w) (hb : Below w.heap.size w w') : EvW w' := h.of hb h.lo
theorem EvW.drewN {w : World} (h : EvW w) (n : Nat) : EvW (w.drewN n) := h.next (below_drewN (Below.refl _ _) n)
/-! ### Library functions, at such a world -/
theorem below_grow {w : World} (k : Nat) (os : Array Obj) : Below w.heap.size w (Go.Sort.grow (w.drewN k) os) :=
  ⟨rfl, rfl, rfl, by show w.heap.size ≤ (w.heap ++ os).size; rw [Array.size_append]; omega, fun i hi => by
    show (w.heap ++ os)[i]? = w.heap[i]?
    rw [Array.getElem?_append_left hi]⟩
theorem str_itoa (n : Int) : (⟨(Lib.itoa n).toArray⟩ : ByteArray) = str (dec n) := by
  rw [← dec_itoa]
  unfold str
  rw [map_back]
theorem evItoa (n : Int) (h0 : -9223372036854775808 ≤ n) (h1 : n ≤ 9223372036854775807) (w : World) (hw : EvW w) :
    Calls Tryd.prog 40 #[.int .i64 n] w fun e w' => e = .returned (.string (str (dec n))) ∧ Below w.heap.size w w' :=
  (Tryd.strconv_Itoa n h0 h1 w hw.pow).mono fun e w' ⟨he, k, os, hw'⟩ => ⟨by rw [he, str_itoa], by rw [hw']; exact below_grow k os⟩
theorem evFormat (n : Int) (h0 : -9223372036854775808 ≤ n) (h1 : n ≤ 9223372036854775807) (w : World) (hw : EvW w) :
    Calls Tryd.prog 41 #[.int .i64 n, .int .i64 10] w fun e w' => e = .returned (.string (str (dec n))) ∧ Below w.heap.size w w' :=
  (Tryd.strconv_FormatInt_10 n h0 h1 w hw.pow).mono fun e w' ⟨he, k, os, hw'⟩ => ⟨by rw [he, str_itoa], by rw [hw']; exact below_grow k os⟩
theorem evSplit (s sep : ByteArray) (w : World) (hw : EvW w) (hs : s.size < 4294967281) (h1 : 1 ≤ sep.size) :
    Calls Tryd.prog 20 #[.string s, .string sep] w fun e w' =>
      e = .returned (.slice (some ⟨w.heap.size, 0, none⟩) (Lib.countB s sep + 1) (Lib.countB s sep + 1)) ∧ w' = w.alloc (.cells ((Lib.splitB sep 0 (Lib.countB s sep) s).map Value.string).toArray 9) := by
  obtain ⟨m, hm⟩ := hw.len
  exact Any.strings_Split { Tryd.laysM146 with } Tryd.laysM146.i9 s sep m w hs hm h1
end Go.Proofs.YtcboopkalpmglaaDoor
