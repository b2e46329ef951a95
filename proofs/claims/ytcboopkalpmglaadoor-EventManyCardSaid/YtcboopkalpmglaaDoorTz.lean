/- math/bits.TrailingZeros64 at every number, where its table lies as its initialiser lays it. -/
import Derived.Test.YtcboopkalpmglaaDoorProg
import Derived.Test.YtcboopkalpmglaaDoorKept
import Derived.Shelf.Spec.TrailingZeros
namespace Go.Proofs.YtcboopkalpmglaaDoor
set_option linter.unusedVariables false
open Go.RowKit
/-- The table lies in its variable. -/
def Tab64 (w : World) : Prop := TabAt 0 Lib.deBruijn64tab w
theorem Tab64.lt {w : World} (h : Tab64 w) : 0 < w.heap.size := by
  have h0 := h 0 (by decide)
  cases hh : w.heap[0]? with
  | none => simp [World.cell?, hh] at h0
  | some O => exact (Array.getElem?_eq_some_iff.1 hh).1
theorem Tab64.below {w w' : World} (h : Tab64 w) {B : Nat} (hb : Below B w w') (hB : w.heap.size ≤ B) : Tab64 w' := fun j hj =>
  (hb.cell (p := ⟨0, j, none⟩) (Nat.lt_of_lt_of_le h.lt hB)).trans (h j hj)
set_option maxHeartbeats 1000000 in
theorem tz_core (x k idx : Nat) (w : World) (hx0 : ((x : Int) == 0) = false)
    (key : IntKind.u64.wrap (bits BinOp.and IntKind.u64 (x : Int) (IntKind.u64.wrap (-(x : Int))) * 285870213051353865) / 288230376151711744 = (idx : Int))
    (hi : idx < 64) (hk : k < 64) (hcell : w.cell? ⟨0, idx, none⟩ = some (.int .u8 k)) :
    Calls Tryd.prog 56 #[.int .u64 x] w fun e w' => e = .returned (.int .i64 k) ∧ w = w' := by
  go_enter Tryd.func56, Tryd.ntmps56
  go_wp2_with (simp only [key])
  go_ret
  exact ⟨rfl, rfl⟩
theorem tz_zero (w : World) : Calls Tryd.prog 56 #[.int .u64 0] w fun e w' => e = .returned (.int .i64 64) ∧ w = w' := by
  go_enter Tryd.func56, Tryd.ntmps56
  go_wp2
  go_ret
  exact ⟨rfl, rfl⟩
theorem tz_any (x : Nat) (hx : x < 18446744073709551616) (w : World) (hT : Tab64 w) :
    Calls Tryd.prog 56 #[.int .u64 x] w fun e w' => e = .returned (.int .i64 (Lib.ctz 64 x)) ∧ w = w' := by
  by_cases hx0 : x = 0
  · subst hx0
    exact tz_zero w
  · obtain ⟨hlow, hk⟩ := Lib.lowest_bit 64 x hx0 hx
    obtain ⟨hi, htab⟩ := Lib.deBruijn64_at _ hk
    have hcell := hT _ hi
    rw [htab] at hcell
    exact tz_core x _ _ w (by simp; omega) (tz64_key x _ hx hx0 hlow) hi hk hcell
end Go.Proofs.YtcboopkalpmglaaDoor
