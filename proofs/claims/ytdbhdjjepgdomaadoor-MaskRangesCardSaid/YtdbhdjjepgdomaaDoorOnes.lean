/- math/bits.OnesCount64 at every number: how many bits it has. Conditions: none. -/
import Derived.Test.YtdbhdjjepgdomaaDoorProg
import Derived.Test.YtdbhdjjepgdomaaDoorPop
import Derived.Deep.Cut
import Derived.Lib.Hide
namespace Go.Proofs.YtdbhdjjepgdomaaDoor
set_option linter.unusedVariables false
open Go.RowKit
theorem wrap_small {a b : Nat} (h : a + b < 18446744073709551616) : IntKind.u64.wrap ((a : Int) + (b : Int)) = ((a + b : Nat) : Int) := by rw [IntKind.wrap_u64]; omega
theorem st4 {y : Nat} (h : Dg 8 8 8 y) : IntKind.u64.wrap ((y : Int) + (y : Int) / 256) = ((y + y / 256 : Nat) : Int) := by
  have := (last_sum h).2
  have e : ((y : Int) / 256) = ((y / 256 : Nat) : Int) := by simp
  rw [e]; exact wrap_small (by omega)
theorem st5 {y : Nat} (h : Dg 8 8 8 y) : IntKind.u64.wrap (((y + y / 256 : Nat) : Int) + ((y + y / 256 : Nat) : Int) / 65536) = (((y + y / 256) + (y + y / 256) / 65536 : Nat) : Int) := by
  have := (last_sum h).2
  have e : (((y + y / 256 : Nat) : Int) / 65536) = (((y + y / 256) / 65536 : Nat) : Int) := by simp
  rw [e]; exact wrap_small (by omega)
theorem st6 {y : Nat} (h : Dg 8 8 8 y) : IntKind.u64.wrap ((((y + y / 256) + (y + y / 256) / 65536 : Nat) : Int) + (((y + y / 256) + (y + y / 256) / 65536 : Nat) : Int) / 4294967296) = ((((y + y / 256) + (y + y / 256) / 65536) + ((y + y / 256) + (y + y / 256) / 65536) / 4294967296 : Nat) : Int) := by
  have := (last_sum h).2
  have e : ((((y + y / 256) + (y + y / 256) / 65536 : Nat) : Int) / 4294967296) = (((y + y / 256) + (y + y / 256) / 65536) / 4294967296 : Nat) := by simp
  rw [e]; exact wrap_small (by omega)
/-- How many a set has. -/
def cnt (m : Nat) : Nat := (bitsL m).length
theorem pop_all {x : Nat} (hx : x < 18446744073709551616) : Dg 2 2 32 (sw 1 32 x) ∧ Dg 4 4 16 (sw 2 16 (sw 1 32 x)) ∧ Dg 8 8 8 (sw 4 8 (sw 2 16 (sw 1 32 x))) ∧ tot 8 8 (sw 4 8 (sw 2 16 (sw 1 32 x))) = cnt x := by
  have h1 : Dg 2 2 32 (sw 1 32 x) := dg_sw (w := 1) (c := 1) (k := 32) (Nat.le_refl _) (dg_bits hx)
  have h2 : Dg 4 4 16 (sw 2 16 (sw 1 32 x)) := dg_sw (w := 2) (c := 2) (k := 16) (by decide) h1
  have h3 : Dg 8 8 8 (sw 4 8 (sw 2 16 (sw 1 32 x))) := dg_sw (w := 4) (c := 4) (k := 8) (by decide) h2
  refine ⟨h1, h2, h3, ?_⟩
  have e1 := tot_sw (w := 4) (by decide) 8 (sw 2 16 (sw 1 32 x))
  have e2 := tot_sw (w := 2) (by decide) 16 (sw 1 32 x)
  have e3 := tot_sw (w := 1) (by decide) 32 x
  exact (e1.trans e2).trans (e3.trans (tot_bits 64 x))
theorem st7 {y : Nat} (h : y < 9223372036854775808) : bits .and .i64 (y : Int) 127 = ((y % 128 : Nat) : Int) := by
  have h1 : (BitVec.ofInt 64 (y : Int)).toNat = y := by rw [BitVec.ofInt_natCast, BitVec.toNat_ofNat]; exact Nat.mod_eq_of_lt (by omega)
  have h2 : (BitVec.ofInt 64 (127 : Int)).toNat = 127 := by decide
  show IntKind.i64.wrap ((BitVec.ofInt 64 (y : Int) &&& BitVec.ofInt 64 127).toNat : Int) = _
  rw [BitVec.toNat_and, h1, h2, show (127 : Nat) = 2 ^ 7 - 1 from rfl, Nat.and_two_pow_sub_one_eq_mod]
  have : y % 2 ^ 7 < 128 := Nat.mod_lt _ (by decide)
  simp only [IntKind.wrap, IntKind.bits, IntKind.signed]
  simp
  omega
set_option maxHeartbeats 1000000 in
theorem ones_any (x : Nat) (hx : x < 18446744073709551616) (w : World) :
    Calls Tryd.prog 33 #[.int .u64 x] w fun e w' => e = .returned (.int .i64 (cnt x)) ∧ w = w' := by
  obtain ⟨d1, d2, d3, ht⟩ := pop_all hx
  have S1 := Lib.hid (st1 hx)
  have S2 := Lib.hid ((st2 (dg_lt d1)).resolve_right (fun h => h d1))
  have S3 := Lib.hid (st3 (dg_lt d2) d2)
  have S4 := Lib.hid (st4 d3)
  have S5 := Lib.hid (st5 d3)
  have S6 := Lib.hid (st6 d3)
  have L := Lib.hid (last_sum d3)
  have HT := Lib.hid ht
  clear d1 d2 d3 ht
  go_enter Tryd.func33, Tryd.ntmps33
  go_upto_region 2 with fail
  rw [S1.out]
  generalize sw 1 32 x = y1 at *
  go_upto_region 3 with fail
  rw [S2.out]
  generalize sw 2 16 y1 = y2 at *
  go_upto_region 4 with fail
  rw [S3.out]
  generalize sw 4 8 y2 = y3 at *
  go_upto_region 5 with fail
  rw [S4.out]
  generalize y3 + y3 / 256 = z1 at *
  go_upto_region 6 with fail
  rw [S5.out]
  generalize z1 + z1 / 65536 = z2 at *
  go_upto_region 7 with fail
  rw [S6.out]
  generalize z2 + z2 / 4294967296 = z3 at *
  have hz := L.out.2
  go_wp2
  go_ret
  have HF := Lib.hid ((st7 hz).trans (congrArg Int.ofNat (L.out.1.trans HT.out)))
  exact ⟨by rw [show bits BinOp.and IntKind.i64 (z3 : Int) 127 = ((cnt x : Nat) : Int) from HF.out]; rfl, rfl⟩
end Go.Proofs.YtdbhdjjepgdomaaDoor
