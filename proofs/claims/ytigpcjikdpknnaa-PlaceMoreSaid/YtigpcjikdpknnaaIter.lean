/- The iterator 'may' of package load: the Ps that may be with their loads, in rising order, for every loop body that keeps what lay below. Conditions: the slice reads as a list of numbers. -/
import Derived.Test.YtigpcjikdpknnaaChecked
import Derived.Test.YtigpcjikdpknnaaBase
import Derived.RangeFuncNested
import Derived.RangeFuncBound
import Derived.RangeFuncCalls
import Derived.RangeFuncLeaves
import Derived.RangeFuncBox
import Derived.Shelf.Abstract
import Derived.Shelf.RegionOpen
import Derived.WalkKit
import Derived.OwnWalkIn
import Derived.TacticsInMore
import Derived.LoopNIn
import Derived.LoopIn
import Derived.Outline
import Derived.Lib.Hide
namespace Go.Proofs.Ytigpcjikdpknnaa
set_option linter.unusedVariables false
open Go.RowKit Go.Shelf
attribute [local go_sem] Oper.semAt_some

/-- What a round keeps: all below n₀, and block c. -/
structure Keep (n₀ c : Nat) (A B : World) : Prop where
  below : Below n₀ A B
  one : B.heap[c]? = A.heap[c]?
theorem Keep.refl (n₀ c : Nat) (A : World) : Keep n₀ c A A := ⟨Below.refl _ _, rfl⟩
theorem Keep.trans {n₀ c : Nat} {A B C : World} (h : Keep n₀ c A B) (k : Keep n₀ c B C) : Keep n₀ c A C := ⟨h.below.trans k.below, k.one.trans h.one⟩
theorem keep_b {n₀ c : Nat} {w : World} (hn : n₀ ≤ w.heap.size) (hc : c < w.heap.size) (W : World) (l : Nat) (o o' : Obj) (hl : w.heap.size ≤ l) (h : W.heap[l]? = some o) (h1 : o.isCells = false) (h2 : o.isWalk = false) : Keep n₀ c W (W.putObj l o') :=
  ⟨belowK_b hn W l o o' hl h h1 h2, (belowK_b (n₀ := c + 1) (w := w) (by omega) W l o o' hl h h1 h2).block c (by omega)⟩
theorem Keep.setCell {n₀ c : Nat} {W : World} {p : Addr} (hp : n₀ ≤ p.block) (hq : c ≠ p.block) (u : Value) : Keep n₀ c W (W.setCell p u) :=
  ⟨(Below.refl n₀ W).setCell hp u, Below.heap_setCell W p u c hq⟩

def encP (zs : List Int) (m : Int) (x : { p : Nat // mayB zs m p = true }) : Array Value := #[.int .i64 (x.1 : Int), .int .u64 (zat zs x.1)]

set_option maxRecDepth 100000 in
set_option maxHeartbeats 2000000 in
theorem may1_in (F : Fence) (n : Nat) (h37 : F.fn 37) (hro : F.round = none) (hn : 1 ≤ n) (l Bs Bm n₀ b off len cap : Nat) (zs : List Int) (m : Int) (hz : zs.length = len) (hreach : len * 8 ≤ 140737488351232)
    (hb : b < n₀) (J Jx : List { p : Nat // mayB zs m p = true } → World → Prop)
    (hY : ∀ pre x W, J pre W → pre.length < len → YieldAt F (n - 1) Try.prog l (encP zs m x) W fun e W' =>
      (e = .returned (.bool true) ∧ J (pre ++ [x]) W' ∧ Keep n₀ Bm W W') ∨ (e = .returned (.bool false) ∧ Jx (pre ++ [x]) W'))
    (W : World) (hBs : W.cell? ⟨Bs, 0, none⟩ = some (.slice (some ⟨b, off, none⟩) len cap)) (hM : W.cell? ⟨Bm, 0, none⟩ = some (.int .u64 m))
    (hc : ∀ j, j < len → W.cell? ⟨b, off + j, none⟩ = some (.int .u64 (zat zs j))) (h0 : J [] W) :
    CallsIn F n Try.prog 37 #[.func (.yield l) #[] #[], .pointer (some ⟨Bs, 0, none⟩), .pointer (some ⟨Bm, 0, none⟩)] W fun e W' => (∃ v, e = .returned v) ∧
      ((∃ ys, ys = came zs m len ∧ J ys W') ∨ (∃ pre, (∃ k, k ≤ len ∧ pre = came zs m k) ∧ Jx pre W')) := by
  refine callsIn_of_wp Try.func37 rfl h37 ?_ hro
  simp only [Try.ntmps37, List.size_toArray, List.length_cons, List.length_nil, Nat.reduceAdd, Nat.reduceSub, Array.replicate_succ, Array.replicate_zero, List.push_toArray, List.append_toArray, List.nil_append, List.cons_append]
  gi_wp2
  gi_loopw [8] (fun i wr => ∃ k : Nat, k ≤ len ∧ i = .int .i64 k ∧ J (came zs m k) wr ∧ Keep n₀ Bm W wr)
    (fun i _ => len - (intOf i).toNat)
  case atStart => exact ⟨0, Nat.zero_le _, rfl, h0, Keep.refl _ _ _⟩
  case round =>
    obtain ⟨k, hk, rfl, hJs, hnx⟩ := hrel
    have hcx : k < len → wr.cell? ⟨b, off + k, none⟩ = some (.int .u64 (zat zs k)) := fun h => (hnx.below.cell (p := ⟨b, off + k, none⟩) hb).trans (hc k h)
    have hmx : wr.cell? ⟨Bm, 0, none⟩ = some (.int .u64 m) := (World.cell?_of_block (a := ⟨Bm, 0, none⟩) hnx.one).trans hM
    by_cases hlt : k < len
    · have hcx' := hcx hlt
      clear hcx
      by_cases h64 : k < 64
      · by_cases hbit : (bits BinOp.and IntKind.u64 (m / 2 ^ k) 1 == 1) = true
        · have hmay : mayB zs m k = true := mayB_iff.2 ⟨by omega, h64, hbit⟩
          obtain ⟨fn, tmps, assign, body, hy, hR⟩ := hY _ ⟨k, hmay⟩ wr hJs (by have := came_length zs m k; omega)
          simp only [encP] at hy
          have h64' : (k : Int) < 64 := by omega
          have hcm : came zs m (k + 1) = came zs m k ++ [⟨k, hmay⟩] := came_yes hmay
          have HC := Lib.hid hcm; clear hcm
          gi_wp2
          refine hR.mono ?_
          rintro e W3 (⟨rfl, hJ3, hk3⟩ | ⟨rfl, hJx3⟩)
          · gi_wp2
            go_roundw
            case rel => exact ⟨k + 1, by omega, by simp, by rw [HC.out]; exact hJ3, hnx.trans hk3⟩
            case measure => simp [intOf]; omega
          · gi_wp2
            refine bodyPost_ret (results_none rfl _ _ _) rfl ?_
            exact ⟨⟨_, rfl⟩, .inr ⟨_, ⟨k + 1, by omega, HC.out.symm⟩, hJx3⟩⟩
        · have hno : mayB zs m k = false := by
            cases h : mayB zs m k
            · rfl
            · exact absurd (mayB_iff.1 h).2.2 hbit
          have hcm : came zs m (k + 1) = came zs m k := came_no hno
          have HC := Lib.hid hcm; clear hcm hno
          have hbit' : (bits BinOp.and IntKind.u64 (m / 2 ^ k) 1 == 1) = false := by simpa using hbit
          clear hbit
          have h64' : (k : Int) < 64 := by omega
          gi_wp2
          refine ⟨fun _ h => (by cases h), ?_⟩
          gi_wp2
          go_roundw
          case rel => exact ⟨k + 1, by omega, by simp, by rw [HC.out]; exact hJs, hnx⟩
          case measure => simp [intOf]; omega
      · have hno : mayB zs m k = false := by
          cases h : mayB zs m k
          · rfl
          · exact absurd (mayB_iff.1 h).2.1 h64
        have hcm : came zs m (k + 1) = came zs m k := came_no hno
        have HC := Lib.hid hcm; clear hcm hno
        have h64' : ¬ (k : Int) < 64 := by omega
        gi_wp2
        refine ⟨fun _ h => (by cases h), ?_⟩
        gi_wp2
        go_roundw
        case rel => exact ⟨k + 1, by omega, by simp, by rw [HC.out]; exact hJs, hnx⟩
        case measure => simp [intOf]; omega
    · obtain rfl : k = len := by omega
      gi_wp2
      go_end0
      exact ⟨⟨_, rfl⟩, .inl ⟨_, rfl, hJs⟩⟩

set_option maxRecDepth 100000 in
set_option maxHeartbeats 1000000 in
theorem may1_nil_in (F : Fence) (n : Nat) (h37 : F.fn 37) (hro : F.round = none) (l Bs Bm : Nat) (zs : List Int) (m : Int) (J : List { p : Nat // mayB zs m p = true } → World → Prop) (W : World) (a : Option Addr) (cap : Nat) (hBs : W.cell? ⟨Bs, 0, none⟩ = some (.slice a 0 cap)) (h0 : J [] W) :
    CallsIn F n Try.prog 37 #[.func (.yield l) #[] #[], .pointer (some ⟨Bs, 0, none⟩), .pointer (some ⟨Bm, 0, none⟩)] W fun e W' => (∃ v, e = .returned v) ∧ J [] W' := by
  refine callsIn_of_wp Try.func37 rfl h37 ?_ hro
  simp only [Try.ntmps37, List.size_toArray, List.length_cons, List.length_nil, Nat.reduceAdd, Nat.reduceSub, Array.replicate_succ, Array.replicate_zero, List.push_toArray, List.append_toArray, List.nil_append, List.cons_append]
  gi_wp2
  gi_loopw [8] (fun i wr => i = .int .i64 0 ∧ J [] wr) (fun _ _ => 0)
  case atStart => exact ⟨rfl, h0⟩
  case round =>
    obtain ⟨rfl, hJs⟩ := hrel
    gi_wp2
    go_end0
    exact ⟨⟨_, rfl⟩, hJs⟩

/-- The call of 'may' itself boxes both. -/
theorem may_in (F : Fence) (n : Nat) (h35 : F.fn 35) (hro : F.round = none) (a : Option Addr) (len cap : Nat) (m : Int) (w : World) :
    CallsIn F n Try.prog 35 #[.slice a len cap, .int .u64 m] w fun e w' => e = .returned (.func (.func 37) #[] #[.pointer (some ⟨w.heap.size, 0, none⟩), .pointer (some ⟨w.heap.size + 1, 0, none⟩)]) ∧ w' = (w.alloc (.cells #[.slice a len cap] 22)).alloc (.cells #[.int .u64 m] 23) := by
  refine callsIn_of_wp Try.func35 rfl h35 ?_ hro
  simp only [Try.ntmps35, List.size_toArray, List.length_cons, List.length_nil, Nat.reduceAdd, Nat.reduceSub, Array.replicate_succ, Array.replicate_zero, List.push_toArray, List.append_toArray, List.nil_append, List.cons_append]
  gi_wp2
  go_ret
  exact ⟨rfl, rfl⟩

/-- The slice value reads as zs, in a block below n₀. -/
def Ints (n₀ : Nat) (W : World) (sv : Value) (zs : List Int) : Prop :=
  ((∃ a cap, sv = .slice a 0 cap) ∧ zs = []) ∨ ∃ b off cap, sv = .slice (some ⟨b, off, none⟩) zs.length cap ∧ b < n₀ ∧ ∀ j, j < zs.length → W.cell? ⟨b, off + j, none⟩ = some (.int .u64 (zat zs j))
theorem Ints.below {n₀ : Nat} {A B : World} (h : Below n₀ A B) {sv : Value} {zs : List Int} : Ints n₀ A sv zs → Ints n₀ B sv zs
  | .inl e => .inl e
  | .inr ⟨b, off, cap, e, hb, hc⟩ => .inr ⟨b, off, cap, e, hb, fun j hj => (h.cell (p := ⟨b, off + j, none⟩) hb).trans (hc j hj)⟩

theorem Ints.grow {n₀ n₁ : Nat} {A : World} (hn : n₀ ≤ n₁) {sv : Value} {zs : List Int} : Ints n₀ A sv zs → Ints n₁ A sv zs
  | .inl e => .inl e
  | .inr ⟨b, off, cap, e, hb, hc⟩ => .inr ⟨b, off, cap, e, by omega, hc⟩
/-- What a callee leaves: the slice reads as it read. -/
theorem Ints.next {A B : World} (h : Below A.heap.size A B) {sv : Value} {zs : List Int} (hI : Ints A.heap.size A sv zs) : Ints B.heap.size B sv zs := (hI.below h).grow h.size

theorem may_stops (F : Fence) (n : Nat) (h37 : F.fn 37) (hro : F.round = none) (hn : 1 ≤ n) (Bs Bm n₀ : Nat) (sv : Value) (zs : List Int) (m : Int) (hreach : zs.length * 8 ≤ 140737488351232) (w : World) (hBs : Bs < w.heap.size) (hBm : Bm < w.heap.size) (hn₀ : n₀ ≤ w.heap.size)
    (hc : w.cell? ⟨Bs, 0, none⟩ = some sv) (hM : w.cell? ⟨Bm, 0, none⟩ = some (.int .u64 m)) (hI : Ints n₀ w sv zs) :
    SeqStopsK F n Try.prog 37 #[.pointer (some ⟨Bs, 0, none⟩), .pointer (some ⟨Bm, 0, none⟩)] (encP zs m) (Keep n₀ Bm) (fun ys => ys = came zs m zs.length)
      (fun pre => ∃ k, k ≤ zs.length ∧ pre = came zs m k) zs.length w := fun l J Jx W hW _ _ hY h0 => by
  have hc' := (hW.cell (p := ⟨Bs, 0, none⟩) hBs).trans hc
  have hM' := (hW.cell (p := ⟨Bm, 0, none⟩) hBm).trans hM
  rcases hI.below (hW.mono hn₀) with ⟨⟨a, cap, rfl⟩, rfl⟩ | ⟨b, off, cap, rfl, hb, hcs⟩
  · exact (may1_nil_in F n h37 hro l Bs Bm [] m J W a cap hc' h0).mono fun e W' ⟨he, hj⟩ => ⟨he, .inl ⟨_, rfl, hj⟩⟩
  · exact may1_in F n h37 hro hn l Bs Bm n₀ b off zs.length cap zs m rfl hreach hb J Jx hY W hc' hM' hcs h0
end Go.Proofs.Ytigpcjikdpknnaa
