/- Tasks as the document has them, and the document's choice of one of them. Conditions: the slice reads as a list of tasks within the reach. -/
import Derived.Test.YtkgpjcoapopgmaaOwn
import Derived.Deep.RegionHeld3
import Derived.Deep.AppendLies
namespace Go.Proofs.Ytkgpjcoapopgmaa
set_option linter.unusedVariables false
open Go.RowKit
theorem take_cat {zs : List Cd} {k : Nat} (h : k < zs.length) : zs.take (k + 1) = zs.take k ++ [⟨(cat zs k).id, (cat zs k).w, (cat zs k).m, (cat zs k).r⟩] := by
  rw [List.take_succ_eq_append_getElem h]
  have : cat zs k = zs[k] := by unfold cat; rw [List.getElem?_eq_getElem h]; rfl
  rw [this]
set_option maxRecDepth 100000 in
set_option maxHeartbeats 4000000 in
theorem real_any (a : Option Addr) (len cap : Nat) (zs : List Cd) (w : World) (hl : zs.length = len) (hI : Cds w.heap.size w (.slice a len cap) zs) (hlen : len ≤ 1000) :
    Calls Try.prog 13 #[.slice a len cap] w fun e w' => (∃ a' c', e = .returned (.slice a' len c') ∧ Cds w'.heap.size w' (.slice a' len c') zs) ∧ Below w.heap.size w w' := by
  obtain ⟨i0, hi0, hz0, hz1, hz2⟩ := info_parts Try.info37
  have HI := Lib.hid hI
  have HL := Lib.hid hl
  have HZ := Lib.hid (And.intro hi0 (And.intro hz0 (And.intro hz1 hz2)))
  clear hI hl hi0 hz0 hz1 hz2
  go_enter Try.func13, Try.ntmps13
  go_wp2_with fail
  go_loopw [3, 4] (fun v i wr => ∃ k : Nat, k ≤ len ∧ i = .int .i64 k ∧ OwnC wr w.heap.size 37 v k (zs.take k) ∧ Below w.heap.size w wr) (fun _ i _ => len - (intOf i).toNat)
  case atStart => exact ⟨0, Nat.zero_le _, rfl, ownc_nil _ _ _, Below.refl _ _⟩
  case round =>
    obtain ⟨k, hk, rfl, hO, hB⟩ := hrel
    have HO := Lib.hid hO
    have HB := Lib.hid hB
    clear hO hB
    by_cases hlt : k < len
    · have hlt' : (k : Int) < (len : Int) := by omega
      obtain ⟨b, off, ha, hb, hc⟩ := HI.out.cells (p := k) (by rw [HL.out]; exact hlt)
      subst ha
      obtain ⟨x0, x1, x2, x3⟩ := hc k (by rw [HL.out]; exact hlt)
      have y0 := cellb HB.out hb x0
      have y1 := cellb HB.out hb x1
      have y2 := cellb HB.out hb x2
      have y3 := cellb HB.out hb x3
      have hsz := HB.out.size
      have hbr : b < wr.heap.size := by omega
      have HT := Lib.hid (take_cat (zs := zs) (k := k) (by rw [HL.out]; exact hlt))
      clear hc x0 x1 x2 x3
      go_wp2_with fail
      have HFAR := Lib.hid (far_own HO.out hb)
      have HOA := Lib.hid (World.ownsRow.drew (World.ownsRow.alloc HO.out (.cells #[.int .i64 (cat zs k).id, .int .u64 (cat zs k).w, .int .u64 (cat zs k).m, .bool (cat zs k).r] 37)))
      have HC0 := Lib.hid (celld (W := wr.alloc (.cells #[.int .i64 (cat zs k).id, .int .u64 (cat zs k).w, .int .u64 (cat zs k).m, .bool (cat zs k).r] 37)) ((cnewb (j := 0) rfl).trans rfl))
      have HC1 := Lib.hid (celld (W := wr.alloc (.cells #[.int .i64 (cat zs k).id, .int .u64 (cat zs k).w, .int .u64 (cat zs k).m, .bool (cat zs k).r] 37)) ((cnewb (j := 1) rfl).trans rfl))
      have HC2 := Lib.hid (celld (W := wr.alloc (.cells #[.int .i64 (cat zs k).id, .int .u64 (cat zs k).w, .int .u64 (cat zs k).m, .bool (cat zs k).r] 37)) ((cnewb (j := 2) rfl).trans rfl))
      have HC3 := Lib.hid (celld (W := wr.alloc (.cells #[.int .i64 (cat zs k).id, .int .u64 (cat zs k).w, .int .u64 (cat zs k).m, .bool (cat zs k).r] 37)) ((cnewb (j := 3) rfl).trans rfl))
      have HBS := Lib.hid (show w.heap.size ≤ (wr.alloc (.cells #[.int .i64 (cat zs k).id, .int .u64 (cat zs k).w, .int .u64 (cat zs k).m, .bool (cat zs k).r] 37)).drew.heap.size from Nat.le_trans hsz (by show _ ≤ (wr.alloc _).heap.size; simp))
      have hk1000 : k ≤ 1000 := by omega
      go_region_held3 (fun W' => W'.cell? ⟨b, off + k * 4, none⟩ = some (.int .i64 (cat zs k).id) ∧ W'.cell? ⟨b, off + k * 4 + 1, none⟩ = some (.int .u64 (cat zs k).w) ∧ W'.cell? ⟨b, off + k * 4 + 2, none⟩ = some (.int .u64 (cat zs k).m) ∧ W'.cell? ⟨b, off + k * 4 + 3, none⟩ = some (.bool (cat zs k).r))
        ((refine ⟨?_, ?_, ?_, ?_⟩) <;> (repeat (first | assumption | (with_reducible refine celld ?_) | (with_reducible refine cella _ ?_ ?_) | (with_reducible refine lta ?_) | (with_reducible refine ltd ?_) | refine (hgrow.cell_far _ ?_ HFAR.out).trans ?_)))
        ((refine step_append_cd Try.underlying29 Try.info37 (by rfl) _ _ (by rfl) w.heap.size _ k (zs.take k) (by rfl) HOA.out wr.heap.size _ ⟨(cat zs k).id, (cat zs k).w, (cat zs k).m, (cat zs k).r⟩ (by rfl) HC0.out HC1.out HC2.out HC3.out hk1000 HBS.out ?_; intro v' u hown' hgrow))
      have HG := Lib.hid (((HB.out.alloc hsz (.cells #[.int .i64 (cat zs k).id, .int .u64 (cat zs k).w, .int .u64 (cat zs k).m, .bool (cat zs k).r] 37)).drew).grown hgrow HBS.out (fun j e => (World.ownsRow.lt HO.out j e).1))
      have HO2 := Lib.hid hown'
      clear hown' hgrow
      go_wp2
      go_roundw
      case rel => exact ⟨k + 1, by omega, by go_num, by rw [HT.out]; exact HO2.out, HG.out⟩
      case measure => simp [intOf]; omega
    · obtain rfl : k = len := by omega
      obtain ⟨ho1, ra, rc, rfl, ho3, ho4, ho5⟩ := OwnC.cds HO.out
      have HA := Lib.hid ho5
      have HTK := Lib.hid (show zs.take k = zs from List.take_of_length_le (by have := HL.out; omega))
      clear ho1 ho3 ho4 ho5
      go_wp2
      go_ret
      exact ⟨⟨_, _, rfl, by have := HA.out; rw [HTK.out] at this; exact this⟩, HB.out⟩
end Go.Proofs.Ytkgpjcoapopgmaa
