/- What each gets of a pool by the document's own words, and when two lists are the same. Conditions: the needs read as a list of at most 1000 numbers. -/
import Derived.Test.YtdijafdplkdfiaaGive
namespace Go.Proofs.Ytdijafdplkdfiaa
set_option linter.unusedVariables false
open Go.RowKit
set_option maxRecDepth 100000 in
set_option maxHeartbeats 4000000 in
theorem refGive_any (a : Option Addr) (cap : Nat) (zs : List Int) (p s : Int) (w : World) (hI : Ints w.heap.size w (.slice a zs.length cap) zs) (hl : zs.length ≤ 1000) (hz : ∀ j, -9223372036854775808 ≤ zat zs j ∧ zat zs j ≤ 9223372036854775807)
    (hp : -9223372036854775808 ≤ p ∧ p ≤ 9223372036854775807) (hs : -9223372036854775808 ≤ s ∧ s ≤ 9223372036854775807) :
    Calls Try.prog 11 #[.slice a zs.length cap, .int .i64 p, .int .i64 s] w fun e w' => (∃ a' cap', e = .returned (.tuple #[.slice a' zs.length cap', .int .i64 (leftTo s p zs zs.length)]) ∧ Ints w'.heap.size w' (.slice a' zs.length cap') (gots s p zs zs.length)) ∧ Below w.heap.size w w' := by
  have HI := Lib.hid hI
  have HZ := Lib.hid hz
  have HT := Lib.hid (show ∀ j, zat zs j ≤ top63 from fun j => (hz j).2)
  have HP := Lib.hid hp
  have HS := Lib.hid hs
  clear hI hz
  go_enter Try.func11, Try.ntmps11
  go_wp2_with fail
  go_loopw [1, 8, 9] (fun q v i wr => ∃ k : Nat, k ≤ zs.length ∧ i = .int .i64 k ∧ q = .int .i64 (leftTo s p zs k) ∧ wr.ownsRow w.heap.size 2 1 v k ((gots s p zs k).map (Value.int .i64)) ∧ Below w.heap.size w wr) (fun _ _ i _ => zs.length - (intOf i).toNat)
  case atStart => exact ⟨0, by omega, rfl, rfl, World.ownsRow_nil _ _ _ _, Below.refl _ _⟩
  case round =>
    obtain ⟨k, hk, rfl, rfl, hown, hB⟩ := hrel
    have HO := Lib.hid hown
    clear hown
    by_cases hlt : k < zs.length
    · have hlt' : (k : Int) < (zs.length : Int) := by omega
      obtain ⟨b, off, ha, hb, hc⟩ := HI.out.cells hlt
      subst ha
      have hck : wr.cell? ⟨b, off + k, none⟩ = some (.int .i64 (zat zs k)) := (hB.cell (p := ⟨b, off + k, none⟩) hb).trans (hc k hlt)
      obtain ⟨L1, L2, L3⟩ := left_bd (s := s) (p := p) HT.out k
      obtain ⟨G1, G2, G3, G4⟩ := got_bd (s := s) (p := p) HT.out k
      have hW := want_bd (zat zs k) s (HT.out k)
      have HG := Lib.hid (gots_succ s p zs k)
      have HL := Lib.hid (show leftTo s p zs (k + 1) = leftTo s p zs k - gotAt s p zs k from rfl)
      have HGO := Lib.hid (show gotAt s p zs k = min (wantI (zat zs k) s) (max (leftTo s p zs k) 0) from rfl)
      clear hc
      generalize leftTo s p zs k = Q at *
      generalize gotAt s p zs k = G at *
      have hQ := hp
      have hQ1 : -9223372036854775808 ≤ Q := by
        by_cases h : 0 ≤ p
        · have := L2 h; omega
        · have := L3 (by omega); omega
      have hQ2 : Q ≤ 9223372036854775807 := by omega
      have hGQ1 : -9223372036854775808 ≤ Q - G := by
        by_cases h : 0 ≤ p
        · have := G3 h; have := L2 h; omega
        · have := G4 (by omega); omega
      have hGQ2 : Q - G ≤ 9223372036854775807 := by omega
      have HW := Lib.hid hW
      clear L1 L2 L3 G2 G3 G4 hW hQ hp hs
      go_wp2_with fail
      refine (refWant_any _ _ _ (HZ.out k) HS.out).mono ?_
      rintro e w' ⟨rfl, rfl⟩
      have hV := HW.out
      have HWV := Lib.hid hV
      generalize wantI (zat zs k) s = V at *
      have hVb : 0 ≤ V := hV.1
      have hcase : (Q < 0 ∧ G = 0 ∧ V = 0) ∨ (Q < 0 ∧ G = 0 ∧ 0 < V) ∨ (Q = 0 ∧ G = 0 ∧ V = 0) ∨ (Q = 0 ∧ G = 0 ∧ 0 < V) ∨ (0 < Q ∧ G = V ∧ V < Q) ∨ (0 < Q ∧ G = V ∧ V = Q) ∨ (0 < Q ∧ G = Q ∧ Q < V) := by
        have := HGO.out
        omega
      have hVt : V ≤ 9223372036854775807 := hV.2
      have hh8 : (k + 1) * 8 ≤ 140737488355328 := by omega
      have hsz := hB.size
      clear hV HWV
      rcases hcase with ⟨c1, rfl, rfl⟩ | ⟨c1, rfl, c3⟩ | ⟨rfl, rfl, rfl⟩ | ⟨rfl, rfl, c3⟩ | ⟨c1, rfl, c3⟩ | ⟨c1, rfl, rfl⟩ | ⟨c1, rfl, c3⟩
      all_goals
        go_wp2_with (at_builtin; refine append_ints Try.underlying22 Try.info2 rfl _ _ rfl w.heap.size _ k (gots s p zs k) rfl (HO.out.alloc _) (wr.heap.size + 1) _ 1 _ [_] rfl (by intro h; cases h) rfl (Ints.new1 wr 2 _) hh8 (by simp; omega) ?_; intro v' u hown' hgrow; have hB' : Below w.heap.size w u := (hB.alloc hsz _).grown hgrow (by simp; omega) (fun j e => (HO.out.lt j e).1); rw [← HG.out] at hown'; have HO' := Lib.hid hown'; clear hown' hgrow)
        go_roundw
        case rel => exact ⟨k + 1, by omega, by go_num, by rw [HL.out] <;> simp, HO'.out, hB'⟩
        case measure => simp [intOf]; omega
    · obtain rfl : k = zs.length := by omega
      obtain ⟨a', cap', rfl, _, hI2⟩ := ownsRow_intsn (gots_length s p zs _) HO.out
      have HI2 := Lib.hid hI2
      clear hI2
      go_wp2
      go_ret2
      exact ⟨⟨a', cap', rfl, HI2.out⟩, hB⟩

set_option maxRecDepth 100000 in
set_option maxHeartbeats 4000000 in
/-- Two lists that are the same. -/
theorem nums_same (a b : Option Addr) (len cap cap' : Nat) (xs : List Int) (w : World) (hl : xs.length = len) (hI : Ints w.heap.size w (.slice a len cap) xs) (hJ : Ints w.heap.size w (.slice b len cap') xs) (hm : len ≤ 9223372036854775807) :
    Calls Try.prog 12 #[.slice a len cap, .slice b len cap'] w fun e w' => e = .returned (.bool true) ∧ Drew w w' := by
  have HI := Lib.hid hI
  have HJ := Lib.hid hJ
  have HL := Lib.hid hl
  have hnb : ((len : Int) != (len : Int)) = false := by simp
  clear hI hJ hl
  go_enter Try.func12, Try.ntmps12
  go_wp2_with fail
  go_loopw [5] (fun i wr => ∃ k : Nat, k ≤ len ∧ i = .int .i64 k ∧ Drew w wr) (fun i _ => len - (intOf i).toNat)
  case atStart => exact ⟨0, by omega, rfl, Drew.refl _⟩
  case round =>
    obtain ⟨k, hk, rfl, hd⟩ := hrel
    by_cases hlt : k < len
    · have hlt' : (k : Int) < (len : Int) := by omega
      obtain ⟨b1, o1, ha, hb, hc⟩ := HI.out.cells (p := k) (by rw [HL.out]; exact hlt)
      obtain ⟨b2, o2, ha2, hb2, hc2⟩ := HJ.out.cells (p := k) (by rw [HL.out]; exact hlt)
      subst ha ha2
      have h1 : wr.cell? ⟨b1, o1 + k, none⟩ = some (.int .i64 (zat xs k)) := (hd.cell _).trans (hc k (by rw [HL.out]; exact hlt))
      have h2 : wr.cell? ⟨b2, o2 + k, none⟩ = some (.int .i64 (zat xs k)) := (hd.cell _).trans (hc2 k (by rw [HL.out]; exact hlt))
      have hz : (zat xs k != zat xs k) = false := by simp
      clear hc hc2
      go_wp2
      go_quiet (fail)
      go_wp2
      go_roundw
      case rel => exact ⟨k + 1, by omega, by go_num, hd.drewN _⟩
      case measure => simp [intOf]; omega
    · obtain rfl : k = len := by omega
      go_wp2
      go_ret
      exact ⟨rfl, hd⟩
end Go.Proofs.Ytdijafdplkdfiaa
