/- The lightest one of those of which something holds. Conditions: the slice reads as a list of tasks within the reach. -/
import Derived.Test.YtkgpjcoapopgmaaPick
namespace Go.Proofs.Ytkgpjcoapopgmaa
set_option linter.unusedVariables false
open Go.RowKit

set_option maxRecDepth 100000 in
set_option maxHeartbeats 4000000 in
theorem light_best_any (a : Option Addr) (len cap : Nat) (zs : List Cd) (gap p : Int) (bm bg bp bh : Nat) (w : World) (hl : zs.length = len) (hI : Cds w.heap.size w (.slice a len cap) zs) (hok : CdsOk zs) (hlen : len ≤ 1000) (h0 : 0 ≤ gap) (h1 : gap ≤ 18446744073709551615)
    (hg : w.cell? ⟨bg, 0, none⟩ = some (.int .u64 gap)) (hp : w.cell? ⟨bp, 0, none⟩ = some (.int .i64 p))
    (hm : w.cell? ⟨bm, 0, none⟩ = some (.func (.func 20) #[] #[.pointer (some ⟨bg, 0, none⟩), .pointer (some ⟨bp, 0, none⟩)])) (hh : w.cell? ⟨bh, 0, none⟩ = some (.func (.func 22) #[] #[])) :
    Calls Try.prog 24 #[.slice a len cap, .func (.func 20) #[] #[.pointer (some ⟨bg, 0, none⟩), .pointer (some ⟨bp, 0, none⟩)], .func (.func 25) #[] #[.pointer (some ⟨bh, 0, none⟩)]] w fun e w' => (∃ u v, e = .returned (.tuple #[u, v]) ∧ Slots (bestTo (mayP zs gap p) (wK zs) (iK zs) len) len u v) ∧ Below w.heap.size w w' := by
  have l1 := World.block_lt_of_cell? w _ hg
  have l2 := World.block_lt_of_cell? w _ hp
  have l3 := World.block_lt_of_cell? w _ hm
  have l4 := World.block_lt_of_cell? w _ hh
  simp only at l1 l2 l3 l4
  have HI := Lib.hid hI
  have HL := Lib.hid hl
  have HOK := Lib.hid hok
  have HC := Lib.hid (And.intro hg (And.intro hp (And.intro hm hh)))
  clear hI hl hok hg hp hm hh
  go_enter Try.func24, Try.ntmps24
  go_wp2_with fail
  go_loopw [8, 9, 14] (fun u v i wr => ∃ k : Nat, k ≤ len ∧ i = .int .i64 k ∧ Slots (bestTo (mayP zs gap p) (wK zs) (iK zs) k) len u v ∧ Below w.heap.size w wr) (fun _ _ i _ => len - (intOf i).toNat)
  case atStart => exact ⟨0, Nat.zero_le _, rfl, .inl ⟨rfl, rfl, rfl⟩, Below.refl _ _⟩
  case round =>
    obtain ⟨k, hk, rfl, hs, hB⟩ := hrel
    by_cases hlt : k < len
    · obtain ⟨b, off, ha, hb, hc⟩ := HI.out.cells (p := k) (by rw [HL.out]; exact hlt)
      subst ha
      have hlt' : (k : Int) < (len : Int) := by omega
      obtain ⟨x0, x1, x2, x3⟩ := hc k (by rw [HL.out]; exact hlt)
      have y0 := (hB.cell (p := ⟨b, off + k * 4, none⟩) hb).trans x0
      have y1 := (hB.cell (p := ⟨b, off + k * 4 + 1, none⟩) hb).trans x1
      have y2 := (hB.cell (p := ⟨b, off + k * 4 + 2, none⟩) hb).trans x2
      have y3 := (hB.cell (p := ⟨b, off + k * 4 + 3, none⟩) hb).trans x3
      have HCC := Lib.hid hc
      have hsz := hB.size
      obtain ⟨g1, g2, g3, g4⟩ := HC.out
      have HG := Lib.hid (And.intro ((hB.cell (p := ⟨bg, 0, none⟩) l1).trans g1) (And.intro ((hB.cell (p := ⟨bp, 0, none⟩) l2).trans g2) (And.intro ((hB.cell (p := ⟨bm, 0, none⟩) l3).trans g3) ((hB.cell (p := ⟨bh, 0, none⟩) l4).trans g4))))
      have HS := Lib.hid (show bestTo (mayP zs gap p) (wK zs) (iK zs) (k + 1) = bestStep (mayP zs gap p) (wK zs) (iK zs) (bestTo (mayP zs gap p) (wK zs) (iK zs) k) k from rfl)
      clear x0 x1 x2 x3 hc g1 g2 g3 g4
      have HB := Lib.hid hB
      clear hB
      have HSL := Lib.hid hs
      clear hs
      cases hP : mayP zs gap p k
      · have HN := Lib.hid (show bestTo (mayP zs gap p) (wK zs) (iK zs) (k + 1) = bestTo (mayP zs gap p) (wK zs) (iK zs) k by rw [HS.out]; unfold bestStep; rw [if_neg (by rw [hP]; simp)])
        have HP := Lib.hid hP
        clear hP
        go_wp2_with fail
        obtain ⟨V, hV⟩ : ∃ V, wr.alloc (.cells #[.int .i64 (cat zs k).id, .int .u64 (cat zs k).w, .int .u64 (cat zs k).m, .bool (cat zs k).r] 35) = V := ⟨_, rfl⟩
        have hbV : Below wr.heap.size wr V := by rw [← hV]; exact (Below.refl _ _).alloc (Nat.le_refl _) _
        rw [hV]
        refine (clMay_any (cat zs k) gap p bg bp _ (HOK.out k) (cellb hbV (by omega) HG.out.1) (cellb hbV (by omega) HG.out.2.1)).mono ?_
        rintro e W3 ⟨rfl, hb3⟩
        have HB3 := Lib.hid (nx (nx HB.out hbV) hb3)
        have HPP := Lib.hid (show mayC (cat zs k) gap p = false from HP.out)
        rw [HPP.out]
        clear hV hbV hb3
        go_wp2
        go_roundw
        case rel => exact ⟨k + 1, by omega, by go_num, by rw [HN.out]; exact HSL.out, HB3.out⟩
        case measure => simp [intOf]; omega
      · have HP := Lib.hid hP
        have HPT := Lib.hid (show mayC (cat zs k) gap p = true from hP)
        clear hP
        rcases HSL.out with ⟨q1, rfl, rfl⟩ | ⟨q, q1, q2, rfl, rfl⟩
        · have HN := Lib.hid (show bestTo (mayP zs gap p) (wK zs) (iK zs) (k + 1) = k by rw [HS.out]; unfold bestStep; rw [if_pos ⟨HP.out, .inl (by omega)⟩])
          clear q1
          go_wp2_with fail
          obtain ⟨V, hV⟩ : ∃ V, wr.alloc (.cells #[.int .i64 (cat zs k).id, .int .u64 (cat zs k).w, .int .u64 (cat zs k).m, .bool (cat zs k).r] 35) = V := ⟨_, rfl⟩
          have hbV : Below wr.heap.size wr V := by rw [← hV]; exact (Below.refl _ _).alloc (Nat.le_refl _) _
          rw [hV]
          refine (clMay_any (cat zs k) gap p bg bp _ (HOK.out k) (cellb hbV (by omega) HG.out.1) (cellb hbV (by omega) HG.out.2.1)).mono ?_
          rintro e W3 ⟨rfl, hb3⟩
          have HB3 := Lib.hid (nx (nx HB.out hbV) hb3)
          rw [HPT.out]
          clear hV hbV hb3
          go_wp2
          go_quiet (fail)
          go_wp2
          go_roundw
          case rel => exact ⟨k + 1, by omega, by go_num, .inr ⟨k, HN.out, hlt, by go_num, rfl⟩, (Drew.drewN (Drew.refl _) _).below w.heap.size |> HB3.out.trans⟩
          case measure => simp [intOf]; omega
        · obtain ⟨z0, z1, z2, z3⟩ := HCC.out q (by rw [HL.out]; exact q2)
          have v0 := (HB.out.cell (p := ⟨b, off + q * 4, none⟩) hb).trans z0
          have v1 := (HB.out.cell (p := ⟨b, off + q * 4 + 1, none⟩) hb).trans z1
          have v2 := (HB.out.cell (p := ⟨b, off + q * 4 + 2, none⟩) hb).trans z2
          have v3 := (HB.out.cell (p := ⟨b, off + q * 4 + 3, none⟩) hb).trans z3
          have hq2' : (q : Int) < (len : Int) := by omega
          have HQ1 := Lib.hid q1
          have HLT := Lib.hid (ltK_light zs k q)
          clear z0 z1 z2 z3 q1
          go_wp2_with fail
          obtain ⟨V, hV⟩ : ∃ V, wr.alloc (.cells #[.int .i64 (cat zs k).id, .int .u64 (cat zs k).w, .int .u64 (cat zs k).m, .bool (cat zs k).r] 35) = V := ⟨_, rfl⟩
          have hbV : Below wr.heap.size wr V := by rw [← hV]; exact (Below.refl _ _).alloc (Nat.le_refl _) _
          have HVC := Lib.hid (show wr.heap.size < V.heap.size ∧ V.cell? ⟨wr.heap.size, 0, none⟩ = some (.int .i64 (cat zs k).id) ∧ V.cell? ⟨wr.heap.size, 1, none⟩ = some (.int .u64 (cat zs k).w) ∧ V.cell? ⟨wr.heap.size, 2, none⟩ = some (.int .u64 (cat zs k).m) ∧ V.cell? ⟨wr.heap.size, 3, none⟩ = some (.bool (cat zs k).r) by rw [← hV]; simp)
          rw [hV]
          refine (clMay_any (cat zs k) gap p bg bp _ (HOK.out k) (cellb hbV (by omega) HG.out.1) (cellb hbV (by omega) HG.out.2.1)).mono ?_
          rintro e W3 ⟨rfl, hb3⟩
          have HB3 := Lib.hid (nx (nx HB.out hbV) hb3)
          have HBR := Lib.hid (nx hbV hb3)
          rw [HPT.out]
          have hwb : b < wr.heap.size := by omega
          obtain ⟨vlt, vc0, vc1, vc2, vc3⟩ := HVC.out
          have t0 := (hb3.cell (p := ⟨wr.heap.size, 0, none⟩) vlt).trans vc0
          have t1 := (hb3.cell (p := ⟨wr.heap.size, 1, none⟩) vlt).trans vc1
          have t2 := (hb3.cell (p := ⟨wr.heap.size, 2, none⟩) vlt).trans vc2
          have t3 := (hb3.cell (p := ⟨wr.heap.size, 3, none⟩) vlt).trans vc3
          have s0 := (HBR.out.cell (p := ⟨b, off + q * 4, none⟩) hwb).trans v0
          have s1 := (HBR.out.cell (p := ⟨b, off + q * 4 + 1, none⟩) hwb).trans v1
          have s2 := (HBR.out.cell (p := ⟨b, off + q * 4 + 2, none⟩) hwb).trans v2
          have s3 := (HBR.out.cell (p := ⟨b, off + q * 4 + 3, none⟩) hwb).trans v3
          have hh3 := cellb HBR.out (by omega) HG.out.2.2.2
          have hbh3 : bh < W3.heap.size := by have := HBR.out.size; omega
          have hws : wr.heap.size < W3.heap.size := Nat.lt_of_lt_of_le vlt hb3.size
          have hwb3 : b < W3.heap.size := by omega
          clear hV hbV hb3 vc0 vc1 vc2 vc3 v0 v1 v2 v3
          have HK := Lib.hid (show ltK (wK zs) (iK zs) k q = decide (orI (-cmpI (cat zs q).w (cat zs k).w) (cmpI (cat zs k).id (cat zs q).id) < 0) by rw [Bool.eq_iff_iff, ← HLT.out]; simp)
          go_wp2
          go_region_held3 (fun W' => W'.cell? ⟨wr.heap.size, 0, none⟩ = some (.int .i64 (cat zs k).id) ∧ W'.cell? ⟨wr.heap.size, 1, none⟩ = some (.int .u64 (cat zs k).w) ∧ W'.cell? ⟨wr.heap.size, 2, none⟩ = some (.int .u64 (cat zs k).m) ∧ W'.cell? ⟨wr.heap.size, 3, none⟩ = some (.bool (cat zs k).r) ∧
            W'.cell? ⟨b, off + q * 4, none⟩ = some (.int .i64 (cat zs q).id) ∧ W'.cell? ⟨b, off + q * 4 + 1, none⟩ = some (.int .u64 (cat zs q).w) ∧ W'.cell? ⟨b, off + q * 4 + 2, none⟩ = some (.int .u64 (cat zs q).m) ∧ W'.cell? ⟨b, off + q * 4 + 3, none⟩ = some (.bool (cat zs q).r) ∧ W'.cell? ⟨bh, 0, none⟩ = some (.func (.func 22) #[] #[])) ((refine ⟨?_, ?_, ?_, ?_, ?_, ?_, ?_, ?_, ?_⟩) <;> (repeat (first | assumption | refine celld ?_ | refine cella _ ?_ ?_ | refine lta ?_ | refine ltd ?_)))
            (first | (go_at_call 32; refine (cmpi_any _ _ _).mono ?_; rintro e w' ⟨rfl, rfl⟩) | (go_at_call 31; refine (or2_any _ _ (-cmpI (cat zs q).w (cat zs k).w) (cmpI (cat zs k).id (cat zs q).id) _ ?_ ?_).mono ?_; (exact cnew0 (by simp)); (exact cnew1 (by simp)); rintro e w' ⟨rfl, rfl⟩) | (go_at_call 25; refine (light_any (cat zs k) (cat zs q) bh _ ?_).mono ?_; (simp [*]); rintro e w' ⟨rfl, rfl⟩))
          all_goals
            by_cases hneg : orI (-cmpI (cat zs q).w (cat zs k).w) (cmpI (cat zs k).id (cat zs q).id) < 0
            · have HN := Lib.hid (show bestTo (mayP zs gap p) (wK zs) (iK zs) (k + 1) = k from HS.out.trans (step_yes HP.out HQ1.out (HLT.out.1 hneg)))
              go_wp2
              go_roundw
              case rel => exact ⟨k + 1, by omega, by go_num, .inr ⟨k, HN.out, hlt, by go_num, rfl⟩, HB3.out.trans (by repeat (first | exact Below.refl _ _ | refine Below.drew ?_ | refine Below.alloc ?_ (by have := HB3.out.size; first | (simp only [World.size_alloc]; omega) | omega) _))⟩
              case measure => simp [intOf]; omega
            · have HN := Lib.hid (show bestTo (mayP zs gap p) (wK zs) (iK zs) (k + 1) = q from HS.out.trans (step_no HQ1.out (fun h => hneg (HLT.out.2 h))))
              go_wp2
              go_roundw
              case rel => exact ⟨k + 1, by omega, by go_num, .inr ⟨q, HN.out, q2, by go_num, rfl⟩, HB3.out.trans (by repeat (first | exact Below.refl _ _ | refine Below.drew ?_ | refine Below.alloc ?_ (by have := HB3.out.size; first | (simp only [World.size_alloc]; omega) | omega) _))⟩
              case measure => simp [intOf]; omega
    · obtain rfl : k = len := by omega
      rcases hs with ⟨q1, rfl, rfl⟩ | ⟨q, q1, q2, rfl, rfl⟩
      all_goals
        have HQ1 := Lib.hid q1
        clear q1
        go_wp2
        go_ret2
        refine ⟨⟨_, _, rfl, ?_⟩, hB⟩
      · exact .inl ⟨HQ1.out, rfl, rfl⟩
      · exact .inr ⟨q, HQ1.out, q2, rfl, rfl⟩
end Go.Proofs.Ytkgpjcoapopgmaa
