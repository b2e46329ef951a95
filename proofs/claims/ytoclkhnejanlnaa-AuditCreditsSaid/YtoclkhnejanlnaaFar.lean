/- audit.Apart, and the document's answer. Conditions: the slices read as lists; the weights are within their kind. -/
import Derived.Test.YtoclkhnejanlnaaApart
namespace Go.Proofs.Ytoclkhnejanlnaa
set_option linter.unusedVariables false
open Go.RowKit
section
variable {aa ba : Option Addr} {an ac bn bc : Nat} {za zb : List Int}
set_option maxHeartbeats 4000000 in
theorem apart_any (wa wb most : Int) (w : World) (ha : Rd encI w.heap.size w aa an za) (hb : Rd encI w.heap.size w ba bn zb) (han : an ≤ 9223372036854775807) (hbn : bn ≤ 9223372036854775807) (hwa : 0 ≤ wa) (hwa1 : wa ≤ 18446744073709551615) (hwb : 0 ≤ wb) (hwb1 : wb ≤ 18446744073709551615) :
    Calls Try.prog 15 #[.slice aa an ac, .slice ba bn bc, .int .u64 wa, .int .u64 wb, .int .i64 most] w fun e w' => e = .returned (.bool (apartB za zb wa wb most)) ∧ Below w.heap.size w w' := by
  have hnot : ∀ (x : Bool) (w : World), (Op.unary .not (.bool x)).run Try.prog w = .ok (.bool (!x)) w := fun _ _ => rfl
  have HA := Lib.hid ha
  have HB := Lib.hid hb
  have HAL := Lib.hid ha.1
  have HBL := Lib.hid hb.1
  have hW : Below w.heap.size w (((((w.alloc (.cells #[.slice aa an ac] 36)).alloc (.cells #[.slice ba bn bc] 36)).alloc (.cells #[.int .u64 wa] 29)).alloc (.cells #[.int .u64 wb] 29)).alloc (.cells #[.int .i64 most] 2)) :=
    ((((belowA w _).alloc (by simp) _).alloc (by simp <;> omega) _).alloc (by simp <;> omega) _).alloc (by simp <;> omega) _
  have HW := Lib.hid hW
  clear ha hb hW
  cases hne : ((an : Int) != (bn : Int))
  · have hba : bn = an := by simp at hne; omega
    subst hba
    cases hza : (wa == 0)
    · cases hzb : (wb == 0)
      · have HZA := Lib.hid hza
        have HZB := Lib.hid hzb
        have hwa0 : 0 < wa := by simp at hza; omega
        have hwb0 : 0 < wb := by simp at hzb; omega
        go_enter Try.func15, Try.ntmps15
        go_wp2_with fail
        have facts : ((((((w.alloc (.cells #[.slice aa bn ac] 36)).alloc (.cells #[.slice ba bn bc] 36)).alloc (.cells #[.int .u64 wa] 29)).alloc (.cells #[.int .u64 wb] 29)).alloc (.cells #[.int .i64 most] 2)).cell? ⟨w.heap.size, 0, none⟩ = some (.slice aa bn ac)) ∧
          ((((((w.alloc (.cells #[.slice aa bn ac] 36)).alloc (.cells #[.slice ba bn bc] 36)).alloc (.cells #[.int .u64 wa] 29)).alloc (.cells #[.int .u64 wb] 29)).alloc (.cells #[.int .i64 most] 2)).cell? ⟨w.heap.size + 1, 0, none⟩ = some (.slice ba bn bc)) ∧
          ((((((w.alloc (.cells #[.slice aa bn ac] 36)).alloc (.cells #[.slice ba bn bc] 36)).alloc (.cells #[.int .u64 wa] 29)).alloc (.cells #[.int .u64 wb] 29)).alloc (.cells #[.int .i64 most] 2)).cell? ⟨w.heap.size + 2, 0, none⟩ = some (.int .u64 wa)) ∧
          ((((((w.alloc (.cells #[.slice aa bn ac] 36)).alloc (.cells #[.slice ba bn bc] 36)).alloc (.cells #[.int .u64 wa] 29)).alloc (.cells #[.int .u64 wb] 29)).alloc (.cells #[.int .i64 most] 2)).cell? ⟨w.heap.size + 3, 0, none⟩ = some (.int .u64 wb)) ∧
          ((((((w.alloc (.cells #[.slice aa bn ac] 36)).alloc (.cells #[.slice ba bn bc] 36)).alloc (.cells #[.int .u64 wa] 29)).alloc (.cells #[.int .u64 wb] 29)).alloc (.cells #[.int .i64 most] 2)).cell? ⟨w.heap.size + 4, 0, none⟩ = some (.int .i64 most)) ∧
          w.heap.size + 4 < ((((((w.alloc (.cells #[.slice aa bn ac] 36)).alloc (.cells #[.slice ba bn bc] 36)).alloc (.cells #[.int .u64 wa] 29)).alloc (.cells #[.int .u64 wb] 29)).alloc (.cells #[.int .i64 most] 2))).heap.size ∧
          Below w.heap.size w ((((((w.alloc (.cells #[.slice aa bn ac] 36)).alloc (.cells #[.slice ba bn bc] 36)).alloc (.cells #[.int .u64 wa] 29)).alloc (.cells #[.int .u64 wb] 29)).alloc (.cells #[.int .i64 most] 2))) := by
          refine ⟨?_, ?_, ?_, ?_, ?_, by simp, HW.out⟩
          · exact cella _ (by simp <;> omega) (cella _ (by simp <;> omega) (cella _ (by simp <;> omega) (cella _ (by simp) ((cnewq rfl).trans rfl))))
          · exact cella _ (by simp <;> omega) (cella _ (by simp <;> omega) (cella _ (by simp) ((cnewq (by simp)).trans rfl)))
          · exact cella _ (by simp <;> omega) (cella _ (by simp) ((cnewq (by simp)).trans rfl))
          · exact cella _ (by simp) ((cnewq (by simp)).trans rfl)
          · exact (cnewq (by simp)).trans rfl
        generalize (((((w.alloc (.cells #[.slice aa bn ac] 36)).alloc (.cells #[.slice ba bn bc] 36)).alloc (.cells #[.int .u64 wa] 29)).alloc (.cells #[.int .u64 wb] 29)).alloc (.cells #[.int .i64 most] 2)) = W0 at facts ⊢
        obtain ⟨f1, f2, f3, f4, f5, f6, f7⟩ := facts
        have F1 := Lib.hid f1
        have F2 := Lib.hid f2
        have F3 := Lib.hid f3
        have F4 := Lib.hid f4
        have F5 := Lib.hid f5
        have F7 := Lib.hid f7
        clear f1 f2 f3 f4 f5 f7
        refine (rising_any _ (HA.out.next F7.out) han).mono ?_
        rintro e W1 ⟨rfl, hb1⟩
        have G1 := Lib.hid hb1
        have c1 := cellb hb1 (by omega) F1.out
        have c2 := cellb hb1 (by omega) F2.out
        have hsz := hb1.size
        clear hb1
        cases hra : riseB za
        · have HD := Lib.hid (apart_ra (zb := zb) hra wa wb most)
          clear hra
          go_wp2
          go_ret
          exact ⟨by rw [HD.out]; rfl, nx F7.out G1.out⟩
        · have HRA := Lib.hid hra
          clear hra
          go_wp2_with fail
          refine (rising_any _ ((HB.out.next F7.out).next G1.out) hbn).mono ?_
          rintro e W2 ⟨rfl, hb2⟩
          have G2 := Lib.hid (nx G1.out hb2)
          have e1 := cellb hb2 (by omega) c1
          have hsz2 := hb2.size
          clear hb2 c1 c2
          cases hrb : riseB zb
          · have HD := Lib.hid (apart_rb (za := za) hrb wa wb most)
            clear hrb
            go_wp2
            go_ret
            exact ⟨by rw [HD.out]; rfl, nx F7.out G2.out⟩
          · have HRB := Lib.hid hrb
            clear hrb
            have HD := Lib.hid (apart_is (by rw [HAL.out, HBL.out]) HZA.out HZB.out HRA.out HRB.out most)
            go_wp2_with fail
            refine (among_any 37 #[.pointer (some ⟨w.heap.size, 0, none⟩), .pointer (some ⟨w.heap.size + 2, 0, none⟩), .pointer (some ⟨w.heap.size + 1, 0, none⟩), .pointer (some ⟨w.heap.size + 3, 0, none⟩), .pointer (some ⟨w.heap.size + 4, 0, none⟩)] bn (fun j => anyB j fun i => farB za zb wa wb most i j) _ (by omega) enters37 (fun j W hk hbW => ?_)).mono ?_
            · have hbB := nx G2.out hbW
              exact apart1_any (aa := aa) (ba := ba) (an := bn) (bn := bn) (ac := ac) (bc := bc) w.heap.size (w.heap.size + 2) (w.heap.size + 1) (w.heap.size + 3) (w.heap.size + 4) j wa wb most W ((HA.out.next F7.out).next hbB) ((HB.out.next F7.out).next hbB) HRA.out HRB.out hk hk han hwa0 hwa1 hwb0 hwb1
                (cellb hbB (by omega) F1.out) (cellb hbB (by omega) F3.out) (cellb hbB (by omega) F2.out) (cellb hbB (by omega) F4.out) (cellb hbB (by omega) F5.out)
            · rintro e w' ⟨rfl, hb3⟩
              have G3 := Lib.hid (nx F7.out (nx G2.out hb3))
              clear hb3
              go_wp2
              go_ret
              exact ⟨by rw [HD.out, HAL.out]; rfl, G3.out⟩
      · have h0 : wb = 0 := by simpa using hzb
        subst h0
        have HD := Lib.hid (apart_wb (za := za) (zb := zb) wa most)
        go_enter Try.func15, Try.ntmps15
        go_wp2
        go_ret
        exact ⟨by rw [HD.out]; rfl, HW.out⟩
    · have h0 : wa = 0 := by simpa using hza
      subst h0
      have HD := Lib.hid (apart_wa (za := za) (zb := zb) wb most)
      go_enter Try.func15, Try.ntmps15
      go_wp2
      go_ret
      exact ⟨by rw [HD.out]; rfl, HW.out⟩
  · have HD := Lib.hid (apart_len (za := za) (zb := zb) (by rw [HAL.out, HBL.out]; simp at hne; omega) wa wb most)
    go_enter Try.func15, Try.ntmps15
    go_wp2
    go_ret
    exact ⟨by rw [HD.out]; rfl, HW.out⟩
end
end Go.Proofs.Ytoclkhnejanlnaa
