/- FifoPlays: at every input the law returns true and leaves its argument as it was: whatever is put, taken and dropped, the answers, and who waits, are the document's. Conditions: none beyond the row's own. -/
import Derived.Test.YtdijafdplkdfiaaRows
import Derived.Test.YtdijafdplkdfiaaDeeds
import Derived.WalkKit
import Derived.Deep.QuietTactic
import Derived.BigQuiet
import Derived.ProofKit
import Derived.OpenShut
import Derived.ShutString
import Derived.ChangeOld
import Derived.Below
namespace Go.Proofs.Ytdijafdplkdfiaa.fifoPlays
open Go.ChangeShapes Go.WideShapes Go.ChangeAt Go.RowKit
open Go.ChangeMaps (open_string shut_string)
set_option linter.unusedVariables false

theorem own : ownKnob Try.prog.godebug = none := by kernel_rfl
theorem laidOut : laidOutB Try.prog = true := by kernel_rfl

set_option maxRecDepth 100000 in
set_option maxHeartbeats 8000000 in
theorem walk (a0 : Option Addr) (len0 cap0 : Nat) (z0 : List (Int × Int)) (w : World) (w0 : IsDeeds w a0 len0 cap0 z0) :
    Calls Try.prog 7 #[.slice a0 len0 cap0] w fun e w' => e = .returned (.bool true) ∧ Below w.heap.size w w' := by
  obtain ⟨hz1, hzm, hz2⟩ := w0
  have HZ := Lib.hid hz2
  clear hz2
  go_enter Try.func7, Try.ntmps7
  go_wp2_with fail
  refine (shown_any _).mono ?_
  rintro e W1 ⟨rfl, hb1⟩
  have HB1 := Lib.hid hb1
  clear hb1
  go_wp2_with fail
  refine (new_line _).mono ?_
  rintro e W2 ⟨b, rfl, hb, hL2, hB2⟩
  have HBB := Lib.hid hb
  have HL2 := Lib.hid hL2
  have HB2 := Lib.hid hB2
  clear hb hL2 hB2
  go_wp2_with fail
  go_loopw [5, 6] (fun v i wr => ∃ (k : Nat) (xs : List Int), k ≤ len0 ∧ k ≤ 300 ∧ i = .int .i64 k ∧ Apart b wr v xs ∧ Good xs ∧ LineAt wr b xs ∧ Below W1.heap.size W1 wr) (fun _ i _ => 300 - (intOf i).toNat)
  case atStart => exact ⟨0, [], Nat.zero_le _, Nat.zero_le _, rfl, Apart.nil _ _, ⟨List.nodup_nil, fun x hx => by simp at hx, by simp⟩, HL2.out, HB2.out⟩
  case round =>
    obtain ⟨k, xs, hk, hk300, rfl, hA, hG, hL, hB⟩ := hrel
    have HA := Lib.hid hA
    have HL := Lib.hid hL
    have HB := Lib.hid hB
    have HG := Lib.hid hG
    clear hA hL hB hG
    by_cases hlt : k < len0 ∧ k < 300
    · obtain ⟨hlt1, hlt2⟩ := hlt
      have hlt1' : (k : Int) < (len0 : Int) := by omega
      have hlt2' : (k : Int) < 300 := by omega
      obtain ⟨b0, off, ha, hb0, hc⟩ := HZ.out.resolve_left (by omega)
      subst ha
      obtain ⟨c1, c2, c3, c4⟩ := hc k hlt1
      generalize (z0.getD k (0, 0)).1 = K at c1 c3
      generalize (z0.getD k (0, 0)).2 = P at c2 c4
      have hb0' : b0 < W1.heap.size := Nat.lt_of_lt_of_le hb0 HB1.out.size
      have d1 : wr.cell? ⟨b0, off + k * 2, none⟩ = some (.int .i64 K) := (HB.out.cell (p := ⟨b0, off + k * 2, none⟩) hb0').trans ((HB1.out.cell (p := ⟨b0, off + k * 2, none⟩) hb0).trans c1)
      have d2 : wr.cell? ⟨b0, off + k * 2 + 1, none⟩ = some (.int .i64 P) := (HB.out.cell (p := ⟨b0, off + k * 2 + 1, none⟩) hb0').trans ((HB1.out.cell (p := ⟨b0, off + k * 2 + 1, none⟩) hb0).trans c2)
      clear hc c1 c2 c3 c4
      have hVb : b < wr.heap.size := HL.out.lt
      obtain ⟨V, hV⟩ : ∃ V, wr.alloc (.cells #[.int .i64 K, .int .i64 P] 44) = V := ⟨_, rfl⟩
      have hbV : Below wr.heap.size wr V := by rw [← hV]; exact (Below.refl _ _).alloc (Nat.le_refl _) _
      have HLV := Lib.hid (HL.out.below hbV)
      have HAV := Lib.hid (HA.out.below hbV)
      have HBV := Lib.hid (nx HB.out hbV)
      have HD := Lib.hid (show V.cell? ⟨wr.heap.size, 1, none⟩ = some (.int .i64 P) ∧ wr.heap.size < V.heap.size ∧ wr.heap.size ≠ b by rw [← hV]; exact ⟨by simp, by simp, by omega⟩)
      have HV := Lib.hid hV
      clear hV hbV hVb
      by_cases hK0 : K = 0
      · subst hK0
        have HQ := Lib.hid (Good.put (p := P) HG.out)
        cases hq : putOk xs P
        · have HQ0 := Lib.hid hq
          clear hq
          go_wp2_with fail
          rw [HV.out]
          refine (put_any b xs P _ HLV.out).mono ?_
          rintro e W3 ⟨rfl, hL3, hg3⟩
          rw [HQ0.out] at hL3 ⊢
          have HL3 := Lib.hid (show LineAt W3 b xs from hL3)
          have HA3 := Lib.hid (HAV.out.grown hg3)
          have HB3 := Lib.hid (HBV.out.trans (gto hg3 HBB.out HBV.out.size))
          have d3 := (World.cell?_of_block (a := ⟨wr.heap.size, 1, none⟩) (hg3.block wr.heap.size HD.out.2.1 (fun e => HD.out.2.2 (by cases e; rfl)))).trans HD.out.1
          clear hL3 hg3
          go_wp2_with fail
          refine (refPut_any b _ xs P _ HA3.out HL3.out.le HL3.out.lt).mono ?_
          rintro e W4 ⟨⟨v', rfl, hA4⟩, hB4⟩
          rw [HQ0.out] at hA4 ⊢
          have HA4 := Lib.hid (show Apart b W4 v' xs from hA4)
          have HL4 := Lib.hid (HL3.out.below hB4)
          have HB4 := Lib.hid (nx HB3.out hB4)
          clear hA4 hB4
          obtain ⟨aT, cT, hvT, hIT, hnT⟩ := HA4.out.form
          subst hvT
          have HIT := Lib.hid hIT
          clear hIT hnT
          go_wp2_with fail
          refine (len_line b _ _ HL4.out).mono ?_
          rintro e w' ⟨rfl, rfl⟩
          have hneT : ((((xs).length : Nat) : Int) != (((xs).length : Nat) : Int)) = false := by simp
          have hleT := HL4.out.le
          go_wp2_with fail
          refine (list_line b _ _ HL4.out).mono ?_
          rintro e W8 ⟨⟨a8, c8, rfl, hI8⟩, hB8⟩
          have HI8 := Lib.hid hI8
          have HB8 := Lib.hid hB8
          clear hI8 hB8
          go_wp2_with fail
          refine (same_any _ _ _ _ _ xs _ rfl HI8.out (nx0 HB8.out HIT.out) (by omega)).mono ?_
          rintro e W9 ⟨rfl, hd9⟩
          have HB9 := Lib.hid (HB8.out.trans (hd9.below _))
          clear hd9
          go_wp2
          go_roundw
          case rel => exact ⟨k + 1, xs, by omega, by omega, by go_num, Apart.below HA4.out HB9.out, HG.out, HL4.out.below HB9.out, nx HB4.out HB9.out⟩
          case measure => simp [intOf]; omega
        · have HQ0 := Lib.hid hq
          have HG2 := Lib.hid (HQ.out hq)
          clear hq
          go_wp2_with fail
          rw [HV.out]
          refine (put_any b xs P _ HLV.out).mono ?_
          rintro e W3 ⟨rfl, hL3, hg3⟩
          rw [HQ0.out] at hL3 ⊢
          have HL3 := Lib.hid (show LineAt W3 b (xs ++ [P]) from hL3)
          have HA3 := Lib.hid (HAV.out.grown hg3)
          have HB3 := Lib.hid (HBV.out.trans (gto hg3 HBB.out HBV.out.size))
          have d3 := (World.cell?_of_block (a := ⟨wr.heap.size, 1, none⟩) (hg3.block wr.heap.size HD.out.2.1 (fun e => HD.out.2.2 (by cases e; rfl)))).trans HD.out.1
          clear hL3 hg3
          go_wp2_with fail
          refine (refPut_any b _ xs P _ HA3.out HLV.out.le HL3.out.lt).mono ?_
          rintro e W4 ⟨⟨v', rfl, hA4⟩, hB4⟩
          rw [HQ0.out] at hA4 ⊢
          have HA4 := Lib.hid (show Apart b W4 v' (xs ++ [P]) from hA4)
          have HL4 := Lib.hid (HL3.out.below hB4)
          have HB4 := Lib.hid (nx HB3.out hB4)
          clear hA4 hB4
          obtain ⟨ys, hys⟩ : ∃ ys, xs ++ [P] = ys := ⟨_, rfl⟩
          rw [hys] at HA4 HL4 HG2
          clear hys
          obtain ⟨aT, cT, hvT, hIT, hnT⟩ := HA4.out.form
          subst hvT
          have HIT := Lib.hid hIT
          clear hIT hnT
          go_wp2_with fail
          refine (len_line b _ _ HL4.out).mono ?_
          rintro e w' ⟨rfl, rfl⟩
          have hneT : ((((ys).length : Nat) : Int) != (((ys).length : Nat) : Int)) = false := by simp
          have hleT := HL4.out.le
          go_wp2_with fail
          refine (list_line b _ _ HL4.out).mono ?_
          rintro e W8 ⟨⟨a8, c8, rfl, hI8⟩, hB8⟩
          have HI8 := Lib.hid hI8
          have HB8 := Lib.hid hB8
          clear hI8 hB8
          go_wp2_with fail
          refine (same_any _ _ _ _ _ ys _ rfl HI8.out (nx0 HB8.out HIT.out) (by omega)).mono ?_
          rintro e W9 ⟨rfl, hd9⟩
          have HB9 := Lib.hid (HB8.out.trans (hd9.below _))
          clear hd9
          go_wp2
          go_roundw
          case rel => exact ⟨k + 1, ys, by omega, by omega, by go_num, Apart.below HA4.out HB9.out, HG2.out, HL4.out.below HB9.out, nx HB4.out HB9.out⟩
          case measure => simp [intOf]; omega
      · by_cases hK1 : K = 1
        · subst hK1
          have hG3 := HG.out.tail
          have HG3 := Lib.hid hG3
          clear hG3
          cases xs with
          | nil =>
            obtain ⟨a0, c0, hv0, hI0, hn0⟩ := HA.out.form
            subst hv0
            clear hI0 hn0
            go_wp2_with fail
            rw [HV.out]
            refine (take_any b [] _ HLV.out).mono ?_
            rintro e W3 ⟨rfl, hL3, hg3⟩
            have HL3 := Lib.hid (show LineAt W3 b [] from hL3)
            have HA3 := Lib.hid (HAV.out.grown hg3)
            have HB3 := Lib.hid (HBV.out.trans (gto hg3 HBB.out HBV.out.size))
            have d3 := (World.cell?_of_block (a := ⟨wr.heap.size, 1, none⟩) (hg3.block wr.heap.size HD.out.2.1 (fun e => HD.out.2.2 (by cases e; rfl)))).trans HD.out.1
            clear hL3 hg3
            simp only [hdI, List.isEmpty_nil, Bool.not_true, List.length_nil]
            have HG4 := Lib.hid (show Good [] from HG3.out)
            go_wp2_with fail
            obtain ⟨aT, cT, hvT, hIT, hnT⟩ := HA3.out.form
            simp only [List.length_nil, Value.slice.injEq] at hvT
            obtain ⟨rfl, _, rfl⟩ := hvT
            have HIT := Lib.hid hIT
            clear hIT hnT
            go_wp2_with fail
            refine (len_line b _ _ HL3.out).mono ?_
            rintro e w' ⟨rfl, rfl⟩
            have hneT : ((((([] : List Int)).length : Nat) : Int) != (((([] : List Int)).length : Nat) : Int)) = false := by simp
            have hleT := HL3.out.le
            go_wp2_with fail
            refine (list_line b _ _ HL3.out).mono ?_
            rintro e W8 ⟨⟨a8, c8, rfl, hI8⟩, hB8⟩
            have HI8 := Lib.hid hI8
            have HB8 := Lib.hid hB8
            clear hI8 hB8
            go_wp2_with fail
            refine (same_any _ _ _ _ _ ([] : List Int) _ rfl HI8.out (nx0 HB8.out HIT.out) (by omega)).mono ?_
            rintro e W9 ⟨rfl, hd9⟩
            have HB9 := Lib.hid (HB8.out.trans (hd9.below _))
            clear hd9
            go_wp2
            go_roundw
            case rel => exact ⟨k + 1, ([] : List Int), by omega, by omega, by go_num, Apart.below HA3.out HB9.out, HG4.out, HL3.out.below HB9.out, nx HB3.out HB9.out⟩
            case measure => simp [intOf]; omega
          | cons x ys =>
            obtain ⟨g, off1, cap1, hv0⟩ := HA.out.cons
            subst hv0
            clear HA
            obtain ⟨n1, hn1⟩ : ∃ n1, ys.length = n1 := ⟨_, rfl⟩
            have HN1 := Lib.hid hn1
            rw [hn1] at HAV ⊢
            clear hn1
            go_wp2_with fail
            rw [HV.out]
            refine (take_any b (x :: ys) _ HLV.out).mono ?_
            rintro e W3 ⟨rfl, hL3, hg3⟩
            have HL3 := Lib.hid (show LineAt W3 b ys from hL3)
            have HA3 := Lib.hid (HAV.out.grown hg3)
            have HB3 := Lib.hid (HBV.out.trans (gto hg3 HBB.out HBV.out.size))
            have d3 := (World.cell?_of_block (a := ⟨wr.heap.size, 1, none⟩) (hg3.block wr.heap.size HD.out.2.1 (fun e => HD.out.2.2 (by cases e; rfl)))).trans HD.out.1
            clear hL3 hg3
            simp only [hdI, List.isEmpty_cons, Bool.not_false]
            have HG4 := Lib.hid (show Good ys from HG3.out)
            have hat := Apart.tail (b := b) (W := W3) (g := g) (off := off1) (cap := cap1) (x := x) (xs := ys) (by rw [HN1.out]; exact HA3.out)
            rw [HN1.out] at hat
            obtain ⟨hat1, hcx, hat3, hat4⟩ := hat
            have HAT := Lib.hid hat1
            have hxx : (x != x) = false := by simp
            have hp1 : (0 : Int) < (n1 : Int) + 1 := by omega
            have hat4' : cap1 ≤ 9223372036854775807 := by unfold maxLen at hat4; omega
            clear hat1 hat4
            by_cases hcap : cap1 = 1
            · have HAE := Lib.hid (HA3.out.empty hcap)
              obtain rfl : n1 = 0 := by omega
              obtain rfl : ys = [] := List.length_eq_zero_iff.1 HN1.out
              subst hcap
              have HIT := Lib.hid HAE.out.ints.2
              have HNT := Lib.hid HAE.out.ints.1
              go_wp2_with fail
              refine (len_line b _ _ HL3.out).mono ?_
              rintro e w' ⟨rfl, rfl⟩
              rw [HNT.out]
              have hneT : (((0 : Nat) : Int) != ((0 : Nat) : Int)) = false := by simp
              have hleT := HL3.out.le
              go_wp2_with fail
              refine (list_line b _ _ HL3.out).mono ?_
              rintro e W8 ⟨⟨a8, c8, rfl, hI8⟩, hB8⟩
              have HI8 := Lib.hid hI8
              have HB8 := Lib.hid hB8
              rw [HNT.out] at HI8 hleT ⊢
              clear hI8 hB8
              go_wp2_with fail
              refine (same_any _ _ _ _ _ ([] : List Int) _ HNT.out HI8.out (nx0 HB8.out HIT.out) (by omega)).mono ?_
              rintro e W9 ⟨rfl, hd9⟩
              have HB9 := Lib.hid (HB8.out.trans (hd9.below _))
              clear hd9
              go_wp2
              go_roundw
              case rel => exact ⟨k + 1, ([] : List Int), by omega, by omega, by go_num, Apart.below HAE.out HB9.out, HG4.out, HL3.out.below HB9.out, nx HB3.out HB9.out⟩
              case measure => simp [intOf]; omega
            · have hcap1 : 1 < cap1 := by omega
              have HIT := Lib.hid HAT.out.ints.2
              have HNT := Lib.hid HAT.out.ints.1
              go_wp2_with fail
              refine (len_line b _ _ HL3.out).mono ?_
              rintro e w' ⟨rfl, rfl⟩
              rw [HNT.out]
              have hneT : (((n1 : Nat) : Int) != ((n1 : Nat) : Int)) = false := by simp
              have hleT := HL3.out.le
              go_wp2_with fail
              refine (list_line b _ _ HL3.out).mono ?_
              rintro e W8 ⟨⟨a8, c8, rfl, hI8⟩, hB8⟩
              have HI8 := Lib.hid hI8
              have HB8 := Lib.hid hB8
              rw [HNT.out] at HI8 hleT ⊢
              clear hI8 hB8
              go_wp2_with fail
              refine (same_any _ _ _ _ _ ys _ HNT.out HI8.out (nx0 HB8.out HIT.out) (by omega)).mono ?_
              rintro e W9 ⟨rfl, hd9⟩
              have HB9 := Lib.hid (HB8.out.trans (hd9.below _))
              clear hd9
              go_wp2
              go_roundw
              case rel => exact ⟨k + 1, ys, by omega, by omega, by go_num, Apart.below HAT.out HB9.out, HG4.out, HL3.out.below HB9.out, nx HB3.out HB9.out⟩
              case measure => simp [intOf]; omega
        · have hK0' : (K == 0) = false := by simpa using hK0
          have hK1' : (K == 1) = false := by simpa using hK1
          clear hK0 hK1
          have HG4 := Lib.hid (HG.out.drop P)
          obtain ⟨q, hq⟩ : ∃ q, hasI xs P = q := ⟨_, rfl⟩
          have HQ0 := Lib.hid hq
          clear hq
          cases q
          all_goals
            go_wp2_with fail
            rw [HV.out]
            refine (drop_any b xs P _ HLV.out HG.out).mono ?_
            rintro e W3 ⟨rfl, hL3, hg3⟩
            rw [HQ0.out]
            have HL3 := Lib.hid hL3
            have HA3 := Lib.hid (HAV.out.grown hg3)
            have HB3 := Lib.hid (HBV.out.trans (gto hg3 HBB.out HBV.out.size))
            have d3 := (World.cell?_of_block (a := ⟨wr.heap.size, 1, none⟩) (hg3.block wr.heap.size HD.out.2.1 (fun e => HD.out.2.2 (by cases e; rfl)))).trans HD.out.1
            clear hL3 hg3
            go_wp2_with fail
            refine (refDrop_any b _ xs P _ HA3.out HLV.out.le HL3.out.lt).mono ?_
            rintro e W4 ⟨⟨v', rfl, hA4⟩, hB4⟩
            rw [HQ0.out]
            have HA4 := Lib.hid hA4
            have HL4 := Lib.hid (HL3.out.below hB4)
            have HB4 := Lib.hid (nx HB3.out hB4)
            clear hA4 hB4
            obtain ⟨ys, hys⟩ : ∃ ys, dropL xs P = ys := ⟨_, rfl⟩
            rw [hys] at HA4 HL4 HG4
            clear hys
            obtain ⟨aT, cT, hvT, hIT, hnT⟩ := HA4.out.form
            subst hvT
            have HIT := Lib.hid hIT
            clear hIT hnT
            go_wp2_with fail
            refine (len_line b _ _ HL4.out).mono ?_
            rintro e w' ⟨rfl, rfl⟩
            have hneT : ((((ys).length : Nat) : Int) != (((ys).length : Nat) : Int)) = false := by simp
            have hleT := HL4.out.le
            go_wp2_with fail
            refine (list_line b _ _ HL4.out).mono ?_
            rintro e W8 ⟨⟨a8, c8, rfl, hI8⟩, hB8⟩
            have HI8 := Lib.hid hI8
            have HB8 := Lib.hid hB8
            clear hI8 hB8
            go_wp2_with fail
            refine (same_any _ _ _ _ _ ys _ rfl HI8.out (nx0 HB8.out HIT.out) (by omega)).mono ?_
            rintro e W9 ⟨rfl, hd9⟩
            have HB9 := Lib.hid (HB8.out.trans (hd9.below _))
            clear hd9
            go_wp2
            go_roundw
            case rel => exact ⟨k + 1, ys, by omega, by omega, by go_num, Apart.below HA4.out HB9.out, HG4.out, HL4.out.below HB9.out, nx HB4.out HB9.out⟩
            case measure => simp [intOf]; omega
    · have hcase : ¬ (k : Int) < (len0 : Int) ∨ ((k : Int) < (len0 : Int) ∧ ¬ (k : Int) < 300) := by omega
      clear hlt
      rcases hcase with h1 | ⟨h1, h2⟩
      all_goals
        go_wp2
        go_ret
        exact ⟨rfl, nx HB1.out HB.out⟩

set_option maxRecDepth 100000 in
theorem lifted (os : Os) (started : os.Started) (H : Type) (enc : TypeId × Value → H) :
    ReturnsInHanded {} Try.checked os 7 .any (Rows.fifoPlaysSpec.pre6 enc Try.prog Try.f7 Rows.fifoPlaysRow.domain false) (Rows.fifoPlaysSpec.post enc Try.prog Try.f7 false true false false) := by
  refine returnsInHanded_of_change (C := Try.checked) own started (by kernel_rfl) Try.func7
    (ChangeSpec.witness6 (enc := enc) (C := Try.checked) false ⟨#[], #[.slice none 0 0], []⟩ 8 (by kernel_rfl) (by kernel_rfl) (by kernel_rfl) (by kernel_rfl)) ?_
  intro W base args ds gs before hval0 hW hcnd _
  have hval : ∀ (j : Nat) t v, Try.f7.params[j]? = some t → args[j]? = some v → Value.okWide Try.prog W .any base t v := hval0
  have hW' := hW
  obtain ⟨p, q, hA0, hV, rfl, hfz, hnd⟩ := hW
  have hA : DataW.TrodAll enc Try.prog W 0 (fun _ => true) true Try.f7.params.toList args.toList ds p := hA0
  rw [Try.params7] at hA hval
  obtain ⟨v0, vs0, d0, ds0, p0, q0, hargs, rfl, rfl, h0, r0⟩ := trodAll_cons hA
  obtain ⟨rfl, rfl, rfl⟩ := trodAll_nil r0
  obtain rfl : args = #[v0] := by cases args; simp_all
  obtain ⟨rfl, rfl⟩ := trodVars_none hV
  obtain ⟨a0, len0, cap0, rfl⟩ := okWide_slice Try.underlying42 (hval 0 42 v0 rfl rfl)
  have k0 := h0
  have lt0 : ∀ x ∈ p0, x.block < W.heap.size := by obtain ⟨m, hm⟩ := k0; exact DataW.trod_lt m _ _ _ hm
  obtain ⟨z0, w0⟩ : ∃ z, IsDeeds W a0 len0 cap0 z := by
    obtain ⟨fuel, hf⟩ := h0
    exact open_deeds hf
  clear hA0 hval0
  refine (walk a0 len0 cap0 z0 W w0).mono fun e W' ⟨he, bel⟩ => ?_
  subst he
  exact ⟨_, rfl, _, _, _, [], _, [], hW', trodAll_mk1 (shut_bool Try.underlying4 _), (trodAll_cons_mk (Below.trod laidOut (by kernel_rfl) (of_decide_eq_true (by kernel_rfl)) k0 bel lt0) trodAll_mk0), rfl, bel.frame _, fun h => by cases h⟩

theorem over : Rows.fifoPlaysRow.holds Try.pinned (OpenSpec.ofChange Rows.fifoPlaysSpec) :=
  OpenClaim.holds_of_wide 7 Try.f7 rfl rfl rfl rfl rfl rfl rfl ⟨rfl, rfl, rfl, rfl, rfl⟩ rfl rfl rfl rfl rfl (by kernel_rfl) Try.func7 (by kernel_rfl)
    (of_decide_eq_true (by kernel_rfl)) (by unfold Func.isWrapper; first | (rw [if_pos (by decide +kernel)]; kernel_rfl) | (rw [if_neg (by decide +kernel)]; exact ⟨rfl, rfl⟩))
    (fun os started H enc _ => lifted os started H enc)

theorem proved : Rows.FifoPlaysSaid := over
#print axioms proved
end Go.Proofs.Ytdijafdplkdfiaa.fifoPlays
