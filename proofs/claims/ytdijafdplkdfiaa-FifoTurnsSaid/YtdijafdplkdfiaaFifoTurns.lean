/- FifoTurns: at every input the law returns true and leaves its arguments as they were: those that are put are taken in turn, each once. Conditions: none beyond the row's own. -/
import Derived.Test.YtdijafdplkdfiaaRows
import Derived.Test.YtdijafdplkdfiaaTurns
import Derived.WalkKit
import Derived.Deep.QuietTactic
import Derived.BigQuiet
import Derived.ProofKit
import Derived.OpenShut
import Derived.ShutString
import Derived.ChangeOld
import Derived.Below
namespace Go.Proofs.Ytdijafdplkdfiaa.fifoTurns
open Go.ChangeShapes Go.WideShapes Go.ChangeAt Go.RowKit
open Go.ChangeMaps (open_string shut_string)
set_option linter.unusedVariables false

theorem own : ownKnob Try.prog.godebug = none := by kernel_rfl
theorem laidOut : laidOutB Try.prog = true := by kernel_rfl

set_option maxRecDepth 100000 in
set_option maxHeartbeats 4000000 in
theorem walk (a0 : Option Addr) (len0 cap0 : Nat) (z0 : List Int) (w : World) (w0 : IsRow .u8 w a0 len0 cap0 z0) :
    Calls Try.prog 4 #[.slice a0 len0 cap0] w fun e w' => e = .returned (.bool true) ∧ Below w.heap.size w w' := by
  obtain ⟨zs, hn1, hI, hn2, hz⟩ := preK w0
  have HI := Lib.hid hI
  have HZ := Lib.hid (show ∀ j, j < zs.length → 0 ≤ zat zs j ∧ zat zs j ≤ 255 from fun j hj => bounds_u8 (hz j hj))
  subst hn1
  clear hI w0 hz
  go_enter Try.func4, Try.ntmps4
  go_wp2_with fail
  refine (shown_any _).mono ?_
  rintro e W1 ⟨rfl, hb1⟩
  have HI1 := Lib.hid (IntsK.next hb1 HI.out)
  have HB1 := Lib.hid hb1
  clear hb1
  go_wp2_with fail
  refine (new_line _).mono ?_
  rintro e W2 ⟨b, rfl, hb, hL2, hB2⟩
  have HBB := Lib.hid hb
  have HL2 := Lib.hid hL2
  have HB2 := Lib.hid hB2
  have HLT := Lib.hid hL2.lt
  clear hb hL2 hB2
  go_wp2_with fail
  go_loopw [5, 6] (fun v i wr => ∃ (k n : Nat) (xs : List Int), k ≤ zs.length ∧ k ≤ 64 ∧ n ≤ k ∧ xs.length = n ∧ i = .int .i64 k ∧ OwnI wr W2.heap.size v n xs ∧ LineAt wr b xs ∧ Below W1.heap.size W1 wr ∧ W2.heap.size ≤ wr.heap.size) (fun _ i _ => 64 - (intOf i).toNat)
  case atStart => exact ⟨0, 0, [], Nat.zero_le _, Nat.zero_le _, Nat.le_refl _, rfl, rfl, World.ownsRow_nil _ _ _ _, HL2.out, HB2.out, Nat.le_refl _⟩
  case round =>
    obtain ⟨k, n, xs, hk, hk64, hn, hxl, rfl, hown, hL, hB, hsz⟩ := hrel
    have HO := Lib.hid hown
    have HL := Lib.hid hL
    have HB := Lib.hid hB
    have HXL := Lib.hid hxl
    clear hown hL hB hxl
    by_cases hlt : k < zs.length ∧ k < 64
    · obtain ⟨hlt1, hlt2⟩ := hlt
      have hlt1' : (k : Int) < (zs.length : Int) := by omega
      have hlt2' : (k : Int) < 64 := by omega
      obtain ⟨b0, off, ha, hb0, hc⟩ := HI1.out.cells hlt1
      subst ha
      have hck : wr.cell? ⟨b0, off + k, none⟩ = some (.int .u8 (zat zs k)) := (HB.out.cell (p := ⟨b0, off + k, none⟩) hb0).trans (hc k hlt1)
      have HCK := Lib.hid (show ∀ u, Below W1.heap.size W1 u → u.cell? ⟨b0, off + k, none⟩ = some (.int .u8 (zat zs k)) from fun u hu => (hu.cell (p := ⟨b0, off + k, none⟩) hb0).trans (hc k hlt1))
      obtain ⟨hz1, hz2⟩ := HZ.out k hlt1
      clear hc
      go_wp2_with fail
      refine (put_any b xs (zat zs k) _ HL.out).mono ?_
      rintro e W3 ⟨rfl, hL3, hg3⟩
      have hpo := putOk_lt (xs := xs) (p := zat zs k) hz1 (by rw [HXL.out]; omega)
      rw [hpo] at hL3 ⊢
      have HO3 := Lib.hid (HO.out.grownL hg3 HLT.out)
      have HB3 := Lib.hid (HB.out.trans (gto hg3 HBB.out HB.out.size))
      have hsz3 : W2.heap.size ≤ W3.heap.size := Nat.le_trans hsz hg3.size
      have hck3 := HCK.out W3 HB3.out
      obtain ⟨a', c', rfl, hnil, hI3⟩ := HO3.out.ints HXL.out
      have HI3 := Lib.hid hI3
      clear hI3 hpo hg3 hck
      go_wp2_with fail
      refine (refHas_any _ _ _ xs _ _ HXL.out HI3.out (by omega)).mono ?_
      rintro e w' ⟨rfl, rfl⟩
      cases hh : hasI xs (zat zs k)
      · have HL4 := Lib.hid (show LineAt W3 b (xs ++ [zat zs k]) by rw [hh] at hL3; exact hL3)
        clear hL3 hh
        have hh8 : (n + 1) * 8 ≤ 140737488355328 := by omega
        go_wp2_with (at_builtin; refine append_ints Try.underlying31 Try.info3 rfl _ _ rfl W2.heap.size _ n xs rfl (World.ownsRow.alloc HO3.out _) (W3.heap.size + 1) _ 1 _ [_] rfl (by intro h; cases h) rfl (Ints.new1 W3 3 _) hh8 (by simp; omega) ?_; intro v' u hown' hgrow)
        have hB' : Below W1.heap.size W1 u := (HB3.out.alloc HB3.out.size _).grown hgrow (by simp; have := HB3.out.size; omega) (fun j e => by have := (World.ownsRow.lt HO3.out j e).1; have := HBB.out; have := HLT.out; omega)
        have HL5 := Lib.hid ((HL4.out.alloc (.cells #[.int .i64 (zat zs k)] 3)).app (World.ownsRow.alloc HO3.out _) HLT.out hgrow)
        have hu : W2.heap.size ≤ u.heap.size := by
          have := hgrow.size
          simp at this
          omega
        have HO' := Lib.hid (show OwnI u W2.heap.size v' (n + 1) (xs ++ [zat zs k]) from hown')
        clear hown' hgrow
        go_roundw
        case rel => exact ⟨k + 1, n + 1, xs ++ [zat zs k], by omega, by omega, by omega, by simp [HXL.out], by go_num, HO'.out, HL5.out, hB', hu⟩
        case measure => simp [intOf]; omega
      · have HL4 := Lib.hid (show LineAt W3 b xs by rw [hh] at hL3; exact hL3)
        clear hL3 hh
        go_wp2
        go_roundw
        case rel => exact ⟨k + 1, n, xs, by omega, by omega, by omega, HXL.out, by go_num, HO3.out, HL4.out, HB3.out, hsz3⟩
        case measure => simp [intOf]; omega
    · obtain ⟨a', c', rfl, hnil, hI3⟩ := HO.out.ints HXL.out
      have HI3 := Lib.hid hI3
      clear hI3 hnil
      have hex : ∀ m : Nat, (¬ (k : Int) < (zs.length : Int)) ∨ ((k : Int) < (zs.length : Int) ∧ ¬ (k : Int) < 64) := by intro m; omega
      rcases hex 0 with h1 | ⟨h1, h2⟩
      all_goals
        go_wp2_with fail
        go_loopw [8] (fun i wr' => ∃ j : Nat, j ≤ n ∧ i = .int .i64 j ∧ LineAt wr' b (xs.drop j) ∧ OwnI wr' W2.heap.size (.slice a' n c') n xs ∧ Below W1.heap.size W1 wr') (fun i _ => n - (intOf i).toNat)
        case atStart => exact ⟨0, Nat.zero_le _, rfl, HL.out, HO.out, HB.out⟩
        case round =>
          obtain ⟨j, hj, rfl, hL, hO, hB⟩ := hrel
          have HLj := Lib.hid hL
          have HOj := Lib.hid hO
          have HBj := Lib.hid hB
          clear hL hO hB
          by_cases hjn : j < n
          · have hjn' : (j : Int) < (n : Int) := by omega
            obtain ⟨d1, d2, d3⟩ := hd_drop (xs := xs) (k := j) (by rw [HXL.out]; exact hjn)
            go_wp2_with fail
            refine (take_any b _ _ HLj.out).mono ?_
            rintro e W5 ⟨rfl, hL5, hg5⟩
            have HL5 := Lib.hid (show LineAt W5 b (xs.drop (j + 1)) by rw [d3] at hL5; exact hL5)
            have HO5 := Lib.hid (HOj.out.grownL hg5 HLT.out)
            have HB5 := Lib.hid (HBj.out.trans (gto hg5 HBB.out HBj.out.size))
            obtain ⟨a2, c2, e2, _, hI5⟩ := HO5.out.ints HXL.out
            rw [← e2] at hI5
            obtain ⟨b5, o5, ha5, hb5, hc5⟩ := hI5.cells (p := j) (by rw [HXL.out]; exact hjn)
            subst ha5
            have hck5 := hc5 j (by rw [HXL.out]; exact hjn)
            rw [d1, d2]
            have hne : (zat xs j != zat xs j) = false := by simp
            clear d1 d2 d3 hL5 hg5 hI5 hc5 e2
            go_wp2
            go_roundw
            case rel => exact ⟨j + 1, by omega, by go_num, HL5.out, HO5.out, HB5.out⟩
            case measure => simp [intOf]; omega
          · obtain rfl : j = n := by omega
            have HL6 := Lib.hid (drop_all HXL.out HLj.out)
            go_wp2_with fail
            refine (take_any b [] _ HL6.out).mono ?_
            rintro e W5 ⟨rfl, hL5, hg5⟩
            have HL5 := Lib.hid (show LineAt W5 b [] from hL5)
            have HB5 := Lib.hid (HBj.out.trans (gto hg5 HBB.out HBj.out.size))
            clear hL5 hg5
            rw [show hdI [] = 0 from rfl, show (!([] : List Int).isEmpty) = false from rfl]
            go_wp2_with fail
            refine (len_line b [] _ HL5.out).mono ?_
            rintro e w' ⟨rfl, rfl⟩
            go_wp2
            go_ret
            exact ⟨by simp, nx HB1.out HB5.out⟩

set_option maxRecDepth 100000 in
theorem lifted (os : Os) (started : os.Started) (H : Type) (enc : TypeId × Value → H) :
    ReturnsInHanded {} Try.checked os 4 .any (Rows.fifoTurnsSpec.pre6 enc Try.prog Try.f4 Rows.fifoTurnsRow.domain false) (Rows.fifoTurnsSpec.post enc Try.prog Try.f4 false true false false) := by
  refine returnsInHanded_of_change (C := Try.checked) own started (by kernel_rfl) Try.func4
    (ChangeSpec.witness6 (enc := enc) (C := Try.checked) false ⟨#[], #[.slice none 0 0], []⟩ 8 (by kernel_rfl) (by kernel_rfl) (by kernel_rfl) (by kernel_rfl)) ?_
  intro W base args ds gs before hval0 hW hcnd _
  have hval : ∀ (j : Nat) t v, Try.f4.params[j]? = some t → args[j]? = some v → Value.okWide Try.prog W .any base t v := hval0
  have hW' := hW
  obtain ⟨p, q, hA0, hV, rfl, hfz, hnd⟩ := hW
  have hA : DataW.TrodAll enc Try.prog W 0 (fun _ => true) true Try.f4.params.toList args.toList ds p := hA0
  rw [Try.params4] at hA hval
  obtain ⟨v0, vs0, d0, ds0, p0, q0, hargs, rfl, rfl, h0, r0⟩ := trodAll_cons hA
  obtain ⟨rfl, rfl, rfl⟩ := trodAll_nil r0
  obtain rfl : args = #[v0] := by cases args; simp_all
  obtain ⟨rfl, rfl⟩ := trodVars_none hV
  obtain ⟨a0, len0, cap0, rfl⟩ := okWide_slice Try.underlying28 (hval 0 28 v0 rfl rfl)
  have k0 := h0
  have lt0 : ∀ x ∈ p0, x.block < W.heap.size := by obtain ⟨m, hm⟩ := k0; exact DataW.trod_lt m _ _ _ hm
  obtain ⟨z0, w0⟩ : ∃ zs, IsRow .u8 W a0 len0 cap0 zs := by
    obtain ⟨fuel, hf⟩ := h0
    rcases open_ints Try.underlying28 Try.underlying5 (by kernel_rfl) hf with ⟨hcs, _⟩ | ⟨x, l, c, zs, hcs, _, hl, hm, hz, _, hcell, hwz⟩
    · simp [Value.cells] at hcs
      obtain ⟨rfl, rfl, rfl⟩ := hcs
      exact ⟨[], .inl ⟨rfl, rfl, rfl, rfl⟩⟩
    · simp [Value.cells] at hcs
      obtain ⟨rfl, rfl, rfl⟩ := hcs
      exact ⟨zs, .inr ⟨_, rfl, hl, hm, by simpa using hz, hcell, hwz⟩⟩
  clear hA0 hval0
  refine (walk a0 len0 cap0 z0 W w0).mono fun e W' ⟨he, bel⟩ => ?_
  subst he
  exact ⟨_, rfl, _, _, _, [], _, [], hW', trodAll_mk1 (shut_bool Try.underlying4 _), (trodAll_cons_mk (Below.trod laidOut (by kernel_rfl) (of_decide_eq_true (by kernel_rfl)) k0 bel lt0) trodAll_mk0), rfl, bel.frame _, fun h => by cases h⟩

theorem over : Rows.fifoTurnsRow.holds Try.pinned (OpenSpec.ofChange Rows.fifoTurnsSpec) :=
  OpenClaim.holds_of_wide 4 Try.f4 rfl rfl rfl rfl rfl rfl rfl ⟨rfl, rfl, rfl, rfl, rfl⟩ rfl rfl rfl rfl rfl (by kernel_rfl) Try.func4 (by kernel_rfl)
    (of_decide_eq_true (by kernel_rfl)) (by unfold Func.isWrapper; first | (rw [if_pos (by decide +kernel)]; kernel_rfl) | (rw [if_neg (by decide +kernel)]; exact ⟨rfl, rfl⟩))
    (fun os started H enc _ => lifted os started H enc)

theorem proved : Rows.FifoTurnsSaid := over
#print axioms proved
end Go.Proofs.Ytdijafdplkdfiaa.fifoTurns
