/- event.figures at every string: a number that is written as it would be. Conditions: the string below 2^47 bytes. -/
import Derived.Test.YtcboopkalpmglaaDoorEvWorld
import Derived.Lib.ConvBytes
import Derived.Outline
namespace Go.Proofs.YtcboopkalpmglaaDoor
set_option linter.unusedVariables false
open Go.RowKit
/-- What the call leaves: the number, and whether it was one. -/
def EvGives (s : ByteArray) (w : World) (e : Ending) (w' : World) : Prop := (∃ v : Int, e = .returned (.tuple #[.int .i64 v, .bool (numOf (bl s)).isSome]) ∧ (∀ x, numOf (bl s) = some x → v = x) ∧ (-9223372036854775808 ≤ v ∧ v ≤ 9223372036854775807)) ∧ Below w.heap.size w w'
theorem numOf_bl (s : ByteArray) : numOf (bl s) = match Lib.parseIntB 64 s.data.toList with
  | .ok v => if str (dec v) = s then some v else none
  | _ => none := by
  unfold numOf bl
  rw [map_back]
  cases h : Lib.parseIntB 64 s.data.toList with
  | range => rfl
  | ok v =>
    simp only
    by_cases e : dec v = s.data.toList.map UInt8.toNat
    · rw [if_pos e, if_pos (by rw [e]; exact str_bl s)]
    · rw [if_neg e, if_neg (fun h2 => e (by
        have h3 : bl (str (dec v)) = bl s := by rw [h2]
        rw [bl_str (fun x hx => by
          rw [← dec_itoa] at hx
          obtain ⟨y, _, rfl⟩ := List.mem_map.1 hx
          exact y.toNat_lt)] at h3
        exact h3))]
  | _ => rfl
theorem list_beq_false {a b : ByteArray} (h : a ≠ b) : (a.toList == b.toList) = false := by
  rw [beq_eq_false_iff_ne]
  intro e
  rw [Lib.toList_data, Lib.toList_data] at e
  exact h (ByteArray.ext (Array.ext' e))
theorem list_beq_true (a : ByteArray) : (a.toList == a.toList) = true := beq_self_eq_true _
set_option maxHeartbeats 2000000 in
theorem figures_any (s : ByteArray) (w : World) (hw : EvW w) (hs : s.size ≤ 140737488351232) :
    Calls Tryd.prog 50 #[.string s] w (EvGives s w) := by
  have HN := Lib.hid (numOf_bl s)
  cases hp : Lib.parseIntB 64 s.data.toList with
  | ok v =>
    obtain ⟨l1, l2⟩ := parse_range hp
    have HL := Lib.hid (And.intro l1 l2)
    have HP := Lib.hid hp
    have hc := evFormat v l1 l2
    have HW := Lib.hid hw
    rw [hp] at HN
    simp only at HN
    clear hp
    go_enter Tryd.func50, Tryd.ntmps50
    go_wp2_with fail
    refine (Tryd.strconv_ParseInt_10_at64_ok s (by omega) v HP.out _).mono ?_
    rintro e w1 ⟨rfl, hw1⟩
    have hb : Below w.heap.size w w1 := by
      rcases hw1 with rfl | ⟨t, rfl⟩
      · exact Below.refl _ _
      · exact Lib.bytesWorld_below _ _ _
    have HB := Lib.hid hb
    clear hw1 hb
    go_wp2_with fail
    refine (hc _ (HW.out.next HB.out)).mono ?_
    rintro e w2 ⟨rfl, hb⟩
    have HB2 := Lib.hid (nx HB.out hb)
    clear hb hc
    by_cases hq : str (dec v) = s
    · rw [if_pos hq] at HN
      subst hq
      go_wp2
      go_ret2
      exact ⟨⟨v, by rw [HN.out]; rfl, fun x h => by rw [HN.out] at h; exact Option.some.inj h, HL.out⟩, HB2.out⟩
    · rw [if_neg hq] at HN
      have hbe := list_beq_false hq
      go_wp2
      go_ret2
      exact ⟨⟨v, by rw [HN.out]; rfl, fun x h => (by rw [HN.out] at h; cases h), HL.out⟩, HB2.out⟩
  | range =>
    rw [hp] at HN
    simp only at HN
    obtain ⟨tp, p, hv⟩ := hw.rng
    have HP := Lib.hid hp
    have HV := Lib.hid hv
    have hsat : -9223372036854775808 ≤ Lib.intSat 64 s.data.toList ∧ Lib.intSat 64 s.data.toList ≤ 9223372036854775807 := by
      unfold Lib.intSat
      split <;> (try split) <;> simp
    have HS := Lib.hid hsat
    clear hp hv hsat
    go_enter Tryd.func50, Tryd.ntmps50
    go_wp2_with fail
    refine (Tryd.strconv_ParseInt_10_at64_range_var s (by omega) HP.out tp p _ HV.out).mono ?_
    rintro e w1 ⟨N, rfl, hN, _, hb⟩
    have HB := Lib.hid hb
    clear hb
    generalize Lib.intSat 64 s.data.toList = z at HS ⊢
    go_wp2
    go_ret2
    exact ⟨⟨z, by rw [HN.out]; rfl, fun x h => (by rw [HN.out] at h; cases h), HS.out⟩, HB.out⟩
  | _ =>
    rw [hp] at HN
    simp only at HN
    obtain ⟨tp, p, hv⟩ := hw.syn
    have HP := Lib.hid hp
    have HV := Lib.hid hv
    clear hp hv
    go_enter Tryd.func50, Tryd.ntmps50
    go_wp2_with fail
    refine (Tryd.strconv_ParseInt_10_at64_syntax_var s (by omega) HP.out tp p _ HV.out).mono ?_
    rintro e w1 ⟨N, rfl, hN, _, hb⟩
    have HB := Lib.hid hb
    clear hb
    go_wp2
    go_ret2
    exact ⟨⟨0, by rw [HN.out]; rfl, fun x h => (by rw [HN.out] at h; cases h), by decide, by decide⟩, HB.out⟩
end Go.Proofs.YtcboopkalpmglaaDoor
