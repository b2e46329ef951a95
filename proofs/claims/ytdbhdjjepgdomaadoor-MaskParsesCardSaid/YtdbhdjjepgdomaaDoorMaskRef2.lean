/- A set's text is read by the document: Parse. Conditions: none. -/
import Derived.Test.YtdbhdjjepgdomaaDoorMaskRef
namespace Go.Proofs.YtdbhdjjepgdomaaDoor
set_option linter.unusedVariables false
open Go.RowKit
def mOf : Value → Value → Nat
  | .bool true, .string s => s.size + 1
  | _, _ => 0
/-- What the document's loop holds. -/
def RefAt (R : Nat × Nat) (S : ByteArray) (A : Nat) (O mo : Bool) : Prop := A < 18446744073709551616 ∧ S.size ≤ 9223372036854775807 ∧ (mo = true → parseFrom A O (bl S) = R) ∧ (mo = false → (if O = true then (0, 1) else (A, 0)) = R)
theorem refAt_none {R : Nat × Nat} {S : ByteArray} {A : Nat} {O : Bool} (h : RefAt R S A O true) (hp : partL (splitL 44 (bl S)).1 = none) : R = (0, 11) := by
  have h3 := h.2.2.1 rfl
  cases hs : (splitL 44 (bl S)).2 with
  | none =>
    rcases parse_last A O hs with ⟨_, g⟩ | ⟨n, m, g, _⟩
    · rw [← h3, g]
    · rw [hp] at g; cases g
  | some b =>
    rcases parse_more A O hs with ⟨_, g⟩ | ⟨n, m, g, _⟩
    · rw [← h3, g]
    · rw [hp] at g; cases g
theorem refAt_some {R : Nat × Nat} {S : ByteArray} {A : Nat} {O : Bool} (h : RefAt R S A O true) {n m : Nat} (hp : partL (splitL 44 (bl S)).1 = some (n, m)) :
    RefAt R (str ((splitL 44 (bl S)).2.getD [])) (A ||| span n m) (O || beyond n m) (splitL 44 (bl S)).2.isSome := by
  obtain ⟨h1, h2, h3, _⟩ := h
  have h3 := h3 rfl
  refine ⟨or_lt h1 (span_lt _ _), ?_, ?_, ?_⟩
  · rw [str_size]
    cases hs : (splitL 44 (bl S)).2 with
    | none => simp
    | some b => have := (split_size S 44).2 b hs; simp; omega
  · intro hm
    cases hs : (splitL 44 (bl S)).2 with
    | none => rw [hs] at hm; cases hm
    | some b =>
      rcases parse_more A O hs with ⟨g, _⟩ | ⟨n', m', g, _, _, g4⟩
      · rw [hp] at g; cases g
      · rw [hp] at g
        simp only [Option.some.injEq, Prod.mk.injEq] at g
        obtain ⟨rfl, rfl⟩ := g
        rw [Option.getD_some, bl_str ((split_bytes S 44).2 b hs), ← h3, g4]
  · intro hm
    cases hs : (splitL 44 (bl S)).2 with
    | some b => rw [hs] at hm; cases hm
    | none =>
      rcases parse_last A O hs with ⟨g, _⟩ | ⟨n', m', g, _, _, g4⟩
      · rw [hp] at g; cases g
      · rw [hp] at g
        simp only [Option.some.injEq, Prod.mk.injEq] at g
        obtain ⟨rfl, rfl⟩ := g
        rw [← h3, g4]
theorem mOf_lt {S : ByteArray} : mOf (.bool (splitL 44 (bl S)).2.isSome) (.string (str ((splitL 44 (bl S)).2.getD []))) < S.size + 1 := by
  cases hs : (splitL 44 (bl S)).2 with
  | none => simp [mOf]
  | some b =>
    have := (split_size S 44).2 b hs
    show (str b).size + 1 < _
    rw [str_size]
    omega
def Parsed (R : Nat × Nat) (w : World) (e : Ending) (w' : World) : Prop := e = .returned (.tuple #[.int .u64 (R.1 : Int), .int .i64 (R.2 : Int)]) ∧ Below w.heap.size w w'
theorem parsed_of {R : Nat × Nat} {a b : Nat} {w w' : World} {e : Ending} (h : R = (a, b)) (he : e = .returned (.tuple #[.int .u64 (a : Int), .int .i64 (b : Int)])) (hb : Below w.heap.size w w') : Parsed R w e w' := by
  subst h; exact ⟨he, hb⟩
set_option maxHeartbeats 4000000 in
theorem refParse_any (s : ByteArray) (w : World) (hs : s.size ≤ maxLen) :
    Calls Tryd.prog 12 #[.string s] w (Parsed (parseL (bl s)) w) := by
  unfold maxLen at hs
  cases he : s.toList.isEmpty
  · have hs0 : s.size ≠ 0 := by
      rw [Lib.toList_data] at he
      intro h
      have h2 := (bl_nil s).2 h
      unfold bl at h2
      rw [List.map_eq_nil_iff] at h2
      rw [h2] at he
      cases he
    have HR := Lib.hid (show RefAt (parseL (bl s)) s 0 false true from ⟨by decide, by omega, fun _ => (parseL_from (fun h => hs0 ((bl_nil s).1 h))).symm, fun h => by cases h⟩)
    generalize parseL (bl s) = R at HR ⊢
    go_enter Tryd.func12, Tryd.ntmps12
    go_wp2_with fail
    go_loopw [0, 4, 5, 6] (fun vs va vo vm wr => ∃ (S : ByteArray) (A : Nat) (O mo : Bool), vs = .string S ∧ va = .int .u64 (A : Int) ∧ vo = .bool O ∧ vm = .bool mo ∧ RefAt R S A O mo ∧ Below w.heap.size w wr) (fun vs _ _ vm _ => mOf vm vs)
    case atStart => exact ⟨s, 0, false, true, rfl, rfl, rfl, rfl, HR.out, Below.refl _ _⟩
    case round =>
      obtain ⟨S, A, O, mo, rfl, rfl, rfl, rfl, hr, hB⟩ := hrel
      have HA := Lib.hid hr
      have HB := Lib.hid hB
      have hA64 := hr.1
      have hS := hr.2.1
      clear hr hB
      cases mo
      · cases O
        · have HY := Lib.hid (HA.out.2.2.2 rfl).symm
          go_wp2
          go_ret2
          exact parsed_of HY.out rfl HB.out
        · have HY := Lib.hid (HA.out.2.2.2 rfl).symm
          go_wp2
          go_ret2
          exact parsed_of HY.out rfl HB.out
      · have HN := Lib.hid (fun hp => refAt_none HA.out hp)
        have HS := Lib.hid (fun n m hp => refAt_some HA.out (n := n) (m := m) hp)
        have HM := Lib.hid (mOf_lt (S := S))
        have hz := (split_size S 44).1
        have hby := (split_bytes S 44).1
        go_wp2_with fail
        refine (refSplit_any S 44 _ hS (by decide)).mono ?_
        rintro e w1 ⟨rfl, hb⟩
        have HB1 := Lib.hid (HB.out.trans (hb.mono HB.out.size))
        clear hb
        generalize (splitL 44 (bl S)).1 = a at HN HS hz hby ⊢
        generalize (splitL 44 (bl S)).2 = o at HS HM ⊢
        have hba := bl_str hby
        have hsa : (str a).size ≤ 9223372036854775807 := by rw [str_size]; omega
        have HBA := Lib.hid hba
        clear hba hby
        go_wp2_with fail
        refine (refPart_any (str a) _ hsa).mono ?_
        rintro e w2 ⟨rfl, hb⟩
        have HB2 := Lib.hid (HB1.out.trans (hb.mono HB1.out.size))
        clear hb
        rw [HBA.out]
        cases hp : partL a with
        | none =>
          have HY := Lib.hid (HN.out hp)
          clear hp
          go_wp2
          go_ret2
          exact parsed_of HY.out rfl HB2.out
        | some nm =>
          obtain ⟨n, m⟩ := nm
          have HY := Lib.hid (HS.out n m hp)
          have hsp := span_lt n m
          clear hp
          go_wp2_with fail
          refine (join_any A (span n m) hA64 hsp _).mono ?_
          rintro e w' ⟨rfl, rfl⟩
          cases O
          · go_wp2
            go_roundw
            case rel => exact ⟨_, _, _, _, rfl, rfl, rfl, rfl, HY.out, HB2.out⟩
            case measure => exact HM.out
          · go_wp2
            go_roundw
            case rel => exact ⟨_, _, _, _, rfl, rfl, rfl, rfl, HY.out, HB2.out⟩
            case measure => exact HM.out
  · have hs0 : s.size = 0 := by
      rw [Lib.toList_data, List.isEmpty_iff] at he
      exact (bl_nil s).1 (by unfold bl; rw [he]; rfl)
    have HY := Lib.hid (show parseL (bl s) = (0, 0) by unfold parseL; rw [if_pos ((bl_nil s).2 hs0)])
    go_enter Tryd.func12, Tryd.ntmps12
    go_wp2
    go_ret2
    exact parsed_of HY.out rfl (Below.refl _ _)
end Go.Proofs.YtdbhdjjepgdomaaDoor
