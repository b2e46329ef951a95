/- The document's cut at every string. Conditions: the string below 99,999 bytes. -/
import Derived.Test.YtcboopkalpmglaaDoorEvCutL
import Derived.Test.YtcboopkalpmglaaDoorEvWorld
import Derived.Laws.RangeAny
import Derived.WalkSmall
import Derived.Outline
namespace Go.Proofs.YtcboopkalpmglaaDoor
set_option linter.unusedVariables false
open Go.RowKit
/-- A row of strings of the call's own. -/
def RowStr (zs : List (List Nat)) (w : World) (e : Ending) (w' : World) : Prop := ∃ (L : List ByteArray) (v : Value), L.map bl = zs ∧ e = .returned v ∧ Own encS w' w.heap.size 9 v L.length L ∧ Below w.heap.size w w'
/-- The loop's state. -/
structure CutAt (c : Nat) (s : ByteArray) (w : World) (L : List ByteArray) (v : Value) (f i : Nat) (wr : World) : Prop where
  fi : f ≤ i
  le : i ≤ s.size
  len : L.length ≤ f
  own : Own encS wr w.heap.size 9 v L.length L
  cut : cutL c ((bl s).take i) = L.map bl ++ [((bl s).drop f).take (i - f)]
  bel : Below w.heap.size w wr
theorem cutAt_start (c : Nat) (s : ByteArray) (w : World) : CutAt c s w [] (.slice none 0 0) 0 0 w :=
  ⟨Nat.le_refl _, Nat.zero_le _, Nat.le_refl _, Own.nil _ _ _, rfl, Below.refl _ _⟩
theorem CutAt.take {c : Nat} {s : ByteArray} {w wr : World} {L : List ByteArray} {v : Value} {f i : Nat} (h : CutAt c s w L v f i wr) (hi : i < s.size) (hx : (s[i]'hi).toNat ≠ c) : CutAt c s w L v f (i + 1) wr :=
  ⟨Nat.le_succ_of_le h.fi, hi, h.len, h.own, by
    rw [bl_snoc s i hi, cutL_snoc h.cut hx]
    have hf := h.fi
    rw [show i + 1 - f = (i - f) + 1 by omega, List.take_add_one, List.getElem?_drop, show f + (i - f) = i by omega, bl_at hi]
    rfl, h.bel⟩
theorem CutAt.sep {c : Nat} {s : ByteArray} {w wr wn : World} {L : List ByteArray} {v vn : Value} {f i : Nat} (h : CutAt c s w L v f i wr) (hi : i < s.size) (hx : (s[i]'hi).toNat = c)
    (ho : Own encS wn w.heap.size 9 vn (L ++ [s.extract f i]).length (L ++ [s.extract f i])) (hb : Below w.heap.size w wn) : CutAt c s w (L ++ [s.extract f i]) vn (i + 1) (i + 1) wn :=
  ⟨Nat.le_refl _, hi, by have := h.len; have := h.fi; simp; omega, ho, by
    rw [bl_snoc s i hi, hx, cutL_sep h.cut, Nat.sub_self, List.map_append, List.map_singleton, bl_extract]
    rfl, hb⟩
theorem CutAt.fin {c : Nat} {s : ByteArray} {w wr wn : World} {L : List ByteArray} {v vn : Value} {f : Nat} (h : CutAt c s w L v f s.size wr)
    (ho : Own encS wn w.heap.size 9 vn (L ++ [s.extract f s.size]).length (L ++ [s.extract f s.size])) (hb : Below w.heap.size w wn) : RowStr (cutL c (bl s)) w (.returned vn) wn :=
  ⟨L ++ [s.extract f s.size], vn, by
    have hc := h.cut
    rw [List.take_of_length_le (by rw [bl_length]; exact Nat.le_refl _)] at hc
    rw [hc, List.map_append, List.map_singleton, bl_extract], rfl, ho, hb⟩
set_option maxRecDepth 20000 in
set_option maxHeartbeats 4000000 in
theorem cut_any (s : ByteArray) (c : Nat) (w : World) (hs : s.size ≤ 99998) (hc : c < 256) :
    Calls Tryd.prog 22 #[.string s, .int .u8 (c : Int)] w (RowStr (cutL c (bl s)) w) := by
  go_enter Tryd.func22, Tryd.ntmps22
  go_wp2_with fail
  go_loopw [5, 6, 7] (fun vo vf vi wr => ∃ (L : List ByteArray) (f i : Nat), vf = .int .i64 (f : Int) ∧ vi = .int .i64 (i : Int) ∧ CutAt c s w L vo f i wr) (fun _ _ vi _ => s.size - (intOf vi).toNat)
  case atStart => exact ⟨[], 0, 0, rfl, rfl, cutAt_start c s w⟩
  case round =>
    obtain ⟨L, f, i, rfl, rfl, h⟩ := hrel
    have H := Lib.hid h
    have hfi := h.fi
    have hi := h.le
    have hln := h.len
    have hsz := h.bel.size
    clear h
    by_cases hlt : i < s.size
    · have hlt' : (i : Int) < (s.size : Int) := by omega
      by_cases he : (s[i]'hlt).toNat = c
      · have HE := Lib.hid he
        have e1 : (((s[i]'hlt).toNat : Int) == (c : Int)) = true := by simp; omega
        have HOA := Lib.hid (H.out.own.alloc (.cells #[.string (s.extract f i)] 9))
        clear he
        go_wp2_with ((at_builtin; refine append_str rfl _ _ rfl w.heap.size _ L.length L rfl HOA.out wr.heap.size _ (s.extract f i) rfl (cnewb.trans rfl) (by omega) (by simp; omega) ?_; intro vl' u2 ho2 hg2 hloc2))
        have HO2 := Lib.hid ho2
        have HB2 := Lib.hid ((H.out.bel.alloc hsz (.cells #[.string (s.extract f i)] 9)).grown hg2 (by simp; omega) (fun j e => (H.out.own.lt j e).1))
        clear ho2 hg2 hloc2
        go_roundw
        case rel => exact ⟨_, i + 1, i + 1, by go_num, by go_num, H.out.sep hlt HE.out (by rw [List.length_append]; exact HO2.out) HB2.out⟩
        case measure => simp [intOf]; omega
      · have HE := Lib.hid he
        have e1 : (((s[i]'hlt).toNat : Int) == (c : Int)) = false := by simp; omega
        clear he
        go_wp2
        go_roundw
        case rel => exact ⟨L, f, i + 1, rfl, by go_num, H.out.take hlt HE.out⟩
        case measure => simp [intOf]; omega
    · have hlt' : ¬ (i : Int) < (s.size : Int) := by omega
      obtain rfl : i = s.size := by omega
      have HOA := Lib.hid (H.out.own.alloc (.cells #[.string (s.extract f s.size)] 9))
      go_wp2_with ((at_builtin; refine append_str rfl _ _ rfl w.heap.size _ L.length L rfl HOA.out wr.heap.size _ (s.extract f s.size) rfl (cnewb.trans rfl) (by omega) (by simp; omega) ?_; intro vl' u2 ho2 hg2 hloc2))
      have HO2 := Lib.hid ho2
      have HB2 := Lib.hid ((H.out.bel.alloc hsz (.cells #[.string (s.extract f s.size)] 9)).grown hg2 (by simp; omega) (fun j e => (H.out.own.lt j e).1))
      clear ho2 hg2 hloc2
      go_wp2
      go_ret
      exact H.out.fin (by rw [List.length_append]; exact HO2.out) HB2.out
end Go.Proofs.YtcboopkalpmglaaDoor
