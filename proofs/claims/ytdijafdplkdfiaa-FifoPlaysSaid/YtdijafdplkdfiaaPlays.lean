/- A line in the document's words: a list that is put to, dropped from and held against another. Conditions: the list lies in another block than the line. -/
import Derived.Test.YtdijafdplkdfiaaFull
namespace Go.Proofs.Ytdijafdplkdfiaa
set_option linter.unusedVariables false
open Go.RowKit

/-- The slice value reads as xs, in another block than b. -/
def Apart (b : Nat) (W : World) (sv : Value) (xs : List Int) : Prop :=
  (sv = .slice none 0 0 ∧ xs = []) ∨ ∃ g off cap, sv = .slice (some ⟨g, off, none⟩) xs.length cap ∧ xs.length ≤ cap ∧ cap ≤ maxLen ∧ g ≠ b ∧ g < W.heap.size ∧ ∀ j, j < xs.length → W.cell? ⟨g, off + j, none⟩ = some (.int .i64 (zat xs j))
theorem Apart.nil (b : Nat) (W : World) : Apart b W (.slice none 0 0) [] := .inl ⟨rfl, rfl⟩
theorem Apart.form {b : Nat} {W : World} {sv : Value} {xs : List Int} (h : Apart b W sv xs) : ∃ a cap, sv = .slice a xs.length cap ∧ Ints W.heap.size W (.slice a xs.length cap) xs ∧ (a = none → cap = 0) := by
  rcases h with ⟨rfl, rfl⟩ | ⟨g, off, cap, rfl, _, _, h1, h2, h3⟩
  · exact ⟨none, 0, rfl, .inl ⟨⟨_, _, rfl⟩, rfl⟩, fun _ => rfl⟩
  · exact ⟨_, cap, rfl, .inr ⟨g, off, cap, rfl, h2, h3⟩, fun e => by cases e⟩
theorem Apart.grown {b : Nat} {W U : World} {sv : Value} {xs : List Int} (h : Apart b W sv xs) (hg : W.grownBy U (some b)) : Apart b U sv xs := by
  rcases h with h | ⟨g, off, cap, rfl, h0, h00, h1, h2, h3⟩
  · exact .inl h
  · exact .inr ⟨g, off, cap, rfl, h0, h00, h1, Nat.lt_of_lt_of_le h2 hg.size, fun j hj => (World.cell?_of_block (a := ⟨g, off + j, none⟩) (hg.block g h2 (fun e => h1 (by cases e; rfl)))).trans (h3 j hj)⟩
theorem Apart.below {b : Nat} {W U : World} {sv : Value} {xs : List Int} (h : Apart b W sv xs) (hb : Below W.heap.size W U) : Apart b U sv xs := h.grown (gbelow hb _)
theorem Apart.own {b n : Nat} {W : World} {B : Nat} {v : Value} {xs : List Int} (h : OwnI W B v n xs) (hn : xs.length = n) (hb : b < B) : Apart b W v xs := by
  subst hn
  have hI := h.ints rfl
  rcases h.2 with ⟨rfl, h0⟩ | ⟨g, cap, cur, rfl, hg, hc, h1, h2, h3, h4⟩
  · exact .inl ⟨by rfl, List.length_eq_zero_iff.1 h0⟩
  · refine .inr ⟨g, 0, cap, rfl, h1, h2, by omega, (Array.getElem?_eq_some_iff.1 hc).1, fun j hj => ?_⟩
    obtain ⟨a, c, e, _, hI⟩ := hI
    simp only [Value.slice.injEq] at e
    obtain ⟨b', off, e2, _, hcs⟩ := hI.cells hj
    rw [← e.1] at e2
    simp only [Option.some.injEq, Addr.mk.injEq] at e2
    have := hcs j hj
    rw [← e2.1, ← e2.2.1] at this
    exact this
/-- The list behind its first one. -/
theorem Apart.tail {b : Nat} {W : World} {g off cap : Nat} {x : Int} {xs : List Int} (h : Apart b W (.slice (some ⟨g, off, none⟩) (xs.length + 1) cap) (x :: xs)) :
    Apart b W (.slice (some ⟨g, off + 1, none⟩) xs.length (cap - 1)) xs ∧ W.cell? ⟨g, off, none⟩ = some (.int .i64 x) ∧ xs.length + 1 ≤ cap ∧ cap ≤ maxLen := by
  rcases h with ⟨e, _⟩ | ⟨g', off', cap', e, h0, h00, h1, h2, h3⟩
  · cases e
  · simp only [Value.slice.injEq, Option.some.injEq, Addr.mk.injEq] at e
    obtain ⟨⟨rfl, rfl, _⟩, _, rfl⟩ := e
    simp only [List.length_cons] at h0 h3
    refine ⟨.inr ⟨g, off + 1, cap - 1, rfl, by omega, by omega, h1, h2, fun j hj => ?_⟩, ?_, h0, h00⟩
    · have := h3 (j + 1) (by omega)
      rw [show off + 1 + j = off + (j + 1) by omega, this]
      simp [zat]
    · have := h3 0 (by omega)
      rw [show off + 0 = off by omega] at this
      rw [this]; simp [zat]

theorem Apart.ints {b : Nat} {W : World} {a : Option Addr} {n cap : Nat} {xs : List Int} (h : Apart b W (.slice a n cap) xs) : xs.length = n ∧ Ints W.heap.size W (.slice a n cap) xs := by
  obtain ⟨a', c', e, h1, _⟩ := h.form
  simp only [Value.slice.injEq] at e
  obtain ⟨rfl, rfl, rfl⟩ := e
  exact ⟨rfl, h1⟩
theorem Apart.cons {b : Nat} {W : World} {sv : Value} {x : Int} {xs : List Int} (h : Apart b W sv (x :: xs)) : ∃ g off cap, sv = .slice (some ⟨g, off, none⟩) (xs.length + 1) cap := by
  rcases h with ⟨_, e⟩ | ⟨g, off, cap, rfl, _⟩
  · cases e
  · exact ⟨g, off, cap, rfl⟩
theorem Apart.empty {b : Nat} {W : World} {g off cap n : Nat} {xs : List Int} (h : Apart b W (.slice (some ⟨g, off, none⟩) n cap) xs) (hc : cap = 1) : Apart b W (.slice (some ⟨g, off, none⟩) 0 0) [] := by
  rcases h with ⟨e, _⟩ | ⟨g', off', cap', e, h0, h00, h1, h2, h3⟩
  · cases e
  · simp only [Value.slice.injEq, Option.some.injEq, Addr.mk.injEq] at e
    obtain ⟨⟨rfl, rfl, _⟩, _, rfl⟩ := e
    exact .inr ⟨g, off, 0, rfl, by simp, by simp, h1, h2, fun j hj => by simp at hj⟩

set_option maxRecDepth 100000 in
set_option maxHeartbeats 4000000 in
/-- Two lists that are the same. -/
theorem same_any (a b : Option Addr) (len cap cap' : Nat) (xs : List Int) (w : World) (hl : xs.length = len) (hI : Ints w.heap.size w (.slice a len cap) xs) (hJ : Ints w.heap.size w (.slice b len cap') xs) (hm : len ≤ 9223372036854775807) :
    Calls Try.prog 21 #[.slice a len cap, .slice b len cap'] w fun e w' => e = .returned (.bool true) ∧ Drew w w' := by
  have HI := Lib.hid hI
  have HJ := Lib.hid hJ
  have HL := Lib.hid hl
  have hnb : ((len : Int) != (len : Int)) = false := by simp
  clear hI hJ hl
  go_enter Try.func21, Try.ntmps21
  go_wp2_with fail
  go_loopw [5] (fun i wr => ∃ k : Nat, k ≤ len ∧ i = .int .i64 k ∧ Drew w wr) (fun i _ => len - (intOf i).toNat)
  case atStart => exact ⟨0, by omega, rfl, Drew.refl _⟩
  case round =>
    obtain ⟨k, hk, rfl, hd⟩ := hrel
    by_cases hlt : k < len
    · have hlt' : (k : Int) < (len : Int) := by omega
      obtain ⟨b1, o1, ha, hb, hc⟩ := HI.out.cells (p := k) (by rw [HL.out]; exact hlt)
      obtain ⟨b2, o2, ha2, hb2, hc2⟩ := HJ.out.cells (p := k) (by rw [HL.out]; exact hlt)
      subst ha ha2
      have h1 : wr.cell? ⟨b1, o1 + k, none⟩ = some (.int .i64 (zat xs k)) := (hd.cell _).trans (hc k (by rw [HL.out]; exact hlt))
      have h2 : wr.cell? ⟨b2, o2 + k, none⟩ = some (.int .i64 (zat xs k)) := (hd.cell _).trans (hc2 k (by rw [HL.out]; exact hlt))
      have hz : (zat xs k != zat xs k) = false := by simp
      clear hc hc2
      go_wp2
      go_quiet (fail)
      go_wp2
      go_roundw
      case rel => exact ⟨k + 1, by omega, by go_num, hd.drewN _⟩
      case measure => simp [intOf]; omega
    · obtain rfl : k = len := by omega
      go_wp2
      go_ret
      exact ⟨rfl, hd⟩

theorem refPut_ok {xs : List Int} {p : Int} (hl : xs.length ≤ 64) : (p < 0 ∧ putOk xs p = false) ∨ (0 ≤ p ∧ 64 ≤ xs.length ∧ putOk xs p = false) ∨ (0 ≤ p ∧ xs.length < 64 ∧ putOk xs p = !hasI xs p) := by
  by_cases h : p < 0
  · refine .inl ⟨h, ?_⟩; unfold putOk; rw [decide_eq_false (by omega)]; rfl
  · by_cases h2 : xs.length < 64
    · exact .inr (.inr ⟨by omega, h2, putOk_lt (by omega) h2⟩)
    · refine .inr (.inl ⟨by omega, by omega, ?_⟩)
      unfold putOk
      have : (xs.length != 64) = false := by simp; omega
      rw [this]; simp

set_option maxRecDepth 100000 in
set_option maxHeartbeats 4000000 in
theorem refPut_any (b : Nat) (v : Value) (xs : List Int) (p : Int) (w : World) (hA : Apart b w v xs) (hl : xs.length ≤ 64) (hb : b < w.heap.size) :
    Calls Try.prog 18 #[v, .int .i64 p] w fun e w' => (∃ v', e = .returned (.tuple #[v', .bool (putOk xs p)]) ∧ Apart b w' v' (if putOk xs p = true then xs ++ [p] else xs)) ∧ Below w.heap.size w w' := by
  obtain ⟨a, cap, rfl, hI, hnil⟩ := hA.form
  have HI := Lib.hid hI
  have HA := Lib.hid hA
  have HN := Lib.hid hnil
  obtain ⟨n, hn⟩ : ∃ n, xs.length = n := ⟨_, rfl⟩
  have HL := Lib.hid hn
  rw [hn] at HI HA ⊢
  rcases refPut_ok (p := p) hl with ⟨h1, h2⟩ | ⟨h1, h3, h2⟩ | ⟨h1, h3, h2⟩
  · have HK := Lib.hid h2
    rw [h2]
    clear hI hA hn h2 hnil
    go_enter Try.func18, Try.ntmps18
    go_wp2
    go_ret2
    exact ⟨⟨_, rfl, HA.out⟩, Below.refl _ _⟩
  · have HK := Lib.hid h2
    rw [h2]
    have hp' : ¬ p < 0 := by omega
    have h64 : (64 : Int) ≤ (n : Int) := by omega
    clear hI hA hn h2 h3 hnil
    go_enter Try.func18, Try.ntmps18
    go_wp2
    go_ret2
    exact ⟨⟨_, rfl, HA.out⟩, Below.refl _ _⟩
  · have hp' : ¬ p < 0 := by omega
    have h64 : ¬ (64 : Int) ≤ (n : Int) := by omega
    have h64' : n < 64 := by omega
    cases hh : hasI xs p
    · have hk : putOk xs p = true := by rw [h2, hh]; rfl
      have HH := Lib.hid hh
      rw [hk, if_pos rfl]
      clear hI hA hn h2 h3 hk hh hnil
      have hh8 : (0 + n) * 8 ≤ 140737488355328 := by omega
      go_enter Try.func18, Try.ntmps18
      go_wp2_with fail
      refine (refHas_any _ _ _ xs p _ HL.out HI.out (by omega)).mono ?_
      rintro e w' ⟨rfl, rfl⟩
      rw [HH.out]
      have HE := Lib.hid (own_empty w 3 w.heap.size (Nat.le_refl _))
      have hh9 : (n + 1) * 8 ≤ 140737488355328 := by omega
      go_wp2_with (first | (at_builtin; refine append_ints Try.underlying31 Try.info3 rfl _ _ rfl w.heap.size _ 0 [] rfl HE.out w.heap.size _ n _ xs rfl HN.out HL.out (HI.out.below ((Below.refl w.heap.size w).alloc (Nat.le_refl _) _)) hh8 (by simp) ?_; intro v1 u1 hown1 hgrow1; rw [Nat.zero_add, List.nil_append] at hown1; have HO1 := Lib.hid hown1; have HG1 := Lib.hid (Below.grown ((Below.refl w.heap.size w).alloc (Nat.le_refl _) (.cells #[] 3)) hgrow1 (by simp) (fun j e => (HE.out.lt j e).1)); clear hown1 hgrow1) | (at_builtin; refine append_ints Try.underlying31 Try.info3 rfl _ _ rfl w.heap.size _ n xs rfl (World.ownsRow.alloc HO1.out _) (u1.heap.size + 1) _ 1 _ [_] rfl (by intro h; cases h) rfl (Ints.new1 u1 3 _) hh9 (by have := HG1.out.size; simp; omega) ?_; intro v2 u2 hown2 hgrow2))
      have HO2 := Lib.hid (show OwnI u2 w.heap.size v2 (n + 1) (xs ++ [p]) from hown2)
      have HG2 := Lib.hid ((HG1.out.alloc HG1.out.size (.cells #[.int .i64 p] 3)).grown hgrow2 (by have := HG1.out.size; simp; omega) (fun j e => (World.ownsRow.lt HO1.out j e).1))
      clear hown2 hgrow2
      go_wp2
      go_ret2
      exact ⟨⟨_, rfl, Apart.own HO2.out (by simp [HL.out]) hb⟩, HG2.out⟩
    · have hk : putOk xs p = false := by rw [h2, hh]; rfl
      have HH := Lib.hid hh
      rw [hk]
      clear hI hA hn h2 h3 hk hh hnil
      go_enter Try.func18, Try.ntmps18
      go_wp2_with fail
      refine (refHas_any _ _ _ xs p _ HL.out HI.out (by omega)).mono ?_
      rintro e w' ⟨rfl, rfl⟩
      rw [HH.out]
      go_wp2
      go_ret2
      exact ⟨⟨_, rfl, HA.out⟩, Below.refl _ _⟩

theorem dropL_succ {xs : List Int} {p : Int} {k : Nat} (hk : k < xs.length) : dropL (xs.take (k + 1)) p = if zat xs k = p then dropL (xs.take k) p else dropL (xs.take k) p ++ [zat xs k] := by
  rw [take_zat hk]
  unfold dropL
  rw [List.filter_append]
  split
  · rename_i h; rw [h]; simp
  · rename_i h
    have : (zat xs k != p) = true := by simpa using h
    simp [this]
theorem dropL_len {xs : List Int} {p : Int} : decide ((dropL xs p).length < xs.length) = hasI xs p := by
  cases h : hasI xs p with
  | false => rw [dropL_none h]; simp
  | true =>
    have hm := hasI_iff.1 h
    rw [decide_eq_true_iff]
    exact List.length_filter_lt_length_iff_exists.2 ⟨p, hm, by simp⟩
set_option maxRecDepth 100000 in
set_option maxHeartbeats 4000000 in
theorem refDrop_any (b : Nat) (v : Value) (xs : List Int) (p : Int) (w : World) (hA : Apart b w v xs) (hl : xs.length ≤ 64) (hb : b < w.heap.size) :
    Calls Try.prog 20 #[v, .int .i64 p] w fun e w' => (∃ v', e = .returned (.tuple #[v', .bool (hasI xs p)]) ∧ Apart b w' v' (dropL xs p)) ∧ Below w.heap.size w w' := by
  obtain ⟨a, cap, rfl, hI, hnil⟩ := hA.form
  have HI := Lib.hid hI
  have HB := Lib.hid hb
  obtain ⟨n, hn⟩ : ∃ n, xs.length = n := ⟨_, rfl⟩
  have HL := Lib.hid hn
  have HDL := Lib.hid (dropL_len (xs := xs) (p := p))
  rw [hn] at HI hl HDL ⊢
  clear hI hA hn hnil hb
  rw [← HDL.out]
  go_enter Try.func20, Try.ntmps20
  go_wp2_with fail
  go_loopw [6, 7] (fun v i wr => ∃ k m : Nat, k ≤ n ∧ m ≤ k ∧ (dropL (xs.take k) p).length = m ∧ i = .int .i64 k ∧ OwnI wr w.heap.size v m (dropL (xs.take k) p) ∧ Below w.heap.size w wr) (fun _ i _ => n - (intOf i).toNat)
  case atStart => exact ⟨0, 0, Nat.zero_le _, Nat.le_refl _, rfl, rfl, World.ownsRow_nil _ _ _ _, Below.refl _ _⟩
  case round =>
    obtain ⟨k, m, hk, hm, hml, rfl, hown, hB⟩ := hrel
    have HO := Lib.hid hown
    have HBl := Lib.hid hB
    have HM := Lib.hid hml
    clear hown hB hml
    by_cases hlt : k < n
    · have hlt' : (k : Int) < (n : Int) := by omega
      obtain ⟨b0, off, ha, hb0, hc⟩ := HI.out.cells (p := k) (by rw [HL.out]; exact hlt)
      subst ha
      have hck : wr.cell? ⟨b0, off + k, none⟩ = some (.int .i64 (zat xs k)) := (HBl.out.cell (p := ⟨b0, off + k, none⟩) hb0).trans (hc k (by rw [HL.out]; exact hlt))
      have hds := dropL_succ (xs := xs) (p := p) (k := k) (by rw [HL.out]; exact hlt)
      clear hc
      by_cases hz : zat xs k = p
      · have hzb : (zat xs k != p) = false := by simpa using hz
        rw [if_pos hz] at hds
        have HD := Lib.hid hds
        clear hds hz
        go_wp2
        go_roundw
        case rel => exact ⟨k + 1, m, by omega, by omega, by rw [HD.out]; exact HM.out, by go_num, by rw [HD.out]; exact HO.out, HBl.out⟩
        case measure => simp [intOf]; omega
      · have hzb : (zat xs k != p) = true := by simpa using hz
        rw [if_neg hz] at hds
        have HD := Lib.hid hds
        have hh8 : (m + 1) * 8 ≤ 140737488355328 := by omega
        clear hds hz
        go_wp2_with (at_builtin; refine append_ints Try.underlying31 Try.info3 rfl _ _ rfl w.heap.size _ m (dropL (xs.take k) p) rfl (World.ownsRow.alloc HO.out _) (wr.heap.size + 1) _ 1 _ [_] rfl (by intro h; cases h) rfl (Ints.new1 wr 3 _) hh8 (by have := HBl.out.size; simp; omega) ?_; intro v' u hown' hgrow)
        have HG2 := Lib.hid ((HBl.out.alloc HBl.out.size (.cells #[.int .i64 (zat xs k)] 3)).grown hgrow (by have := HBl.out.size; simp; omega) (fun j e => (World.ownsRow.lt HO.out j e).1))
        have HO2 := Lib.hid (show OwnI u w.heap.size v' (m + 1) (dropL (xs.take k) p ++ [zat xs k]) from hown')
        clear hown' hgrow
        go_roundw
        case rel => exact ⟨k + 1, m + 1, by omega, by omega, by rw [HD.out]; simp [HM.out], by go_num, by rw [HD.out]; exact HO2.out, HG2.out⟩
        case measure => simp [intOf]; omega
    · obtain rfl : k = n := by omega
      have htk : xs.take k = xs := List.take_of_length_le (by rw [HL.out]; exact Nat.le_refl _)
      rw [htk] at HO HM
      have HA2 := Lib.hid (Apart.own HO.out HM.out HB.out)
      obtain ⟨a2, c2, rfl, _, _⟩ := HO.out.ints HM.out
      clear htk
      go_wp2
      go_ret2
      refine ⟨⟨_, ?_, HA2.out⟩, HBl.out⟩
      rw [HM.out]
      simp
end Go.Proofs.Ytdijafdplkdfiaa
