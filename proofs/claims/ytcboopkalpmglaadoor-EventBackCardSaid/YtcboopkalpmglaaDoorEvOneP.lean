/- For the program's line: the split, the word's number, a field read whatever its kind, the results' cells. Conditions: as each says. -/
import Derived.Test.YtcboopkalpmglaaDoorEvMay
import Derived.Test.YtcboopkalpmglaaDoorEvOneL
import Derived.Test.YtcboopkalpmglaaDoorEvRead
import Derived.Laws.ResultCell
import Derived.Lib.SlicesS
import Derived.Lib.SplitLaws
namespace Go.Proofs.YtcboopkalpmglaaDoor
set_option linter.unusedVariables false
open Go.RowKit
/-- What a split leaves. -/
def CutGives (c : UInt8) (s : ByteArray) (w : World) (e : Ending) (w' : World) : Prop :=
  ∃ L : List ByteArray, L.map bl = cutL c.toNat (bl s) ∧ e = .returned (.slice (some ⟨w.heap.size, 0, none⟩) L.length L.length) ∧ (∀ j (hj : j < L.length), w'.cell? ⟨w.heap.size, j, none⟩ = some (.string (L[j]'hj))) ∧ w.heap.size < w'.heap.size ∧ Below w.heap.size w w'
theorem split_any (c : UInt8) (s : ByteArray) (w : World) (hw : EvW w) (hs : s.size < 4294967281) :
    Calls Tryd.prog 20 #[.string s, .string ⟨#[c]⟩] w (CutGives c s w) := by
  refine (evSplit s ⟨#[c]⟩ w hw hs (Nat.le_refl 1)).mono ?_
  rintro e w' ⟨rfl, rfl⟩
  have hl : (Lib.splitB ⟨#[c]⟩ 0 (Lib.countB s ⟨#[c]⟩) s).length = Lib.countB s ⟨#[c]⟩ + 1 := Lib.splitB_all ⟨#[c]⟩ (Nat.le_refl 1) 0 _ s rfl
  refine ⟨_, split_cut c s.size s (Nat.le_refl _), by rw [hl], fun j hj => ?_, by simp, belowA _ _⟩
  rw [cnewb, List.getElem?_toArray, List.getElem?_map, List.getElem?_eq_getElem hj]; rfl
/-- The words, as strings. -/
def wordBs : List ByteArray := wordsL.map str
theorem wordBs_at {j : Nat} (h : j < 15) : wordBs.getD j ByteArray.empty = str (wordL ((j : Int) + 1)) := by
  have hj : j < wordsL.length := h
  unfold wordBs wordL
  rw [List.getD_eq_getElem?_getD, List.getElem?_map, show ((j : Int) + 1).toNat - 1 = j by omega, List.getD_eq_getElem?_getD, List.getElem?_eq_getElem hj]; rfl
theorem word_index (x : ByteArray) : Lib.idxOfS (wordBs.take 15) x = (kindL (bl x) : Int) - 1 := by
  by_cases h : kindL (bl x) = 0
  · rw [h, Lib.idxOfS_miss]
    · rfl
    · intro j hj e
      rw [wordBs_at hj] at e
      have : kindL (bl x) = j + 1 := by rw [← e, bl_word, kind_word (by omega) (by omega)]; omega
      omega
  · have hl := kindL_le (bl x)
    have hw := kindL_word h
    rw [Lib.idxOfS_hit wordBs 15 (kindL (bl x) - 1) x (by omega) (Nat.le_refl _) ?_ ?_]
    · omega
    · rw [wordBs_at (by omega), show (((kindL (bl x) - 1 : Nat) : Int) + 1) = ((kindL (bl x) : Nat) : Int) by omega, hw, str_bl]
    · intro j hj e
      rw [wordBs_at (by omega)] at e
      have : kindL (bl x) = j + 1 := by rw [← e, bl_word, kind_word (by omega) (by omega)]; omega
      omega
theorem index_words (b v : Nat) (x : ByteArray) (W : World) (hc : ∀ j, j < 15 → W.cell? ⟨b, j, none⟩ = some (.string (str (wordL ((j : Int) + 1))))) (hv : kindL (bl x) = v) :
    Calls Tryd.prog 35 #[.slice (some ⟨b, 0, none⟩) 15 15, .string x] W fun e w' => e = .returned (.int .i64 ((v : Int) - 1)) ∧ w' = W := by
  have h := Tryd.slices_Index_string b 0 15 15 wordBs x W (Nat.le_refl _) (by decide) (fun j hj => by rw [Nat.zero_add, wordBs_at hj]; exact hc j hj)
  rw [word_index, hv] at h
  exact h
/-- What the reading of a field leaves. -/
def FieldP (g : Nat) (e : Ev) (c : Nat) (t : List Nat) (w : World) (x : Ending) (w' : World) : Prop :=
  Kept g w w' ∧ ∃ (f : Nat) (e' : Ev), ferr c t = f ∧ x = .returned (.int .i64 (f : Int)) ∧ (f = 0 ∨ f = 1 ∨ f = 11) ∧ (f = 0 → e' = putT e c t) ∧ w'.heap[g]? = some (.cells (evC e') 34 (0, 0))
theorem fieldP_num {g c o : Nat} {e : Ev} {low : Bool} {t : ByteArray} {w w' : World} {x : Ending} (h : ReadNum g o (evC e) 34 low t w x w') (hc : c ≠ 115) (hl : low = true ↔ (c = 97 ∨ c = 98))
    (hp : ∀ y : Int, (evC e).setIfInBounds o (.int .i64 y) = evC (putN e c y)) : FieldP g e c (bl t) w x w' := by
  obtain ⟨hk, ⟨y, h1, h2, h3, h4⟩ | ⟨h1, h3, h4⟩⟩ := h
  · refine ⟨hk, 0, putN e c y, ferr_some hc h1 (fun hh => h2 (hl.2 hh)), h3, .inl rfl, fun _ => ?_, by rw [← hp]; exact h4⟩
    unfold putT; rw [if_neg hc, h1]; rfl
  · refine ⟨hk, 11, e, ?_, h3, .inr (.inr rfl), (fun h => nomatch h), h4⟩
    rcases h1 with h1 | ⟨y, h1, hlo, hy⟩
    · exact ferr_none hc h1
    · exact ferr_low (hl.1 hlo) h1 hy
theorem readP_any (g c : Nat) (e : Ev) (t : ByteArray) (w : World) (hw : EvW w) (hg : w.heap[g]? = some (.cells (evC e) 34 (0, 0))) (hs : t.size ≤ 140737488351232) (hc : c = 97 ∨ c = 98 ∨ c = 110 ∨ c = 109 ∨ c = 115) :
    Calls Tryd.prog 36 #[fldv g c, .string t] w (FieldP g e c (bl t) w) := by
  rcases hc with rfl | rfl | rfl | rfl | rfl
  · exact (read_place g 1 (evC e) _ _ t w hw hg rfl hs).mono fun x w' h => fieldP_num h (by decide) (by simp) (fun y => rfl)
  · exact (read_place g 2 (evC e) _ _ t w hw hg rfl hs).mono fun x w' h => fieldP_num h (by decide) (by simp) (fun y => rfl)
  · exact (read_number g 3 (evC e) _ _ t w hw hg rfl hs).mono fun x w' h => fieldP_num h (by decide) (by simp) (fun y => rfl)
  · exact (read_number g 4 (evC e) _ _ t w hw hg rfl hs).mono fun x w' h => fieldP_num h (by decide) (by simp) (fun y => rfl)
  · refine (read_set g 5 (evC e) _ _ t w hg rfl hs).mono ?_
    rintro x w' ⟨hk, ⟨h1, h3, h4⟩ | ⟨h1, h3, h4⟩⟩
    · have h1 : bl t = noneL := h1
      exact ⟨hk, 0, e, by unfold ferr; rw [if_pos rfl, if_pos h1], h3, .inl rfl, fun _ => by unfold putT; rw [if_pos rfl, if_pos h1], h4⟩
    · have h1 : bl t ≠ noneL := h1
      exact ⟨hk, setErr (bl t), { e with s := (parseL (bl t)).1 }, ferr_set h1, h3, setErr_cases _, fun _ => (putSet_of h1 e).symm, h4⟩
theorem ev6_info : (Tryd.prog.info? 34).map (·.size) = some 6 := by kernel_rfl
theorem ev_back {fn : Func} {p u : Tmp} {a : Act} {w : World} {g T : Nat} {v0 v1 v2 v3 v4 v5 r : Value} (h : fn.results = #[.cell p 34, .tmp u]) (hp : a.tmps.getD p undef = .pointer (some ⟨g, 0, none⟩)) (hr : a.tmps.getD u undef = r) (hg : w.heap[g]? = some (.cells #[v0, v1, v2, v3, v4, v5] T (0, 0))) :
    (results fn a.tmps).run Tryd.prog w = .ok (.tuple #[.agg #[v0, v1, v2, v3, v4, v5], r]) w := by
  rw [results_cell_tmp h, hp, hr]
  simp only [asAddr, Sem.run_pure, Result.andThen_ok]
  rw [run_loadVar_row w g T 34 _ _ _ hg Tryd.underlying34 rfl ev6_info]
  rfl
theorem six {w : World} {g T : Nat} {u0 u1 u2 u3 u4 u5 : Value} (h : w.heap[g]? = some (.cells #[u0, u1, u2, u3, u4, u5] T (0, 0))) (v0 v1 v2 v3 v4 v5 : Value) :
    ((((((w.setCell ⟨g, 0, none⟩ v0).setCell ⟨g, 1, none⟩ v1).setCell ⟨g, 2, none⟩ v2).setCell ⟨g, 3, none⟩ v3).setCell ⟨g, 4, none⟩ v4).setCell ⟨g, 5, none⟩ v5).heap[g]? = some (.cells #[v0, v1, v2, v3, v4, v5] T (0, 0)) := by
  have h0 := block_set (i := 0) v0 h
  rw [show (#[u0, u1, u2, u3, u4, u5] : Array Value).setIfInBounds 0 v0 = #[v0, u1, u2, u3, u4, u5] from rfl] at h0
  have h1 := block_set (i := 1) v1 h0
  rw [show (#[v0, u1, u2, u3, u4, u5] : Array Value).setIfInBounds 1 v1 = #[v0, v1, u2, u3, u4, u5] from rfl] at h1
  have h2 := block_set (i := 2) v2 h1
  rw [show (#[v0, v1, u2, u3, u4, u5] : Array Value).setIfInBounds 2 v2 = #[v0, v1, v2, u3, u4, u5] from rfl] at h2
  have h3 := block_set (i := 3) v3 h2
  rw [show (#[v0, v1, v2, u3, u4, u5] : Array Value).setIfInBounds 3 v3 = #[v0, v1, v2, v3, u4, u5] from rfl] at h3
  have h4 := block_set (i := 4) v4 h3
  rw [show (#[v0, v1, v2, v3, u4, u5] : Array Value).setIfInBounds 4 v4 = #[v0, v1, v2, v3, v4, u5] from rfl] at h4
  have h5 := block_set (i := 5) v5 h4
  rw [show (#[v0, v1, v2, v3, v4, u5] : Array Value).setIfInBounds 5 v5 = #[v0, v1, v2, v3, v4, v5] from rfl] at h5
  exact h5
/-- An error of the form stays. -/
theorem readF_11 (cs : List Nat) (ts : List (List Nat)) (e : Ev) : (readF cs ts (e, 11)).2 = 11 := by
  induction cs generalizing ts e with
  | nil => cases ts <;> rfl
  | cons c cs ih =>
    cases ts with
    | nil => rfl
    | cons t ts =>
      show (readF cs ts (putT e c t, worse 11 (ferr c t))).2 = 11
      rw [show worse 11 (ferr c t) = 11 by unfold worse; split <;> simp]
      exact ih ts _
theorem ReadAt.form {F : List Nat} {P : List (List Nat)} {R : Ev × Nat} {i : Nat} {g : Ev} {bad c : Nat} {t : List Nat} (h : ReadAt F P R i g bad) (hc : F[i]? = some c) (ht : P[i]? = some t) (hf : ferr c t = 11) : R.2 = 11 := by
  have hn := h.next (g' := putT g c t) hc ht (fun _ => rfl)
  rw [hf] at hn
  obtain ⟨e, h1, _⟩ := hn
  rw [← h1]
  exact readF_11 _ _ _
def OneP (R : Ev × Nat) (w : World) (x : Ending) (w' : World) : Prop := ∃ e : Ev, x = .returned (.tuple #[evV e, .int .i64 (R.2 : Int)]) ∧ (R.2 = 0 → e = R.1) ∧ Below w.heap.size w w'
theorem oneP_of {R : Ev × Nat} {e : Ev} {b : Nat} {w w' : World} {x : Ending} (h : R.2 = b) (hx : x = .returned (.tuple #[evV e, .int .i64 (b : Int)])) (he : b = 0 → e = R.1) (hw : Below w.heap.size w w') : OneP R w x w' :=
  ⟨e, by rw [h]; exact hx, fun e' => he (h.symm.trans e'), hw⟩
end Go.Proofs.YtcboopkalpmglaaDoor
