/- The document's field is read. Conditions: the text below 2^47 bytes. -/
import Derived.Test.YtcboopkalpmglaaDoorEvPlain
import Derived.Test.YtcboopkalpmglaaDoorEvNumber
import Derived.Test.YtcboopkalpmglaaDoorMaskRefs
import Derived.Deep.Cut
namespace Go.Proofs.YtcboopkalpmglaaDoor
set_option linter.unusedVariables false
open Go.RowKit
def Ev.cells (e : Ev) : Array Value := #[.int .i64 e.k, .int .i64 e.a, .int .i64 e.b, .int .i64 e.n, .int .i64 e.m, .int .u64 (e.s : Int)]
/-- An event that was read, and the error: the document's. -/
def gotV (e : Ev) (bad : Nat) : Value := .agg #[.int .i64 e.k, .int .i64 e.a, .int .i64 e.b, .int .i64 e.n, .int .i64 e.m, .int .u64 (e.s : Int), .int .i64 (bad : Int)]
def FieldGives (e : Ev) (bad c : Nat) (t : List Nat) (w : World) (x : Ending) (w' : World) : Prop :=
  ∃ g : Ev, g.k = e.k ∧ x = .returned (gotV g (worse bad (ferr c t))) ∧ (ferr c t = 0 → g = putT e c t) ∧ Below w.heap.size w w'
theorem fieldGives_of {e g : Ev} {bad c b f : Nat} {t : List Nat} {w w' : World} {x : Ending} (hf : ferr c t = f) (hk : g.k = e.k) (hb : worse bad f = b) (hx : x = .returned (gotV g b)) (hg : f = 0 → g = putT e c t) (hw : Below w.heap.size w w') : FieldGives e bad c t w x w' :=
  ⟨g, hk, by rw [hf, hb]; exact hx, fun h => hg (hf.symm.trans h), hw⟩
theorem two_blocks {w w1 : World} {A B : Obj} (h : Below ((w.alloc A).alloc B).heap.size ((w.alloc A).alloc B) w1) : w1.heap[w.heap.size]? = some A ∧ w1.heap[w.heap.size + 1]? = some B ∧ Below w.heap.size w w1 := by
  have e1 : (w.alloc A).heap.size = w.heap.size + 1 := by simp
  have e2 : ((w.alloc A).alloc B).heap.size = w.heap.size + 2 := by simp
  refine ⟨(h.block _ (by omega)).trans (block_keep (block_alloc w A)), (h.block _ (by omega)).trans ?_, ((belowA w A).alloc (by simp) B).trans (h.mono (by omega))⟩
  rw [← e1]; exact block_alloc (w.alloc A) B
theorem set_below {n b i : Nat} {w w' : World} (h : Below n w w') (hb : n ≤ b) (v : Value) : Below n w (w'.setCell ⟨b, i, none⟩ v) :=
  ⟨h.os, h.tape, h.output, by simpa using h.size, fun k hk => (heap_setCell_other w' ⟨b, i, none⟩ k v (by show k ≠ b; omega)).trans (h.block k hk)⟩
theorem block_other {w : World} {b b' i : Nat} {O : Obj} (hn : b ≠ b') (v : Value) (h : w.heap[b]? = some O) : (w.setCell ⟨b', i, none⟩ v).heap[b]? = some O :=
  (heap_setCell_other w ⟨b', i, none⟩ b v hn).trans h
theorem got_info : (Tryd.prog.info? 52).map (·.size) = some 7 := by kernel_rfl
theorem got_back {fn : Func} {p : Tmp} {a : Act} {w : World} {g T : Nat} {v0 v1 v2 v3 v4 v5 v6 : Value} (h : fn.results = #[.cell p 52]) (hp : a.tmps.getD p undef = .pointer (some ⟨g, 0, none⟩)) (hg : w.heap[g]? = some (.cells #[v0, v1, v2, v3, v4, v5, v6] T (0, 0))) :
    (results fn a.tmps).run Tryd.prog w = .ok (.agg #[v0, v1, v2, v3, v4, v5, v6]) w :=
  results_cell_row h a.tmps w g T _ _ _ hp hg Tryd.underlying52 rfl got_info
theorem seven {w : World} {g T : Nat} {u0 u1 u2 u3 u4 u5 u6 : Value} (h : w.heap[g]? = some (.cells #[u0, u1, u2, u3, u4, u5, u6] T (0, 0))) (v0 v1 v2 v3 v4 v5 v6 : Value) :
    (((((((w.setCell ⟨g, 0, none⟩ v0).setCell ⟨g, 1, none⟩ v1).setCell ⟨g, 2, none⟩ v2).setCell ⟨g, 3, none⟩ v3).setCell ⟨g, 4, none⟩ v4).setCell ⟨g, 5, none⟩ v5).setCell ⟨g, 6, none⟩ v6).heap[g]? = some (.cells #[v0, v1, v2, v3, v4, v5, v6] T (0, 0)) := by
  have h0 := block_set (i := 0) v0 h
  rw [show (#[u0, u1, u2, u3, u4, u5, u6] : Array Value).setIfInBounds 0 v0 = #[v0, u1, u2, u3, u4, u5, u6] from rfl] at h0
  have h1 := block_set (i := 1) v1 h0
  rw [show (#[v0, u1, u2, u3, u4, u5, u6] : Array Value).setIfInBounds 1 v1 = #[v0, v1, u2, u3, u4, u5, u6] from rfl] at h1
  have h2 := block_set (i := 2) v2 h1
  rw [show (#[v0, v1, u2, u3, u4, u5, u6] : Array Value).setIfInBounds 2 v2 = #[v0, v1, v2, u3, u4, u5, u6] from rfl] at h2
  have h3 := block_set (i := 3) v3 h2
  rw [show (#[v0, v1, v2, u3, u4, u5, u6] : Array Value).setIfInBounds 3 v3 = #[v0, v1, v2, v3, u4, u5, u6] from rfl] at h3
  have h4 := block_set (i := 4) v4 h3
  rw [show (#[v0, v1, v2, v3, u4, u5, u6] : Array Value).setIfInBounds 4 v4 = #[v0, v1, v2, v3, v4, u5, u6] from rfl] at h4
  have h5 := block_set (i := 5) v5 h4
  rw [show (#[v0, v1, v2, v3, v4, u5, u6] : Array Value).setIfInBounds 5 v5 = #[v0, v1, v2, v3, v4, v5, u6] from rfl] at h5
  have h6 := block_set (i := 6) v6 h5
  rw [show (#[v0, v1, v2, v3, v4, v5, u6] : Array Value).setIfInBounds 6 v6 = #[v0, v1, v2, v3, v4, v5, v6] from rfl] at h6
  exact h6
set_option maxRecDepth 20000 in
set_option maxHeartbeats 4000000 in
theorem field_97 (e : Ev) (bad : Nat) (s : ByteArray) (w : World) (hs : s.size ≤ 140737488351232) :
    Calls Tryd.prog 37 #[gotV e bad, .int .u8 97, .string s] w (FieldGives e bad 97 (bl s) w) := by
  obtain ⟨k, a, b, n, m, u⟩ := e
  have hw11 : worse bad 11 = 11 := rfl
  have hw0 : worse bad 0 = bad := rfl
  unfold gotV
  go_enter Tryd.func37, Tryd.ntmps37
  go_wp2_with fail
  refine (evNumber s _ hs).mono ?_
  rintro e w1 ⟨⟨v, rfl, hv, hr⟩, hbw⟩
  have HT := Lib.hid (two_blocks hbw)
  have hB0 := HT.out.1
  have hB1 := HT.out.2.1
  have HB := Lib.hid HT.out.2.2
  have c0 := block_cell (i := 0) hB0 rfl
  have c1 := block_cell (i := 1) hB0 rfl
  have c2 := block_cell (i := 2) hB0 rfl
  have c3 := block_cell (i := 3) hB0 rfl
  have c4 := block_cell (i := 4) hB0 rfl
  have c5 := block_cell (i := 5) hB0 rfl
  have c6 := block_cell (i := 6) hB0 rfl
  have d0 := block_cell (i := 0) hB1 rfl
  have d1 := block_cell (i := 1) hB1 rfl
  have d2 := block_cell (i := 2) hB1 rfl
  have d3 := block_cell (i := 3) hB1 rfl
  have d4 := block_cell (i := 4) hB1 rfl
  have d5 := block_cell (i := 5) hB1 rfl
  have d6 := block_cell (i := 6) hB1 rfl
  have f0 := fun i => block_free (i := i) hB0
  have f1 := fun i => block_free (i := i) hB1
  have s0 := block_lt hB0
  have s1 := block_lt hB1
  have B1 := Lib.hid hB1
  clear hB0 hB1
  have HV := Lib.hid hv
  have HR := Lib.hid hr
  clear hbw hv hr HT
  cases hn : numOf (bl s) with
  | none =>
    have HF := Lib.hid (ferr_none (c := 97) (by decide) hn)
    clear hn
    go_wp2
    refine bodyPost_ret (got_back rfl rfl (seven (by first | exact B1.out | exact block_other (by omega) _ B1.out | exact block_other (by omega) _ (block_other (by omega) _ B1.out)) _ _ _ _ _ _ _)) rfl ?_
    refine fieldGives_of (g := ⟨k, v, b, n, m, u⟩) HF.out rfl hw11 rfl (fun h => nomatch h) ?_
    repeat (with_reducible refine set_below ?_ (by omega) _)
    exact HB.out
  | some x =>
    obtain rfl := HV.out x hn
    have HN := Lib.hid hn
    clear hn
    by_cases hx : v < 0
    · have HF := Lib.hid (ferr_low (c := 97) (by decide) HN.out hx)
      go_wp2
      refine bodyPost_ret (got_back rfl rfl (seven (by first | exact B1.out | exact block_other (by omega) _ B1.out | exact block_other (by omega) _ (block_other (by omega) _ B1.out)) _ _ _ _ _ _ _)) rfl ?_
      refine fieldGives_of (g := ⟨k, v, b, n, m, u⟩) HF.out rfl hw11 rfl (fun h => nomatch h) ?_
      repeat (with_reducible refine set_below ?_ (by omega) _)
      exact HB.out
    · have HF := Lib.hid (ferr_some (c := 97) (by decide) HN.out (fun _ => by omega))
      have HP := Lib.hid (show putT ⟨k, a, b, n, m, u⟩ 97 (bl s) = ⟨k, v, b, n, m, u⟩ by unfold putT; rw [HN.out]; rfl)
      go_wp2
      refine bodyPost_ret (got_back rfl rfl (seven (by first | exact B1.out | exact block_other (by omega) _ B1.out | exact block_other (by omega) _ (block_other (by omega) _ B1.out)) _ _ _ _ _ _ _)) rfl ?_
      refine fieldGives_of (g := ⟨k, v, b, n, m, u⟩) HF.out rfl hw0 rfl (fun _ => HP.out.symm) ?_
      repeat (with_reducible refine set_below ?_ (by omega) _)
      exact HB.out
set_option maxRecDepth 20000 in
set_option maxHeartbeats 4000000 in
theorem field_98 (e : Ev) (bad : Nat) (s : ByteArray) (w : World) (hs : s.size ≤ 140737488351232) :
    Calls Tryd.prog 37 #[gotV e bad, .int .u8 98, .string s] w (FieldGives e bad 98 (bl s) w) := by
  obtain ⟨k, a, b, n, m, u⟩ := e
  have hw11 : worse bad 11 = 11 := rfl
  have hw0 : worse bad 0 = bad := rfl
  unfold gotV
  go_enter Tryd.func37, Tryd.ntmps37
  go_wp2_with fail
  refine (evNumber s _ hs).mono ?_
  rintro e w1 ⟨⟨v, rfl, hv, hr⟩, hbw⟩
  have HT := Lib.hid (two_blocks hbw)
  have hB0 := HT.out.1
  have hB1 := HT.out.2.1
  have HB := Lib.hid HT.out.2.2
  have c0 := block_cell (i := 0) hB0 rfl
  have c1 := block_cell (i := 1) hB0 rfl
  have c2 := block_cell (i := 2) hB0 rfl
  have c3 := block_cell (i := 3) hB0 rfl
  have c4 := block_cell (i := 4) hB0 rfl
  have c5 := block_cell (i := 5) hB0 rfl
  have c6 := block_cell (i := 6) hB0 rfl
  have d0 := block_cell (i := 0) hB1 rfl
  have d1 := block_cell (i := 1) hB1 rfl
  have d2 := block_cell (i := 2) hB1 rfl
  have d3 := block_cell (i := 3) hB1 rfl
  have d4 := block_cell (i := 4) hB1 rfl
  have d5 := block_cell (i := 5) hB1 rfl
  have d6 := block_cell (i := 6) hB1 rfl
  have f0 := fun i => block_free (i := i) hB0
  have f1 := fun i => block_free (i := i) hB1
  have s0 := block_lt hB0
  have s1 := block_lt hB1
  have B1 := Lib.hid hB1
  clear hB0 hB1
  have HV := Lib.hid hv
  have HR := Lib.hid hr
  clear hbw hv hr HT
  cases hn : numOf (bl s) with
  | none =>
    have HF := Lib.hid (ferr_none (c := 98) (by decide) hn)
    clear hn
    go_wp2
    refine bodyPost_ret (got_back rfl rfl (seven (by first | exact B1.out | exact block_other (by omega) _ B1.out | exact block_other (by omega) _ (block_other (by omega) _ B1.out)) _ _ _ _ _ _ _)) rfl ?_
    refine fieldGives_of (g := ⟨k, a, v, n, m, u⟩) HF.out rfl hw11 rfl (fun h => nomatch h) ?_
    repeat (with_reducible refine set_below ?_ (by omega) _)
    exact HB.out
  | some x =>
    obtain rfl := HV.out x hn
    have HN := Lib.hid hn
    clear hn
    by_cases hx : v < 0
    · have HF := Lib.hid (ferr_low (c := 98) (by decide) HN.out hx)
      go_wp2
      refine bodyPost_ret (got_back rfl rfl (seven (by first | exact B1.out | exact block_other (by omega) _ B1.out | exact block_other (by omega) _ (block_other (by omega) _ B1.out)) _ _ _ _ _ _ _)) rfl ?_
      refine fieldGives_of (g := ⟨k, a, v, n, m, u⟩) HF.out rfl hw11 rfl (fun h => nomatch h) ?_
      repeat (with_reducible refine set_below ?_ (by omega) _)
      exact HB.out
    · have HF := Lib.hid (ferr_some (c := 98) (by decide) HN.out (fun _ => by omega))
      have HP := Lib.hid (show putT ⟨k, a, b, n, m, u⟩ 98 (bl s) = ⟨k, a, v, n, m, u⟩ by unfold putT; rw [HN.out]; rfl)
      go_wp2
      refine bodyPost_ret (got_back rfl rfl (seven (by first | exact B1.out | exact block_other (by omega) _ B1.out | exact block_other (by omega) _ (block_other (by omega) _ B1.out)) _ _ _ _ _ _ _)) rfl ?_
      refine fieldGives_of (g := ⟨k, a, v, n, m, u⟩) HF.out rfl hw0 rfl (fun _ => HP.out.symm) ?_
      repeat (with_reducible refine set_below ?_ (by omega) _)
      exact HB.out
set_option maxRecDepth 20000 in
set_option maxHeartbeats 4000000 in
theorem field_110 (e : Ev) (bad : Nat) (s : ByteArray) (w : World) (hs : s.size ≤ 140737488351232) :
    Calls Tryd.prog 37 #[gotV e bad, .int .u8 110, .string s] w (FieldGives e bad 110 (bl s) w) := by
  obtain ⟨k, a, b, n, m, u⟩ := e
  have hw11 : worse bad 11 = 11 := rfl
  have hw0 : worse bad 0 = bad := rfl
  unfold gotV
  go_enter Tryd.func37, Tryd.ntmps37
  go_wp2_with fail
  refine (evNumber s _ hs).mono ?_
  rintro e w1 ⟨⟨v, rfl, hv, hr⟩, hbw⟩
  have HT := Lib.hid (two_blocks hbw)
  have hB0 := HT.out.1
  have hB1 := HT.out.2.1
  have HB := Lib.hid HT.out.2.2
  have c0 := block_cell (i := 0) hB0 rfl
  have c1 := block_cell (i := 1) hB0 rfl
  have c2 := block_cell (i := 2) hB0 rfl
  have c3 := block_cell (i := 3) hB0 rfl
  have c4 := block_cell (i := 4) hB0 rfl
  have c5 := block_cell (i := 5) hB0 rfl
  have c6 := block_cell (i := 6) hB0 rfl
  have d0 := block_cell (i := 0) hB1 rfl
  have d1 := block_cell (i := 1) hB1 rfl
  have d2 := block_cell (i := 2) hB1 rfl
  have d3 := block_cell (i := 3) hB1 rfl
  have d4 := block_cell (i := 4) hB1 rfl
  have d5 := block_cell (i := 5) hB1 rfl
  have d6 := block_cell (i := 6) hB1 rfl
  have f0 := fun i => block_free (i := i) hB0
  have f1 := fun i => block_free (i := i) hB1
  have s0 := block_lt hB0
  have s1 := block_lt hB1
  have B1 := Lib.hid hB1
  clear hB0 hB1
  have HV := Lib.hid hv
  have HR := Lib.hid hr
  clear hbw hv hr HT
  cases hn : numOf (bl s) with
  | none =>
    have HF := Lib.hid (ferr_none (c := 110) (by decide) hn)
    clear hn
    go_wp2
    refine bodyPost_ret (got_back rfl rfl (seven (by first | exact B1.out | exact block_other (by omega) _ B1.out | exact block_other (by omega) _ (block_other (by omega) _ B1.out)) _ _ _ _ _ _ _)) rfl ?_
    refine fieldGives_of (g := ⟨k, a, b, v, m, u⟩) HF.out rfl hw11 rfl (fun h => nomatch h) ?_
    repeat (with_reducible refine set_below ?_ (by omega) _)
    exact HB.out
  | some x =>
    obtain rfl := HV.out x hn
    have HN := Lib.hid hn
    clear hn
    by_cases hx : v < 0
    all_goals
      have HF := Lib.hid (ferr_some (c := 110) (by decide) HN.out (fun h => absurd h (by decide)))
      have HP := Lib.hid (show putT ⟨k, a, b, n, m, u⟩ 110 (bl s) = ⟨k, a, b, v, m, u⟩ by unfold putT; rw [HN.out]; rfl)
      go_wp2
      refine bodyPost_ret (got_back rfl rfl (seven (by first | exact B1.out | exact block_other (by omega) _ B1.out | exact block_other (by omega) _ (block_other (by omega) _ B1.out)) _ _ _ _ _ _ _)) rfl ?_
      refine fieldGives_of (g := ⟨k, a, b, v, m, u⟩) HF.out rfl hw0 rfl (fun _ => HP.out.symm) ?_
      repeat (with_reducible refine set_below ?_ (by omega) _)
      exact HB.out
set_option maxRecDepth 20000 in
set_option maxHeartbeats 4000000 in
theorem field_109 (e : Ev) (bad : Nat) (s : ByteArray) (w : World) (hs : s.size ≤ 140737488351232) :
    Calls Tryd.prog 37 #[gotV e bad, .int .u8 109, .string s] w (FieldGives e bad 109 (bl s) w) := by
  obtain ⟨k, a, b, n, m, u⟩ := e
  have hw11 : worse bad 11 = 11 := rfl
  have hw0 : worse bad 0 = bad := rfl
  unfold gotV
  go_enter Tryd.func37, Tryd.ntmps37
  go_wp2_with fail
  refine (evNumber s _ hs).mono ?_
  rintro e w1 ⟨⟨v, rfl, hv, hr⟩, hbw⟩
  have HT := Lib.hid (two_blocks hbw)
  have hB0 := HT.out.1
  have hB1 := HT.out.2.1
  have HB := Lib.hid HT.out.2.2
  have c0 := block_cell (i := 0) hB0 rfl
  have c1 := block_cell (i := 1) hB0 rfl
  have c2 := block_cell (i := 2) hB0 rfl
  have c3 := block_cell (i := 3) hB0 rfl
  have c4 := block_cell (i := 4) hB0 rfl
  have c5 := block_cell (i := 5) hB0 rfl
  have c6 := block_cell (i := 6) hB0 rfl
  have d0 := block_cell (i := 0) hB1 rfl
  have d1 := block_cell (i := 1) hB1 rfl
  have d2 := block_cell (i := 2) hB1 rfl
  have d3 := block_cell (i := 3) hB1 rfl
  have d4 := block_cell (i := 4) hB1 rfl
  have d5 := block_cell (i := 5) hB1 rfl
  have d6 := block_cell (i := 6) hB1 rfl
  have f0 := fun i => block_free (i := i) hB0
  have f1 := fun i => block_free (i := i) hB1
  have s0 := block_lt hB0
  have s1 := block_lt hB1
  have B1 := Lib.hid hB1
  clear hB0 hB1
  have HV := Lib.hid hv
  have HR := Lib.hid hr
  clear hbw hv hr HT
  cases hn : numOf (bl s) with
  | none =>
    have HF := Lib.hid (ferr_none (c := 109) (by decide) hn)
    clear hn
    go_wp2
    refine bodyPost_ret (got_back rfl rfl (seven (by first | exact B1.out | exact block_other (by omega) _ B1.out | exact block_other (by omega) _ (block_other (by omega) _ B1.out)) _ _ _ _ _ _ _)) rfl ?_
    refine fieldGives_of (g := ⟨k, a, b, n, v, u⟩) HF.out rfl hw11 rfl (fun h => nomatch h) ?_
    repeat (with_reducible refine set_below ?_ (by omega) _)
    exact HB.out
  | some x =>
    obtain rfl := HV.out x hn
    have HN := Lib.hid hn
    clear hn
    by_cases hx : v < 0
    all_goals
      have HF := Lib.hid (ferr_some (c := 109) (by decide) HN.out (fun h => absurd h (by decide)))
      have HP := Lib.hid (show putT ⟨k, a, b, n, m, u⟩ 109 (bl s) = ⟨k, a, b, n, v, u⟩ by unfold putT; rw [HN.out]; rfl)
      go_wp2
      refine bodyPost_ret (got_back rfl rfl (seven (by first | exact B1.out | exact block_other (by omega) _ B1.out | exact block_other (by omega) _ (block_other (by omega) _ B1.out)) _ _ _ _ _ _ _)) rfl ?_
      refine fieldGives_of (g := ⟨k, a, b, n, v, u⟩) HF.out rfl hw0 rfl (fun _ => HP.out.symm) ?_
      repeat (with_reducible refine set_below ?_ (by omega) _)
      exact HB.out
/-- The set's error at the document's. -/
theorem ferr_set {t : List Nat} (h : t ≠ noneL) : ferr 115 t = setErr t := by
  unfold ferr; rw [if_pos rfl, if_neg h]
theorem putSet_of {t : List Nat} (h : t ≠ noneL) (e : Ev) : putT e 115 t = { e with s := (parseL t).1 } := by
  unfold putT; rw [if_pos rfl, if_neg h]
theorem worse_1 {bad : Nat} (h : bad = 0) : worse bad 1 = 1 := by subst h; rfl
theorem worse_1' {bad : Nat} (h : bad ≠ 0) : worse bad 1 = bad := by unfold worse; rw [if_neg (by decide), if_neg (by decide), if_neg h]
theorem setErr_nil {s : ByteArray} (h : s.toList.isEmpty = true) : setErr (bl s) = 11 := by
  unfold setErr; rw [if_pos]
  unfold bl
  rw [Lib.toList_data, List.isEmpty_iff] at h
  rw [h]; rfl
theorem setErr_at {s : ByteArray} {p q : Nat} (h : s.toList.isEmpty = false) (hpq : parseL (bl s) = (p, q)) : setErr (bl s) = q := by
  unfold setErr; rw [if_neg, hpq]
  intro hb
  unfold bl at hb
  rw [List.map_eq_nil_iff] at hb
  rw [Lib.toList_data, hb] at h
  cases h
theorem refParse_at {p q : Nat} {z : Int} (s : ByteArray) (w : World) (hs : s.size ≤ maxLen) (hpq : parseL (bl s) = (p, q)) (hz : (q : Int) = z) :
    Calls Tryd.prog 51 #[.string s] w fun e w' => e = .returned (.tuple #[.int .u64 (p : Int), .int .i64 z]) ∧ Below w.heap.size w w' :=
  (refParse_any s w hs).mono fun e w' h => by
    obtain ⟨h1, h2⟩ := h
    rw [hpq, hz] at h1
    exact ⟨h1, h2⟩
theorem two_of {w V : World} {A B : Obj} (h : (w.alloc A).alloc B = V) : V.heap[w.heap.size]? = some A ∧ V.heap[w.heap.size + 1]? = some B ∧ Below w.heap.size w V :=
  h ▸ two_blocks (Below.refl _ _)
set_option maxRecDepth 20000 in
set_option maxHeartbeats 4000000 in
theorem field_115n (e : Ev) (bad : Nat) (s : ByteArray) (w : World) (hn : bl s = noneL) :
    Calls Tryd.prog 37 #[gotV e bad, .int .u8 115, .string s] w (FieldGives e bad 115 (bl s) w) := by
  obtain ⟨k, a, b, n, m, u⟩ := e
  have hw0 : worse bad 0 = bad := rfl
  have HF := Lib.hid (show ferr 115 (bl s) = 0 by unfold ferr; rw [if_pos rfl, if_pos hn])
  have HP := Lib.hid (show putT ⟨k, a, b, n, m, u⟩ 115 (bl s) = ⟨k, a, b, n, m, u⟩ by unfold putT; rw [if_pos rfl, if_pos hn])
  have hbe : (s.toList == [110, 111, 110, 101]) = true := (toList_none s).2 hn
  clear hn
  unfold gotV
  go_enter Tryd.func37, Tryd.ntmps37
  go_upto_region 1 with (fail)
  generalize hV : World.alloc (World.alloc w _) _ = V
  have HT := Lib.hid (two_of hV)
  have hB0 := HT.out.1
  have hB1 := HT.out.2.1
  have HB := Lib.hid HT.out.2.2
  have c0 := block_cell (i := 0) hB0 rfl
  have c1 := block_cell (i := 1) hB0 rfl
  have c2 := block_cell (i := 2) hB0 rfl
  have c3 := block_cell (i := 3) hB0 rfl
  have c4 := block_cell (i := 4) hB0 rfl
  have c5 := block_cell (i := 5) hB0 rfl
  have c6 := block_cell (i := 6) hB0 rfl
  have d0 := block_cell (i := 0) hB1 rfl
  have d1 := block_cell (i := 1) hB1 rfl
  have d2 := block_cell (i := 2) hB1 rfl
  have d3 := block_cell (i := 3) hB1 rfl
  have d4 := block_cell (i := 4) hB1 rfl
  have d5 := block_cell (i := 5) hB1 rfl
  have d6 := block_cell (i := 6) hB1 rfl
  have f0 := fun i => block_free (i := i) hB0
  have f1 := fun i => block_free (i := i) hB1
  have s0 := block_lt hB0
  have s1 := block_lt hB1
  have B1 := Lib.hid hB1
  clear hB0 hB1
  clear hV HT
  go_wp2
  refine bodyPost_ret (got_back rfl rfl (seven (by first | exact B1.out | exact block_other (by omega) _ B1.out | exact block_other (by omega) _ (block_other (by omega) _ B1.out)) _ _ _ _ _ _ _)) rfl ?_
  refine fieldGives_of (g := ⟨k, a, b, n, m, u⟩) HF.out rfl hw0 rfl (fun _ => HP.out.symm) ?_
  repeat (with_reducible refine set_below ?_ (by omega) _)
  exact HB.out
set_option maxRecDepth 20000 in
set_option maxHeartbeats 4000000 in
theorem field_115e (e : Ev) (bad p : Nat) (s : ByteArray) (w : World) (hs : s.size ≤ 140737488351232) (hnn : bl s ≠ noneL) (q : Nat) (hpq : parseL (bl s) = (p, q)) (he : s.toList.isEmpty = true) :
    Calls Tryd.prog 37 #[gotV e bad, .int .u8 115, .string s] w (FieldGives e bad 115 (bl s) w) := by
  obtain ⟨k, a, b, n, m, u⟩ := e
  have hbe : (s.toList == [110, 111, 110, 101]) = false := by
    cases h : (s.toList == [110, 111, 110, 101]) with
    | false => rfl
    | true => exact absurd ((toList_none s).1 h) hnn
  have HN := Lib.hid hnn
  clear hnn
  have HF := Lib.hid ((ferr_set HN.out).trans (setErr_nil he))
  have HW := Lib.hid (show worse bad 11 = 11 from rfl)
  have HPQ := Lib.hid hpq
  clear hpq

  unfold gotV
  go_enter Tryd.func37, Tryd.ntmps37
  go_wp2_with fail
  refine (refParse_at s _ (by unfold maxLen; omega) HPQ.out rfl).mono ?_
  rintro e w1 ⟨rfl, hbw⟩
  have HT := Lib.hid (two_blocks hbw)
  have hB0 := HT.out.1
  have hB1 := HT.out.2.1
  have HB := Lib.hid HT.out.2.2
  have c0 := block_cell (i := 0) hB0 rfl
  have c1 := block_cell (i := 1) hB0 rfl
  have c2 := block_cell (i := 2) hB0 rfl
  have c3 := block_cell (i := 3) hB0 rfl
  have c4 := block_cell (i := 4) hB0 rfl
  have c5 := block_cell (i := 5) hB0 rfl
  have c6 := block_cell (i := 6) hB0 rfl
  have d0 := block_cell (i := 0) hB1 rfl
  have d1 := block_cell (i := 1) hB1 rfl
  have d2 := block_cell (i := 2) hB1 rfl
  have d3 := block_cell (i := 3) hB1 rfl
  have d4 := block_cell (i := 4) hB1 rfl
  have d5 := block_cell (i := 5) hB1 rfl
  have d6 := block_cell (i := 6) hB1 rfl
  have f0 := fun i => block_free (i := i) hB0
  have f1 := fun i => block_free (i := i) hB1
  have s0 := block_lt hB0
  have s1 := block_lt hB1
  have B1 := Lib.hid hB1
  clear hB0 hB1
  clear hbw HT
  go_wp2
  refine bodyPost_ret (got_back rfl rfl (seven (by first | exact B1.out | exact block_other (by omega) _ B1.out | exact block_other (by omega) _ (block_other (by omega) _ B1.out)) _ _ _ _ _ _ _)) rfl ?_
  refine fieldGives_of (g := ⟨k, a, b, n, m, p⟩) HF.out rfl HW.out rfl (fun h => nomatch h) ?_
  repeat (with_reducible refine set_below ?_ (by omega) _)
  exact HB.out
set_option maxRecDepth 20000 in
set_option maxHeartbeats 4000000 in
theorem field_115f (e : Ev) (bad p : Nat) (s : ByteArray) (w : World) (hs : s.size ≤ 140737488351232) (hnn : bl s ≠ noneL) (hpq : parseL (bl s) = (p, 11)) (he : s.toList.isEmpty = false) :
    Calls Tryd.prog 37 #[gotV e bad, .int .u8 115, .string s] w (FieldGives e bad 115 (bl s) w) := by
  obtain ⟨k, a, b, n, m, u⟩ := e
  have hbe : (s.toList == [110, 111, 110, 101]) = false := by
    cases h : (s.toList == [110, 111, 110, 101]) with
    | false => rfl
    | true => exact absurd ((toList_none s).1 h) hnn
  have HN := Lib.hid hnn
  clear hnn
  have HF := Lib.hid ((ferr_set HN.out).trans (setErr_at he hpq))
  have HW := Lib.hid (show worse bad 11 = 11 from rfl)
  have HPQ := Lib.hid hpq
  clear hpq

  unfold gotV
  go_enter Tryd.func37, Tryd.ntmps37
  go_wp2_with fail
  refine (refParse_at s _ (by unfold maxLen; omega) HPQ.out rfl).mono ?_
  rintro e w1 ⟨rfl, hbw⟩
  have HT := Lib.hid (two_blocks hbw)
  have hB0 := HT.out.1
  have hB1 := HT.out.2.1
  have HB := Lib.hid HT.out.2.2
  have c0 := block_cell (i := 0) hB0 rfl
  have c1 := block_cell (i := 1) hB0 rfl
  have c2 := block_cell (i := 2) hB0 rfl
  have c3 := block_cell (i := 3) hB0 rfl
  have c4 := block_cell (i := 4) hB0 rfl
  have c5 := block_cell (i := 5) hB0 rfl
  have c6 := block_cell (i := 6) hB0 rfl
  have d0 := block_cell (i := 0) hB1 rfl
  have d1 := block_cell (i := 1) hB1 rfl
  have d2 := block_cell (i := 2) hB1 rfl
  have d3 := block_cell (i := 3) hB1 rfl
  have d4 := block_cell (i := 4) hB1 rfl
  have d5 := block_cell (i := 5) hB1 rfl
  have d6 := block_cell (i := 6) hB1 rfl
  have f0 := fun i => block_free (i := i) hB0
  have f1 := fun i => block_free (i := i) hB1
  have s0 := block_lt hB0
  have s1 := block_lt hB1
  have B1 := Lib.hid hB1
  clear hB0 hB1
  clear hbw HT
  go_wp2
  refine bodyPost_ret (got_back rfl rfl (seven (by first | exact B1.out | exact block_other (by omega) _ B1.out | exact block_other (by omega) _ (block_other (by omega) _ B1.out)) _ _ _ _ _ _ _)) rfl ?_
  refine fieldGives_of (g := ⟨k, a, b, n, m, p⟩) HF.out rfl HW.out rfl (fun h => nomatch h) ?_
  repeat (with_reducible refine set_below ?_ (by omega) _)
  exact HB.out
set_option maxRecDepth 20000 in
set_option maxHeartbeats 4000000 in
theorem field_115z (e : Ev) (bad p : Nat) (s : ByteArray) (w : World) (hs : s.size ≤ 140737488351232) (hnn : bl s ≠ noneL) (hpq : parseL (bl s) = (p, 0)) (he : s.toList.isEmpty = false) :
    Calls Tryd.prog 37 #[gotV e bad, .int .u8 115, .string s] w (FieldGives e bad 115 (bl s) w) := by
  obtain ⟨k, a, b, n, m, u⟩ := e
  have hbe : (s.toList == [110, 111, 110, 101]) = false := by
    cases h : (s.toList == [110, 111, 110, 101]) with
    | false => rfl
    | true => exact absurd ((toList_none s).1 h) hnn
  have HN := Lib.hid hnn
  clear hnn
  have HF := Lib.hid ((ferr_set HN.out).trans (setErr_at he hpq))
  have HW := Lib.hid (show worse bad 0 = bad from rfl)
  have HP := Lib.hid ((putSet_of HN.out ⟨k, a, b, n, m, u⟩).trans (by rw [hpq]) : putT ⟨k, a, b, n, m, u⟩ 115 (bl s) = ⟨k, a, b, n, m, p⟩)
  have HPQ := Lib.hid hpq
  clear hpq

  unfold gotV
  go_enter Tryd.func37, Tryd.ntmps37
  go_wp2_with fail
  refine (refParse_at s _ (by unfold maxLen; omega) HPQ.out rfl).mono ?_
  rintro e w1 ⟨rfl, hbw⟩
  have HT := Lib.hid (two_blocks hbw)
  have hB0 := HT.out.1
  have hB1 := HT.out.2.1
  have HB := Lib.hid HT.out.2.2
  have c0 := block_cell (i := 0) hB0 rfl
  have c1 := block_cell (i := 1) hB0 rfl
  have c2 := block_cell (i := 2) hB0 rfl
  have c3 := block_cell (i := 3) hB0 rfl
  have c4 := block_cell (i := 4) hB0 rfl
  have c5 := block_cell (i := 5) hB0 rfl
  have c6 := block_cell (i := 6) hB0 rfl
  have d0 := block_cell (i := 0) hB1 rfl
  have d1 := block_cell (i := 1) hB1 rfl
  have d2 := block_cell (i := 2) hB1 rfl
  have d3 := block_cell (i := 3) hB1 rfl
  have d4 := block_cell (i := 4) hB1 rfl
  have d5 := block_cell (i := 5) hB1 rfl
  have d6 := block_cell (i := 6) hB1 rfl
  have f0 := fun i => block_free (i := i) hB0
  have f1 := fun i => block_free (i := i) hB1
  have s0 := block_lt hB0
  have s1 := block_lt hB1
  have B1 := Lib.hid hB1
  clear hB0 hB1
  clear hbw HT
  go_wp2
  refine bodyPost_ret (got_back rfl rfl (seven (by first | exact B1.out | exact block_other (by omega) _ B1.out | exact block_other (by omega) _ (block_other (by omega) _ B1.out)) _ _ _ _ _ _ _)) rfl ?_
  refine fieldGives_of (g := ⟨k, a, b, n, m, p⟩) HF.out rfl HW.out rfl (fun _ => HP.out.symm) ?_
  repeat (with_reducible refine set_below ?_ (by omega) _)
  exact HB.out
set_option maxRecDepth 20000 in
set_option maxHeartbeats 4000000 in
theorem field_115g (e : Ev) (bad p : Nat) (s : ByteArray) (w : World) (hs : s.size ≤ 140737488351232) (hnn : bl s ≠ noneL) (hpq : parseL (bl s) = (p, 1)) (he : s.toList.isEmpty = false) (h0 : bad = 0) :
    Calls Tryd.prog 37 #[gotV e bad, .int .u8 115, .string s] w (FieldGives e bad 115 (bl s) w) := by
  obtain ⟨k, a, b, n, m, u⟩ := e
  have hbe : (s.toList == [110, 111, 110, 101]) = false := by
    cases h : (s.toList == [110, 111, 110, 101]) with
    | false => rfl
    | true => exact absurd ((toList_none s).1 h) hnn
  have HN := Lib.hid hnn
  clear hnn
  have HF := Lib.hid ((ferr_set HN.out).trans (setErr_at he hpq))
  have HW := Lib.hid (worse_1 h0)
  have hb0 : ((bad : Int) == 0) = true := by subst h0; rfl
  clear h0
  have HPQ := Lib.hid hpq
  clear hpq

  unfold gotV
  go_enter Tryd.func37, Tryd.ntmps37
  go_wp2_with fail
  refine (refParse_at s _ (by unfold maxLen; omega) HPQ.out rfl).mono ?_
  rintro e w1 ⟨rfl, hbw⟩
  have HT := Lib.hid (two_blocks hbw)
  have hB0 := HT.out.1
  have hB1 := HT.out.2.1
  have HB := Lib.hid HT.out.2.2
  have c0 := block_cell (i := 0) hB0 rfl
  have c1 := block_cell (i := 1) hB0 rfl
  have c2 := block_cell (i := 2) hB0 rfl
  have c3 := block_cell (i := 3) hB0 rfl
  have c4 := block_cell (i := 4) hB0 rfl
  have c5 := block_cell (i := 5) hB0 rfl
  have c6 := block_cell (i := 6) hB0 rfl
  have d0 := block_cell (i := 0) hB1 rfl
  have d1 := block_cell (i := 1) hB1 rfl
  have d2 := block_cell (i := 2) hB1 rfl
  have d3 := block_cell (i := 3) hB1 rfl
  have d4 := block_cell (i := 4) hB1 rfl
  have d5 := block_cell (i := 5) hB1 rfl
  have d6 := block_cell (i := 6) hB1 rfl
  have f0 := fun i => block_free (i := i) hB0
  have f1 := fun i => block_free (i := i) hB1
  have s0 := block_lt hB0
  have s1 := block_lt hB1
  have B1 := Lib.hid hB1
  clear hB0 hB1
  clear hbw HT
  go_wp2
  refine bodyPost_ret (got_back rfl rfl (seven (by first | exact B1.out | exact block_other (by omega) _ B1.out | exact block_other (by omega) _ (block_other (by omega) _ B1.out)) _ _ _ _ _ _ _)) rfl ?_
  refine fieldGives_of (g := ⟨k, a, b, n, m, p⟩) HF.out rfl HW.out rfl (fun h => nomatch h) ?_
  repeat (with_reducible refine set_below ?_ (by omega) _)
  exact HB.out
set_option maxRecDepth 20000 in
set_option maxHeartbeats 4000000 in
theorem field_115h (e : Ev) (bad p : Nat) (s : ByteArray) (w : World) (hs : s.size ≤ 140737488351232) (hnn : bl s ≠ noneL) (hpq : parseL (bl s) = (p, 1)) (he : s.toList.isEmpty = false) (h0 : bad ≠ 0) :
    Calls Tryd.prog 37 #[gotV e bad, .int .u8 115, .string s] w (FieldGives e bad 115 (bl s) w) := by
  obtain ⟨k, a, b, n, m, u⟩ := e
  have hbe : (s.toList == [110, 111, 110, 101]) = false := by
    cases h : (s.toList == [110, 111, 110, 101]) with
    | false => rfl
    | true => exact absurd ((toList_none s).1 h) hnn
  have HN := Lib.hid hnn
  clear hnn
  have HF := Lib.hid ((ferr_set HN.out).trans (setErr_at he hpq))
  have HW := Lib.hid (worse_1' h0)
  have hb0 : ((bad : Int) == 0) = false := by simp; omega
  clear h0
  have HPQ := Lib.hid hpq
  clear hpq

  unfold gotV
  go_enter Tryd.func37, Tryd.ntmps37
  go_wp2_with fail
  refine (refParse_at s _ (by unfold maxLen; omega) HPQ.out rfl).mono ?_
  rintro e w1 ⟨rfl, hbw⟩
  have HT := Lib.hid (two_blocks hbw)
  have hB0 := HT.out.1
  have hB1 := HT.out.2.1
  have HB := Lib.hid HT.out.2.2
  have c0 := block_cell (i := 0) hB0 rfl
  have c1 := block_cell (i := 1) hB0 rfl
  have c2 := block_cell (i := 2) hB0 rfl
  have c3 := block_cell (i := 3) hB0 rfl
  have c4 := block_cell (i := 4) hB0 rfl
  have c5 := block_cell (i := 5) hB0 rfl
  have c6 := block_cell (i := 6) hB0 rfl
  have d0 := block_cell (i := 0) hB1 rfl
  have d1 := block_cell (i := 1) hB1 rfl
  have d2 := block_cell (i := 2) hB1 rfl
  have d3 := block_cell (i := 3) hB1 rfl
  have d4 := block_cell (i := 4) hB1 rfl
  have d5 := block_cell (i := 5) hB1 rfl
  have d6 := block_cell (i := 6) hB1 rfl
  have f0 := fun i => block_free (i := i) hB0
  have f1 := fun i => block_free (i := i) hB1
  have s0 := block_lt hB0
  have s1 := block_lt hB1
  have B1 := Lib.hid hB1
  clear hB0 hB1
  clear hbw HT
  go_wp2
  refine bodyPost_ret (got_back rfl rfl (seven (by first | exact B1.out | exact block_other (by omega) _ B1.out | exact block_other (by omega) _ (block_other (by omega) _ B1.out)) _ _ _ _ _ _ _)) rfl ?_
  refine fieldGives_of (g := ⟨k, a, b, n, m, p⟩) HF.out rfl HW.out rfl (fun h => nomatch h) ?_
  repeat (with_reducible refine set_below ?_ (by omega) _)
  exact HB.out
theorem field_115 (e : Ev) (bad : Nat) (s : ByteArray) (w : World) (hs : s.size ≤ 140737488351232) :
    Calls Tryd.prog 37 #[gotV e bad, .int .u8 115, .string s] w (FieldGives e bad 115 (bl s) w) := by
  by_cases hn : bl s = noneL
  · exact field_115n e bad s w hn
  · cases he : s.toList.isEmpty with
    | true => exact field_115e e bad (parseL (bl s)).1 s w hs hn (parseL (bl s)).2 rfl he
    | false =>
      have hp : parseL (bl s) = ((parseL (bl s)).1, (parseL (bl s)).2) := rfl
      rcases parse_err (bl s) with h | h | h
      · rw [h] at hp; exact field_115z e bad _ s w hs hn hp he
      · rw [h] at hp
        by_cases h0 : bad = 0
        · exact field_115g e bad _ s w hs hn hp he h0
        · exact field_115h e bad _ s w hs hn hp he h0
      · rw [h] at hp; exact field_115f e bad _ s w hs hn hp he
theorem field_any (e : Ev) (bad c : Nat) (s : ByteArray) (w : World) (hs : s.size ≤ 140737488351232) (hc : c = 97 ∨ c = 98 ∨ c = 110 ∨ c = 109 ∨ c = 115) :
    Calls Tryd.prog 37 #[gotV e bad, .int .u8 (c : Int), .string s] w (FieldGives e bad c (bl s) w) := by
  rcases hc with rfl | rfl | rfl | rfl | rfl
  · exact field_97 e bad s w hs
  · exact field_98 e bad s w hs
  · exact field_110 e bad s w hs
  · exact field_109 e bad s w hs
  · exact field_115 e bad s w hs
end Go.Proofs.YtcboopkalpmglaaDoor
