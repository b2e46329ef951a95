/- A row of the call's own, of tasks: what an append leaves, and that it reads as a list. Conditions: as each says. -/
import Derived.Test.YtkgpjcoapopgmaaOpen
import Derived.Maps.AppendAt
import Derived.Laws.AppendOwnNone
import Derived.IntWalk
namespace Go.Proofs.Ytkgpjcoapopgmaa
set_option linter.unusedVariables false
open Go.RowKit
def cdl (c : Cd) : List Value := [.int .i64 c.id, .int .u64 c.w, .int .u64 c.m, .bool c.r]
def cdls (zs : List Cd) : List Value := zs.flatMap cdl
theorem cdls_length (zs : List Cd) : (cdls zs).length = zs.length * 4 := by
  induction zs with
  | nil => rfl
  | cons z zs ih => show (cdl z ++ cdls zs).length = _; rw [List.length_append, ih, List.length_cons]; show 4 + _ = _; omega
theorem cdls_snoc (zs : List Cd) (c : Cd) : cdls (zs ++ [c]) = cdls zs ++ cdl c := by simp [cdls]
theorem cdls_at (zs : List Cd) (j q : Nat) (hj : j < zs.length) (hq : q < 4) : (cdls zs)[j * 4 + q]? = (cdl (cat zs j))[q]? := by
  induction zs generalizing j with
  | nil => simp at hj
  | cons z zs ih =>
    cases j with
    | zero =>
      have h4 : (cdl z).length = 4 := rfl
      simp only [cdls, List.flatMap_cons, Nat.zero_mul, Nat.zero_add]
      rw [List.getElem?_append_left (by omega)]
      simp [cat]
    | succ j =>
      have h4 : (cdl z).length = 4 := rfl
      have e := ih j (by simpa using hj)
      simp only [cdls, List.flatMap_cons] at e ⊢
      rw [List.getElem?_append_right (by omega), h4, show (j + 1) * 4 + q - 4 = j * 4 + q by omega, e]
      simp [cat]
/-- A row of the call's own, of tasks. -/
def OwnC (W : World) (B E : Nat) (v : Value) (n : Nat) (zs : List Cd) : Prop := W.ownsRow B E 4 v n (cdls zs)
theorem ownc_nil (w : World) (B E : Nat) : OwnC w B E (.slice none 0 0) 0 [] := ⟨rfl, .inl ⟨rfl, rfl⟩⟩
theorem OwnC.cds {W : World} {B E n : Nat} {v : Value} {zs : List Cd} (h : OwnC W B E v n zs) : zs.length = n ∧ ∃ a cap, v = .slice a n cap ∧ n ≤ cap ∧ cap ≤ maxLen ∧ Cds W.heap.size W (.slice a n cap) zs := by
  have hl : zs.length = n := by have := h.1; rw [cdls_length] at this; omega
  subst hl
  refine ⟨rfl, ?_⟩
  have hown := h
  unfold OwnC at hown
  rcases h.2 with ⟨rfl, hn⟩ | ⟨g, cap, cur, rfl, hg, hc, hn, hm, hs, ht⟩
  · have : zs = [] := List.length_eq_zero_iff.1 hn
    subst this
    exact ⟨none, 0, rfl, Nat.le_refl _, by unfold maxLen; omega, .inl ⟨⟨_, _, rfl⟩, rfl⟩⟩
  · refine ⟨_, cap, rfl, hn, hm, .inr ⟨g, 0, cap, rfl, (Array.getElem?_eq_some_iff.1 hc).1, fun j hj => ?_⟩⟩
    have k := fun q (hq : q < 4) => (hown.cellAt (j * 4 + q) (by omega)).trans (cdls_at zs j q hj hq)
    simp only [Nat.zero_add]
    exact ⟨by simpa [cdl] using k 0 (by omega), by simpa [cdl] using k 1 (by omega), by simpa [cdl] using k 2 (by omega), by simpa [cdl] using k 3 (by omega)⟩
theorem OwnC.drew {W W' : World} {B E n : Nat} {v : Value} {zs : List Cd} (hd : Drew W W') (h : OwnC W B E v n zs) : OwnC W' B E v n zs := by
  obtain ⟨k, rfl⟩ := hd
  induction k with
  | zero => exact h
  | succ k ih => exact ih
theorem Try.info35 : (Try.prog.info? 35).map (fun i => (i.zero, i.size, i.bytes)) = some (some (.agg #[.int .i64 0, .int .u64 0, .int .u64 0, .bool false]), 4, 32) := by kernel_rfl
theorem Try.info37 : (Try.prog.info? 37).map (fun i => (i.zero, i.size, i.bytes)) = some (some (.agg #[.int .i64 0, .int .u64 0, .int .u64 0, .bool false]), 4, 32) := by kernel_rfl
/-- One task more. -/
theorem append_cd {T E : TypeId} (hT : Try.prog.underlying T = some (.slice E)) (hE : (Try.prog.info? E).map (fun i => (i.zero, i.size, i.bytes)) = some (some (.agg #[.int .i64 0, .int .u64 0, .int .u64 0, .bool false]), 4, 32)) {ops : Array Oper} {rest : List Oper} {o : Oper} {a : Act} {Q : Exit → Act → World → Prop} {w : World} (hgd : o.guard = none) (s x : Operand)
    (ho : o.op = .call { callee := .builtin .append, args := #[s, x], argTypes := #[T, T] })
    (base : Nat) (v : Value) (n : Nat) (zs : List Cd) (hs : a.eval s = v) (hown : OwnC w base E v n zs) (b c : Nat) (y : Cd) (hx : a.eval x = .slice (some ⟨b, 0, none⟩) 1 c)
    (h0 : w.cell? ⟨b, 0, none⟩ = some (.int .i64 y.id)) (h1 : w.cell? ⟨b, 1, none⟩ = some (.int .u64 y.w)) (h2 : w.cell? ⟨b, 2, none⟩ = some (.int .u64 y.m)) (h3 : w.cell? ⟨b, 3, none⟩ = some (.bool y.r))
    (hn : n ≤ 1000) (hbase : base ≤ w.heap.size)
    (h : ∀ v' w', OwnC w' base E v' (n + 1) (zs ++ [y]) → w.grownBy w' v.ownBlock → wpList Try.prog ops Q rest (a.put o.dst v') w') : wpList Try.prog ops Q (o :: rest) a w := by
  obtain ⟨i0, hi, hz0, hz1, hz2⟩ := info_parts hE
  refine wpList_append_own _ hgd s x T ho base E i0 _ 4 32 hT hi hz0 hz1 hz2 rfl (by decide) v n _ hs hown ⟨b, 0, none⟩ 1 c (cdl y) hx rfl ?_ ?_ (by unfold maxLen; omega) (by omega) hbase ?_
  · intro j u hj
    rw [addr_add, Nat.zero_add]
    have hj4 : j < 4 := by have := (List.getElem?_eq_some_iff.1 hj).1; simpa [cdl] using this
    have : j = 0 ∨ j = 1 ∨ j = 2 ∨ j = 3 := by omega
    rcases this with rfl | rfl | rfl | rfl
    · rw [h0]; simpa [cdl] using hj
    · rw [h1]; simpa [cdl] using hj
    · rw [h2]; simpa [cdl] using hj
    · rw [h3]; simpa [cdl] using hj
  · intro u hu
    simp [cdl] at hu
    rcases hu with rfl | rfl | rfl | rfl <;> rfl
  · intro v' w' g1 g2 _
    exact h v' w' (by unfold OwnC; rw [cdls_snoc]; exact g1) g2
theorem step_append_cd {T E : TypeId} (hT : Try.prog.underlying T = some (.slice E)) (hE : (Try.prog.info? E).map (fun i => (i.zero, i.size, i.bytes)) = some (some (.agg #[.int .i64 0, .int .u64 0, .int .u64 0, .bool false]), 4, 32)) {ops : Array Oper} {o : Oper} {a : Act} {K : Act → World → Prop} {Q : Exit → Act → World → Prop} {EE : Prop} {w : World} (hgd : o.guard = none) (s x : Operand)
    (ho : o.op = .call { callee := .builtin .append, args := #[s, x], argTypes := #[T, T] })
    (base : Nat) (v : Value) (n : Nat) (zs : List Cd) (hs : a.eval s = v) (hown : OwnC w base E v n zs) (b c : Nat) (y : Cd) (hx : a.eval x = .slice (some ⟨b, 0, none⟩) 1 c)
    (h0 : w.cell? ⟨b, 0, none⟩ = some (.int .i64 y.id)) (h1 : w.cell? ⟨b, 1, none⟩ = some (.int .u64 y.w)) (h2 : w.cell? ⟨b, 2, none⟩ = some (.int .u64 y.m)) (h3 : w.cell? ⟨b, 3, none⟩ = some (.bool y.r))
    (hn : n ≤ 1000) (hbase : base ≤ w.heap.size)
    (h : ∀ v' w', OwnC w' base E v' (n + 1) (zs ++ [y]) → w.grownBy w' v.ownBlock → K (a.put o.dst v') w') : if Region.wanted o (yielded ops a.tmps) = true then Oper.wp Try.prog o a w K Q else EE := by
  have hw : Region.wanted o (yielded ops a.tmps) = true := by simp [Region.wanted, hgd]
  rw [if_pos hw]
  obtain ⟨i0, hi, hz0, hz1, hz2⟩ := info_parts hE
  refine wp_append_own _ s x T ho base E i0 _ 4 32 hT hi hz0 hz1 hz2 rfl (by decide) v n _ hs hown ⟨b, 0, none⟩ 1 c (cdl y) hx rfl ?_ ?_ (by unfold maxLen; omega) (by omega) hbase ?_
  · intro j u hj
    rw [addr_add, Nat.zero_add]
    have hj4 : j < 4 := by have := (List.getElem?_eq_some_iff.1 hj).1; simpa [cdl] using this
    have : j = 0 ∨ j = 1 ∨ j = 2 ∨ j = 3 := by omega
    rcases this with rfl | rfl | rfl | rfl
    · rw [h0]; simpa [cdl] using hj
    · rw [h1]; simpa [cdl] using hj
    · rw [h2]; simpa [cdl] using hj
    · rw [h3]; simpa [cdl] using hj
  · intro u hu
    simp [cdl] at hu
    rcases hu with rfl | rfl | rfl | rfl <;> rfl
  · intro v' w' g1 g2 _
    exact h v' w' (by unfold OwnC; rw [cdls_snoc]; exact g1) g2
theorem far_own {W : World} {B E n b : Nat} {v : Value} {zs : List Cd} (h : OwnC W B E v n zs) (hb : b < B) : some b ≠ v.ownBlock := fun e => by have := (World.ownsRow.lt h b e.symm).1; omega
theorem chosen_none {zs : List Cd} {gap p : Int} (h : ∀ q, q < zs.length → mayP zs gap p q = false) : chosen zs gap p = -1 := by
  rcases chosen_spec zs gap p with ⟨h1, _⟩ | ⟨k, _, h2, h3, _⟩
  · exact h1
  · rw [h k h2] at h3; cases h3
theorem choose_no (a : Option Addr) (len cap : Nat) (zs : List Cd) (fr to p : Int) (w : World) (hl : zs.length = len) (hI : Cds w.heap.size w (.slice a len cap) zs) (hok : CdsOk zs) (hlen : len ≤ 1000) (hf : U64 fr) (ht : U64 to) (h : chosen zs (gapI fr to) p = -1) :
    Calls Try.prog 11 #[.slice a len cap, .int .u64 fr, .int .u64 to, .int .i64 p] w fun e w' => e = .returned (.tuple #[.int .i64 0, .bool false]) ∧ Below w.heap.size w w' :=
  (choose_any a len cap zs fr to p w hl hI hok hlen hf ht).mono fun e w' ⟨⟨u, v, he, hs⟩, hb⟩ => by
    rcases hs with ⟨_, rfl, rfl⟩ | ⟨q, q1, _⟩
    · exact ⟨he, hb⟩
    · omega
/-- The same tasks, all of which run. -/
def runC (c : Cd) : Cd := ⟨c.id, c.w, c.m, true⟩
def runTo (zs : List Cd) (k : Nat) : List Cd := (zs.take k).map runC
theorem runTo_succ {zs : List Cd} {k : Nat} (h : k < zs.length) : runTo zs (k + 1) = runTo zs k ++ [⟨(cat zs k).id, (cat zs k).w, (cat zs k).m, true⟩] := by
  unfold runTo
  rw [List.take_succ_eq_append_getElem h, List.map_append]
  have : cat zs k = zs[k] := by unfold cat; rw [List.getElem?_eq_getElem h]; rfl
  rw [this]; rfl
theorem runTo_length {zs : List Cd} {k : Nat} (h : k ≤ zs.length) : (runTo zs k).length = k := by simp [runTo]; omega
theorem cat_run (zs : List Cd) (k q : Nat) : cat (runTo zs k) q = runC (cat zs q) ∨ cat (runTo zs k) q = ⟨0, 0, 0, false⟩ := by
  unfold runTo cat
  rw [List.getElem?_map]
  by_cases h : q < k
  · rw [List.getElem?_take, if_pos h]
    cases zs[q]? with
    | none => exact .inr rfl
    | some x => exact .inl rfl
  · rw [List.getElem?_take, if_neg h]; exact .inr rfl
theorem run_ok {zs : List Cd} (h : CdsOk zs) (k : Nat) : CdsOk (runTo zs k) := fun q => by
  rcases cat_run zs k q with e | e <;> rw [e]
  · exact h q
  · exact ⟨⟨by simp, by simp⟩, ⟨by simp, by simp⟩⟩
theorem run_none (zs : List Cd) (k : Nat) (gap p : Int) : chosen (runTo zs k) gap p = -1 := chosen_none fun q _ => by
  unfold mayP
  rcases cat_run zs k q with e | e <;> rw [e]
  · exact mayC_runs rfl
  · exact mayC_none (by simp)
theorem gap_none {zs : List Cd} (hok : CdsOk zs) {a b p : Int} (h : a ≤ b) : chosen zs (gapI a b) p = -1 := chosen_none fun q _ => by
  have e : gapI a b ≤ 0 := by unfold gapI; split <;> omega
  have := (hok q).1.1
  exact mayC_gap (by omega)
theorem far_none (zs : List Cd) (gap : Int) : chosen zs gap 64 = -1 := chosen_none fun q _ => mayC_far (by omega)
theorem below_none (zs : List Cd) (gap : Int) : chosen zs gap (-1) = -1 := chosen_none fun q _ => mayC_neg (by omega)
theorem empty_none (gap p : Int) : chosen [] gap p = -1 := chosen_none fun q h => by simp at h
def backTo (zs : List Cd) (j : Nat) : List Cd := (zs.drop j).reverse
theorem backTo_pred {zs : List Cd} {j : Nat} (h : j < zs.length) : backTo zs j = backTo zs (j + 1) ++ [⟨(cat zs j).id, (cat zs j).w, (cat zs j).m, (cat zs j).r⟩] := by
  unfold backTo
  rw [List.drop_eq_getElem_cons h, List.reverse_cons]
  have : cat zs j = zs[j] := by unfold cat; rw [List.getElem?_eq_getElem h]; rfl
  rw [this]
theorem cat_reverse {zs : List Cd} {n q : Nat} (hn : zs.length = n) (hq : q < n) : cat zs.reverse q = cat zs (n - 1 - q) := by
  unfold cat; rw [List.getElem?_reverse (by omega), hn]
theorem reverse_ok {zs : List Cd} (h : CdsOk zs) : CdsOk zs.reverse := fun q => by
  by_cases hq : q < zs.length
  · rw [cat_reverse rfl hq]; exact h _
  · have : cat zs.reverse q = ⟨0, 0, 0, false⟩ := by unfold cat; rw [List.getElem?_eq_none (by simp; omega)]; rfl
    rw [this]; exact ⟨⟨by simp, by simp⟩, ⟨by simp, by simp⟩⟩
theorem order_law {zs : List Cd} {gap p : Int} {n : Nat} (hn : zs.length = n) (hd : ∀ a b, a < n → b < a → (cat zs a).id ≠ (cat zs b).id) :
    (chosen zs gap p = -1 ∧ chosen zs.reverse gap p = -1) ∨ ∃ k : Nat, k < n ∧ chosen zs gap p = k ∧ chosen zs.reverse gap p = ((n - 1 - k : Nat) : Int) := by
  have hr : zs.reverse.length = n := by simp [hn]
  have hmay : ∀ q, q < n → mayP zs.reverse gap p q = mayP zs gap p (n - 1 - q) := fun q hq => by unfold mayP; rw [cat_reverse hn hq]
  have hne : ∀ a b, a < n → b < n → a ≠ b → (cat zs a).id ≠ (cat zs b).id := fun a b ha hb h => by
    rcases Nat.lt_or_gt_of_ne h with h | h
    · exact fun e => hd b a hb h e.symm
    · exact hd a b ha h
  rcases chosen_spec zs gap p with ⟨h1, h2⟩ | ⟨k, h1, h2, h3, h4⟩
  · refine .inl ⟨h1, chosen_none fun q hq => ?_⟩
    rw [hr] at hq
    rw [hmay q hq]; exact h2 _ (by omega)
  · rw [hn] at h2
    refine .inr ⟨k, h2, h1, ?_⟩
    rcases chosen_spec zs.reverse gap p with ⟨g1, g2⟩ | ⟨j, g1, g2, g3, g4⟩
    · have := g2 (n - 1 - k) (by omega)
      rw [hmay _ (by omega), show n - 1 - (n - 1 - k) = k by omega, h3] at this; cases this
    · rw [hr] at g2
      by_cases e : j = n - 1 - k
      · rw [g1, e]
      · have a1 := h4 (n - 1 - j) (by omega) (by omega) (by rw [← hmay j g2]; exact g3)
        have a2 := g4 (n - 1 - k) (by omega) (fun h => e h.symm) (by rw [hmay _ (by omega), show n - 1 - (n - 1 - k) = k by omega]; exact h3)
        have a3 : aheadC zs.reverse gap j (n - 1 - k) = aheadC zs gap (n - 1 - j) k := by
          have hi := hne (n - 1 - j) k (by omega) h2 (by omega)
          unfold aheadC
          rw [cat_reverse hn g2, cat_reverse hn (show n - 1 - k < n by omega), show n - 1 - (n - 1 - k) = k by omega, if_pos hi, if_pos hi]
        rw [a3, ahead_total zs gap (by omega), a1] at a2
        cases a2
theorem empty_ok : CdsOk [] := fun k => ⟨⟨by simp [cat], by simp [cat]⟩, ⟨by simp [cat], by simp [cat]⟩⟩
end Go.Proofs.Ytkgpjcoapopgmaa
