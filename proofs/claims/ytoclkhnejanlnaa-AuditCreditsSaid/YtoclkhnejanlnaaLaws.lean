/- Plain laws of sound snapshots: no task runs twice, as many run as Ps have one, and what breaks each rule. No condition. -/
import Derived.Test.YtoclkhnejanlnaaBase
import Derived.Laws.BitsAllLaws
namespace Go.Proofs.Ytoclkhnejanlnaa
open Go.RowKit
/-- How many below n. -/
def cnt (P : Nat → Bool) : Nat → Nat
  | 0 => 0
  | n + 1 => cnt P n + if P n = true then 1 else 0
theorem cnt_le (P : Nat → Bool) (n : Nat) : cnt P n ≤ n := by
  induction n with
  | zero => exact Nat.le_refl _
  | succ n ih => unfold cnt; split <;> omega
theorem cnt_drop {P : Nat → Bool} {n i : Nat} (hi : i < n) (h : P i = true) : cnt P n = cnt (fun q => P q && q != i) n + 1 := by
  induction n with
  | zero => omega
  | succ n ih =>
    unfold cnt
    by_cases e : i = n
    · subst e
      have h1 : ∀ m, m ≤ i → cnt P m = cnt (fun q => P q && q != i) m := by
        intro m
        induction m with
        | zero => intro _; rfl
        | succ m ih2 =>
          intro hm
          unfold cnt
          rw [ih2 (by omega)]
          have : (m != i) = true := by simp; omega
          simp [this]
      rw [← h1 i (Nat.le_refl _), if_pos h, if_neg (by simp)]
    · rw [ih (by omega)]
      have : (n != i) = true := by simp; omega
      simp [this]; omega
theorem cnt_inj {P Q : Nat → Bool} {n m : Nat} (f : Nat → Nat) (h : ∀ p, p < n → P p = true → f p < m ∧ Q (f p) = true) (hi : ∀ p q, p < n → q < n → P p = true → P q = true → f p = f q → p = q) : cnt P n ≤ cnt Q m := by
  induction n generalizing Q with
  | zero => exact Nat.zero_le _
  | succ n ih =>
    show cnt P n + (if P n = true then 1 else 0) ≤ cnt Q m
    by_cases hp : P n = true
    · rw [if_pos hp]
      obtain ⟨h1, h2⟩ := h n (by omega) hp
      rw [cnt_drop h1 h2]
      have := ih (Q := fun q => Q q && q != f n) (fun p hpn hpp => by
        obtain ⟨a, b⟩ := h p (by omega) hpp
        refine ⟨a, ?_⟩
        have : (f p != f n) = true := by
          have : f p ≠ f n := fun e => by have := hi p n (by omega) (by omega) hpp hp e; omega
          simpa using this
        rw [b, this]; rfl) (fun p q a b => hi p q (by omega) (by omega))
      omega
    · rw [if_neg hp]
      have := ih (fun p a => h p (by omega)) (fun p q a b => hi p q (by omega) (by omega))
      omega

/-- What a sound snapshot says of a P that has a task. -/
structure On (s : Sn) (p : Nat) (t : Nat) : Prop where
  run : rat s.run p = t
  lt : t < s.ts.length
  st : (tat s.ts t).st = 3
  at_ : (tat s.ts t).p = p
  mask : hasB (tat s.ts t).m p = true
theorem sound_on {s : Sn} (h : soundI s = 0) {p : Nat} (hp : p < s.run.length) (h0 : 0 ≤ rat s.run p) : ∃ t, On s p t := by
  have hr := sound_zero h
  obtain ⟨t, ht⟩ := Int.eq_ofNat_of_zero_le h0
  have r3 : offN s (rat s.run p) = false := anyB_false.1 (hr 3 (by omega)) p hp
  have hlt : t < s.ts.length := by
    unfold offN at r3; simp at r3; omega
  have hon : onB s p = true := by unfold onB; rw [ht]; simp; omega
  have hT : onT s p = tat s.ts t := by unfold onT; rw [ht]; rfl
  have r4 := anyB_false.1 (hr 4 (by omega)) p hp
  have r6 := anyB_false.1 (hr 6 (by omega)) p hp
  simp only [hon, hT, Bool.true_and] at r4 r6
  unfold wrongH at r4
  unfold maskH at r6
  simp at r4 r6
  exact ⟨t, ht, hlt, r4.1, r4.2, r6⟩
theorem sound_run {s : Sn} (h : soundI s = 0) {i : Nat} (hi : i < s.ts.length) (h3 : (tat s.ts i).st = 3) : ∃ p : Nat, (tat s.ts i).p = p ∧ p < s.run.length ∧ rat s.run p = i := by
  have r5 := anyB_false.1 (sound_zero h 5 (by omega)) i hi
  simp only [h3, runsB] at r5
  simp at r5
  obtain ⟨h1, h2, h4⟩ := r5
  obtain ⟨p, hp⟩ := Int.eq_ofNat_of_zero_le h1
  rw [hp] at h2 h4
  exact ⟨p, hp, by omega, by simpa using h4⟩
theorem on_once {s : Sn} {p q t : Nat} (h : On s p t) (k : On s q t) : p = q := by have := h.at_; have := k.at_; omega
/-- As many are Running as Ps have one. -/
theorem sound_count {s : Sn} (h : soundI s = 0) : cnt (fun p => decide (0 ≤ rat s.run p)) s.run.length = cnt (fun i => (tat s.ts i).st == 3) s.ts.length := by
  apply Nat.le_antisymm
  · refine cnt_inj (fun p => (rat s.run p).toNat) (fun p hp h0 => ?_) (fun p q hp hq h0 h1 e => ?_)
    · obtain ⟨t, ht⟩ := sound_on h hp (by simpa using h0)
      rw [ht.run]; exact ⟨ht.lt, by simpa using ht.st⟩
    · obtain ⟨t, ht⟩ := sound_on h hp (by simpa using h0)
      obtain ⟨u, hu⟩ := sound_on h hq (by simpa using h1)
      rw [ht.run, hu.run] at e
      obtain rfl : t = u := by simpa using e
      exact on_once ht hu
  · refine cnt_inj (fun i => (tat s.ts i).p.toNat) (fun i hi h3 => ?_) (fun i j hi hj h3 h4 e => ?_)
    · obtain ⟨p, h1, h2, h5⟩ := sound_run h hi (by simpa using h3)
      rw [h1]; exact ⟨h2, by simp [h5]⟩
    · obtain ⟨p, h1, h2, h5⟩ := sound_run h hi (by simpa using h3)
      obtain ⟨q, g1, g2, g5⟩ := sound_run h hj (by simpa using h4)
      rw [h1, g1] at e
      obtain rfl : p = q := by simpa using e
      omega
theorem sound_sizes {s : Sn} (h : soundI s = 0) : s.run.length ≤ 64 ∧ s.ts.length ≤ 64 ∧ s.gs.length ≤ 32 ∧ 0 < s.gs.length := by
  have := sound_zero h 0 (by omega)
  simp [rule, manyB] at this
  have hne : s.gs.length ≠ 0 := by simpa using this.2.2.2
  omega
theorem sound_root {s : Sn} (h : soundI s = 0) : (gat s.gs 0).par = -1 ∧ ∀ g, g < s.gs.length → (0 : Int) ∈ above s.gs g := by
  have h1 := sound_zero h 1 (by omega)
  simp only [rule, looseB, Bool.or_eq_false_iff] at h1
  refine ⟨by simpa using h1.1, fun g hg => ?_⟩
  have := anyB_false.1 h1.2 g hg
  exact underB_iff.1 (by simpa using this)
theorem sound_group {s : Sn} (h : soundI s = 0) {i : Nat} (hi : i < s.ts.length) : ∃ g : Nat, (tat s.ts i).g = g ∧ g < s.gs.length := by
  have := anyB_false.1 (sound_zero h 2 (by omega)) i hi
  simp [oddT] at this
  obtain ⟨g, hg⟩ := Int.eq_ofNat_of_zero_le this.2.2.1
  exact ⟨g, hg, by omega⟩

/-! ### What breaks a rule -/
theorem rat_set {l : List Int} {k : Nat} {v : Int} (hk : k < l.length) (p : Nat) : rat (l.set k v) p = if p = k then v else rat l p := by
  unfold rat; rw [List.getElem?_set]; by_cases e : p = k
  · subst e; simp [hk]
  · rw [if_neg (fun h : k = p => e h.symm), if_neg e]
theorem tat_set {l : List Tk} {k : Nat} {v : Tk} (hk : k < l.length) (p : Nat) : tat (l.set k v) p = if p = k then v else tat l p := by
  unfold tat; rw [List.getElem?_set]; by_cases e : p = k
  · subst e; simp [hk]
  · rw [if_neg (fun h : k = p => e h.symm), if_neg e]
theorem gat_set {l : List Gr} {k : Nat} {v : Gr} (hk : k < l.length) (p : Nat) : gat (l.set k v) p = if p = k then v else gat l p := by
  unfold gat; rw [List.getElem?_set]; by_cases e : p = k
  · subst e; simp [hk]
  · rw [if_neg (fun h : k = p => e h.symm), if_neg e]
theorem any_same {n : Nat} {P Q : Nat → Bool} (h : ∀ q, q < n → P q = Q q) (hq : anyB n Q = false) : anyB n P = false := anyB_false.2 fun q hq' => (h q hq').trans (anyB_false.1 hq q hq')
/-- Asleep. -/
theorem break_asleep {s : Sn} (h : soundI s = 0) {k t : Nat} (hk : k < s.run.length) (ht : On s k t) {s' : Sn} (h1 : s'.run = s.run) (h2 : s'.gs = s.gs) (h3 : s'.ts = s.ts.set t ⟨1, (tat s.ts t).p, (tat s.ts t).m, (tat s.ts t).g⟩) : soundI s' = 5 := by
  have hr := sound_zero h
  have hl : s'.ts.length = s.ts.length := by rw [h3]; simp
  have hT : ∀ q, tat s'.ts q = if q = t then ⟨1, (tat s.ts t).p, (tat s.ts t).m, (tat s.ts t).g⟩ else tat s.ts q := fun q => by rw [h3]; exact tat_set ht.lt q
  refine sound_at (k := 4) (by omega) ?_ fun i hi => ?_
  · refine anyB_true (q := k) (by rw [h1]; exact hk) ?_
    have hon : onB s' k = true := by unfold onB; rw [h1, hl, ht.run]; simp; exact ht.lt
    have hot : onT s' k = ⟨1, (tat s.ts t).p, (tat s.ts t).m, (tat s.ts t).g⟩ := by unfold onT; rw [h1, ht.run, Int.toNat_natCast, hT, if_pos rfl]
    simp only [hon, hot]; rfl
  · have : i = 0 ∨ i = 1 ∨ i = 2 ∨ i = 3 := by omega
    rcases this with rfl | rfl | rfl | rfl
    · have := hr 0 (by omega); unfold rule manyB at this ⊢; rw [h1, h2, hl]; exact this
    · have := hr 1 (by omega); unfold rule looseB at this ⊢; rw [h2]; exact this
    · have := hr 2 (by omega); unfold rule oddB at this ⊢; rw [hl]
      refine any_same (fun q hq => ?_) this
      rw [hT]; unfold oddT; rw [h2]
      by_cases e : q = t
      · subst e
        have hq2 := ht.st
        rw [if_pos rfl, hq2]; simp
      · rw [if_neg e]
    · have := hr 3 (by omega); unfold rule offB at this ⊢; rw [h1]
      exact any_same (fun q _ => by unfold offN; rw [hl]) this
/-- Off its mask. -/
theorem break_off {s : Sn} (h : soundI s = 0) {k t : Nat} (hk : k < s.run.length) (ht : On s k t) {s' : Sn} (h1 : s'.run = s.run) (h2 : s'.gs = s.gs) (h3 : s'.ts = s.ts.set t ⟨(tat s.ts t).st, (tat s.ts t).p, 0, (tat s.ts t).g⟩) (h0 : hasB 0 k = false) : soundI s' = 7 := by
  have hr := sound_zero h
  have hl : s'.ts.length = s.ts.length := by rw [h3]; simp
  have hT : ∀ q, tat s'.ts q = if q = t then ⟨(tat s.ts t).st, (tat s.ts t).p, 0, (tat s.ts t).g⟩ else tat s.ts q := fun q => by rw [h3]; exact tat_set ht.lt q
  have hst : ∀ q, (tat s'.ts q).st = (tat s.ts q).st ∧ (tat s'.ts q).p = (tat s.ts q).p ∧ (tat s'.ts q).g = (tat s.ts q).g := fun q => by
    rw [hT]; by_cases e : q = t
    · subst e; rw [if_pos rfl]; exact ⟨rfl, rfl, rfl⟩
    · rw [if_neg e]; exact ⟨rfl, rfl, rfl⟩
  have hon : ∀ q, onB s' q = onB s q := fun q => by unfold onB; rw [h1, hl]
  refine sound_at (k := 6) (by omega) ?_ fun i hi => ?_
  · refine anyB_true (q := k) (by rw [h1]; exact hk) ?_
    have hon' : onB s' k = true := by unfold onB; rw [h1, hl, ht.run]; simp; exact ht.lt
    have hot : (onT s' k).m = 0 := by unfold onT; rw [h1, ht.run, Int.toNat_natCast, hT, if_pos rfl]
    simp only [hon', maskH, hot, h0]; rfl
  · have : i = 0 ∨ i = 1 ∨ i = 2 ∨ i = 3 ∨ i = 4 ∨ i = 5 := by omega
    rcases this with rfl | rfl | rfl | rfl | rfl | rfl
    · have := hr 0 (by omega); unfold rule manyB at this ⊢; rw [h1, h2, hl]; exact this
    · have := hr 1 (by omega); unfold rule looseB at this ⊢; rw [h2]; exact this
    · have := hr 2 (by omega); unfold rule oddB at this ⊢; rw [hl]
      exact any_same (fun q hq => by unfold oddT; rw [h2, (hst q).1, (hst q).2.2]) this
    · have := hr 3 (by omega); unfold rule offB at this ⊢; rw [h1]
      exact any_same (fun q _ => by unfold offN; rw [hl]) this
    · have := hr 4 (by omega); unfold rule someB at this ⊢; rw [h1]
      exact any_same (fun q _ => by rw [hon]; unfold wrongH onT; rw [h1, (hst _).1, (hst _).2.1]) this
    · have := hr 5 (by omega); unfold rule lostB at this ⊢; rw [hl]
      exact any_same (fun q _ => by unfold runsB; rw [h1, (hst _).1, (hst _).2.1]) this
/-- Elsewhere: its P has none. -/
theorem break_gone {s : Sn} (h : soundI s = 0) {k t : Nat} (hk : k < s.run.length) (ht : On s k t) {s' : Sn} (h1 : s'.run = s.run.set k (-1)) (h2 : s'.gs = s.gs) (h3 : s'.ts = s.ts) : soundI s' = 6 := by
  have hr := sound_zero h
  have hl : s'.run.length = s.run.length := by rw [h1]; simp
  have hR : ∀ q, rat s'.run q = if q = k then -1 else rat s.run q := fun q => by rw [h1]; exact rat_set hk q
  refine sound_at (k := 5) (by omega) ?_ fun i hi => ?_
  · refine anyB_true (q := t) (by rw [h3]; exact ht.lt) ?_
    have : runsB s' t = false := by
      unfold runsB; rw [h3, ht.at_, Int.toNat_natCast, hR, if_pos rfl]
      have : ((-1 : Int) == (t : Int)) = false := by simp
      rw [this]; simp
    rw [h3, ht.st]; simp only [this]; rfl
  · have : i = 0 ∨ i = 1 ∨ i = 2 ∨ i = 3 ∨ i = 4 := by omega
    rcases this with rfl | rfl | rfl | rfl | rfl
    · have := hr 0 (by omega); unfold rule manyB at this ⊢; rw [h3, h2, hl]; exact this
    · have := hr 1 (by omega); unfold rule looseB at this ⊢; rw [h2]; exact this
    · have := hr 2 (by omega); unfold rule oddB at this ⊢; rw [h3]
      exact any_same (fun q hq => by unfold oddT; rw [h2]) this
    · have := hr 3 (by omega); unfold rule offB at this ⊢; rw [hl]
      refine any_same (fun q hq => ?_) this
      unfold offN; rw [hR, h3]
      by_cases e : q = k
      · subst e
        have := ht.run
        have hlt := ht.lt
        rw [if_pos rfl, this, decide_eq_false (by omega), decide_eq_false (by omega), decide_eq_false (by omega), decide_eq_false (by omega)]
      · rw [if_neg e]
    · have := hr 4 (by omega); unfold rule someB at this ⊢; rw [hl]
      refine anyB_false.2 fun q hq => ?_
      by_cases e : q = k
      · have : onB s' q = false := by unfold onB; rw [hR, if_pos e]; rfl
        simp only [this, Bool.false_and]
      · have h4 := anyB_false.1 this q hq
        unfold onB onT at h4 ⊢; rw [hR, if_neg e, h3]; exact h4
/-- No such task. -/
theorem break_none {s : Sn} (h : soundI s = 0) {k : Nat} (hk : k < s.run.length) {s' : Sn} (h1 : s'.run = s.run.set k s.ts.length) (h2 : s'.gs = s.gs) (h3 : s'.ts = s.ts) : soundI s' = 4 := by
  have hr := sound_zero h
  have hl : s'.run.length = s.run.length := by rw [h1]; simp
  refine sound_at (k := 3) (by omega) ?_ fun i hi => ?_
  · refine anyB_true (q := k) (by rw [hl]; exact hk) ?_
    unfold offN; rw [h1, rat_set hk, if_pos rfl, h3]; simp
  · have : i = 0 ∨ i = 1 ∨ i = 2 := by omega
    rcases this with rfl | rfl | rfl
    · have := hr 0 (by omega); unfold rule manyB at this ⊢; rw [h3, h2, hl]; exact this
    · have := hr 1 (by omega); unfold rule looseB at this ⊢; rw [h2]; exact this
    · have := hr 2 (by omega); unfold rule oddB at this ⊢; rw [h3]
      exact any_same (fun q hq => by unfold oddT; rw [h2]) this
theorem chain_same {gs gs' : List Gr} (hl : gs'.length = gs.length) (hp : ∀ q, (gat gs' q).par = (gat gs q).par) (f : Nat) (g : Int) : chain gs' f g = chain gs f g := by
  induction f generalizing g with
  | zero => rfl
  | succ f ih => unfold chain; rw [hl, hp, ih]
/-- Stopped above. -/
theorem break_stop {s : Sn} (h : soundI s = 0) {k t : Nat} (hk : k < s.run.length) (ht : On s k t) {s' : Sn} {v : Int} (h1 : s'.run = s.run) (h2 : s'.gs = s.gs.set 0 ⟨(gat s.gs 0).par, v⟩) (h3 : s'.ts = s.ts) (h0 : hasB v k = true) : soundI s' = 8 := by
  have hr := sound_zero h
  obtain ⟨_, _, _, hg0⟩ := sound_sizes h
  have hl : s'.gs.length = s.gs.length := by rw [h2]; simp
  have hG : ∀ q, gat s'.gs q = if q = 0 then ⟨(gat s.gs 0).par, v⟩ else gat s.gs q := fun q => by rw [h2]; exact gat_set hg0 q
  have hpar : ∀ q, (gat s'.gs q).par = (gat s.gs q).par := fun q => by
    rw [hG]; by_cases e : q = 0
    · subst e; rw [if_pos rfl]
    · rw [if_neg e]
  have hab : ∀ g, above s'.gs g = above s.gs g := fun g => by unfold above; rw [hl]; exact chain_same hl hpar _ _
  have hon : ∀ q, onB s' q = onB s q := fun q => by unfold onB; rw [h1, h3]
  have hot : ∀ q, onT s' q = onT s q := fun q => by unfold onT; rw [h1, h3]
  refine sound_at (k := 7) (by omega) ?_ fun i hi => ?_
  · refine anyB_true (q := k) (by rw [h1]; exact hk) ?_
    have hon' : onB s k = true := by unfold onB; rw [ht.run]; simp; exact ht.lt
    have hot' : onT s k = tat s.ts t := by unfold onT; rw [ht.run, Int.toNat_natCast]
    obtain ⟨g, hg1, hg2⟩ := sound_group h ht.lt
    have hin := (sound_root h).2 g hg2
    rw [hon, hon', hot, hot', Bool.true_and]
    unfold stopH
    rw [List.any_eq_true]
    refine ⟨0, by rw [hab, hg1]; exact hin, ?_⟩
    rw [show ((0 : Int)).toNat = 0 from rfl, hG, if_pos rfl]
    exact h0
  · have : i = 0 ∨ i = 1 ∨ i = 2 ∨ i = 3 ∨ i = 4 ∨ i = 5 ∨ i = 6 := by omega
    rcases this with rfl | rfl | rfl | rfl | rfl | rfl | rfl
    · have := hr 0 (by omega); unfold rule manyB at this ⊢; rw [h1, h3, hl]; exact this
    · have := hr 1 (by omega)
      change ((gat s.gs 0).par != -1 || anyB s.gs.length fun g => !underB s.gs g 0) = false at this
      show ((gat s'.gs 0).par != -1 || anyB s'.gs.length fun g => !underB s'.gs g 0) = false
      rw [hpar, hl]
      rw [Bool.or_eq_false_iff] at this ⊢
      exact ⟨this.1, any_same (fun q _ => by unfold underB; rw [hab]) this.2⟩
    · have := hr 2 (by omega); unfold rule oddB at this ⊢; rw [h3]
      exact any_same (fun q _ => by unfold oddT; rw [hl]) this
    · have := hr 3 (by omega); unfold rule offB at this ⊢; rw [h1]
      exact any_same (fun q _ => by unfold offN; rw [h3]) this
    · have := hr 4 (by omega); unfold rule someB at this ⊢; rw [h1]
      exact any_same (fun q _ => by rw [hon, hot]) this
    · have := hr 5 (by omega); unfold rule lostB at this ⊢; rw [h3]
      exact any_same (fun q _ => by unfold runsB; rw [h1, h3]) this
    · have := hr 6 (by omega); unfold rule someB at this ⊢; rw [h1]
      exact any_same (fun q _ => by rw [hon, hot]) this
end Go.Proofs.Ytoclkhnejanlnaa
