/- The rules of a sound snapshot that ask the task that runs on a P. Conditions: the slices read as lists; the masks are within their kind. -/
import Derived.Test.YtoclkhnejanlnaaRules
namespace Go.Proofs.Ytoclkhnejanlnaa
set_option linter.unusedVariables false
open Go.RowKit
section
variable {ra ta ga : Option Addr} {rn rc tn tc gn gc : Nat} {s : Sn}
theorem info31 : (Try.prog.info? 31).map (fun i => (i.zero, i.size, i.bytes)) = some (some (.agg #[.int .i64 0, .int .i64 0, .int .u64 0, .int .i64 0]), 4, 32) := by kernel_rfl
theorem onB_true (ht : s.ts.length = tn) {k : Nat} (h : onB s k = true) : ∃ m : Nat, rat s.run k = m ∧ m < tn ∧ onT s k = tat s.ts m := by
  unfold onB at h
  simp at h
  obtain ⟨m, hm⟩ := Int.eq_ofNat_of_zero_le h.1
  exact ⟨m, hm, by omega, by unfold onT; rw [hm]; rfl⟩
theorem onB_false (ht : s.ts.length = tn) {k : Nat} (h : onB s k = false) : rat s.run k < 0 ∨ (¬ rat s.run k < 0 ∧ (tn : Int) ≤ rat s.run k) := by
  unfold onB at h
  simp at h
  by_cases h0 : rat s.run k < 0
  · exact .inl h0
  · exact .inr ⟨h0, by have := h (by omega); omega⟩
set_option maxHeartbeats 1000000 in
theorem at_yes (k : Nat) (w : World) (hs : Snp w.heap.size w s ra ta ga rn tn gn) (hk : k < rn) (h : onB s k = true) :
    Calls Try.prog 46 #[.agg #[.slice ra rn rc, .slice ta tn tc, .slice ga gn gc], .int .i64 (k : Int)] w fun e w' => e = .returned (.tuple #[.agg #[.int .i64 (onT s k).st, .int .i64 (onT s k).p, .int .u64 (onT s k).m, .int .i64 (onT s k).g], .bool true]) ∧ Below w.heap.size w w' := by
  obtain ⟨m, hm, hmt, hT⟩ := onB_true hs.t.1 h
  obtain ⟨b, off, ha, hb, hc⟩ := hs.r.ints (by omega)
  obtain ⟨b', off', ha', hb', hc'⟩ := hs.t.tks (by omega)
  subst ha ha'
  have c0 := hc k hk
  rw [hm] at c0
  rw [hT]
  obtain ⟨x0, x1, x2, x3⟩ := hc' m hmt
  have c0 := cella (.cells #[.slice (some ⟨b, off, none⟩) rn rc, .slice (some ⟨b', off', none⟩) tn tc, .slice ga gn gc] 26) hb c0
  have hk' : (k : Int) < (rn : Int) := by omega
  have hm' : (m : Int) < (tn : Int) := by omega
  have HB := Lib.hid (((belowA w (.cells #[.slice (some ⟨b, off, none⟩) rn rc, .slice (some ⟨b', off', none⟩) tn tc, .slice ga gn gc] 26)).alloc (by simp) (.cells #[.int .i64 (tat s.ts m).st, .int .i64 (tat s.ts m).p, .int .u64 (tat s.ts m).m, .int .i64 (tat s.ts m).g] 31)))
  clear hc hc' hs hm h hT
  go_enter Try.func46, Try.ntmps46
  go_wp2
  exact bodyPost_ret (v := .tuple #[.agg #[.int .i64 (tat s.ts m).st, .int .i64 (tat s.ts m).p, .int .u64 (tat s.ts m).m, .int .i64 (tat s.ts m).g], .bool true]) (by simp [results, Try.results46, go_sem]) rfl ⟨rfl, HB.out⟩
set_option maxHeartbeats 1000000 in
theorem at_no (k : Nat) (w : World) (hs : Snp w.heap.size w s ra ta ga rn tn gn) (hk : k < rn) (h : onB s k = false) :
    Calls Try.prog 46 #[.agg #[.slice ra rn rc, .slice ta tn tc, .slice ga gn gc], .int .i64 (k : Int)] w fun e w' => e = .returned (.tuple #[.agg #[.int .i64 0, .int .i64 0, .int .u64 0, .int .i64 0], .bool false]) ∧ Below w.heap.size w w' := by
  obtain ⟨b, off, ha, hb, hc⟩ := hs.r.ints (by omega)
  subst ha
  have c0 := hc k hk
  have h' := onB_false hs.t.1 h
  have c0 := cella (.cells #[.slice (some ⟨b, off, none⟩) rn rc, .slice ta tn tc, .slice ga gn gc] 26) hb c0
  have hk' : (k : Int) < (rn : Int) := by omega
  have HB := Lib.hid (((belowA w (.cells #[.slice (some ⟨b, off, none⟩) rn rc, .slice ta tn tc, .slice ga gn gc] 26)).alloc (by simp) (.cells #[.int .i64 0, .int .i64 0, .int .u64 0, .int .i64 0] 31)))
  clear hc hs h
  rcases h' with h' | ⟨h', h''⟩
  · go_enter Try.func46, Try.ntmps46
    go_wp2
    exact bodyPost_ret (v := .tuple #[.agg #[.int .i64 0, .int .i64 0, .int .u64 0, .int .i64 0], .bool false]) (by simp [results, Try.results46, go_sem]) rfl ⟨rfl, HB.out⟩
  · go_enter Try.func46, Try.ntmps46
    go_wp2
    exact bodyPost_ret (v := .tuple #[.agg #[.int .i64 0, .int .i64 0, .int .u64 0, .int .i64 0], .bool false]) (by simp [results, Try.results46, go_sem]) rfl ⟨rfl, HB.out⟩
/-- The closure answers H of a P and the task that runs there. -/
def AsksP (g : Nat) (first : Array Value) (w : World) (s : Sn) (n : Nat) (H : Nat → Tk → Bool) : Prop :=
  ∀ k W, k < n → onB s k = true → Below w.heap.size w W → Calls Try.prog g (first ++ #[.int .i64 (k : Int), .agg #[.int .i64 (onT s k).st, .int .i64 (onT s k).p, .int .u64 (onT s k).m, .int .i64 (onT s k).g]]) W fun e W' => e = .returned (.bool (H k (onT s k))) ∧ Below W.heap.size W W'
set_option maxHeartbeats 1000000 in
theorem some1_any (g : Nat) (first : Array Value) (H : Nat → Tk → Bool) (bs bh k : Nat) (w : World) (hs : Snp w.heap.size w s ra ta ga rn tn gn) (hk : k < rn) (hcf : Enters g) (hc : AsksP g first w s rn H)
    (c0 : w.cell? ⟨bs, 0, none⟩ = some (.slice ra rn rc)) (c1 : w.cell? ⟨bs, 1, none⟩ = some (.slice ta tn tc)) (c2 : w.cell? ⟨bs, 2, none⟩ = some (.slice ga gn gc)) (ch : w.cell? ⟨bh, 0, none⟩ = some (.func (.func g) first #[])) :
    Calls Try.prog 45 #[.int .i64 (k : Int), .pointer (some ⟨bs, 0, none⟩), .pointer (some ⟨bh, 0, none⟩)] w fun e w' => e = .returned (.bool (onB s k && H k (onT s k))) ∧ Below w.heap.size w w' := by
  have HS := Lib.hid hs
  have HC := Lib.hid hc
  have hcf' := hcf
  unfold Enters at hcf'
  have hlt := World.block_lt_of_cell? w _ ch
  simp only at hlt
  clear hs hc hcf
  cases ho : onB s k
  · have HO := Lib.hid ho
    clear ho
    go_enter Try.func45, Try.ntmps45
    go_wp2_with fail
    refine (at_no k _ HS.out hk HO.out).mono ?_
    rintro e w1 ⟨rfl, hb⟩
    have HB := Lib.hid (nx hb (belowA w1 (.cells #[.int .i64 0, .int .i64 0, .int .u64 0, .int .i64 0] 31)))
    clear hb
    go_wp2
    go_ret
    exact ⟨rfl, HB.out⟩
  · have HO := Lib.hid ho
    clear ho
    go_enter Try.func45, Try.ntmps45
    go_wp2_with fail
    refine (at_yes k _ HS.out hk HO.out).mono ?_
    rintro e w1 ⟨rfl, hb⟩
    have HB := Lib.hid (nx hb (belowA w1 (.cells #[.int .i64 (onT s k).st, .int .i64 (onT s k).p, .int .u64 (onT s k).m, .int .i64 (onT s k).g] 31)))
    have ch1 := cellb hb hlt ch
    have hsz := hb.size
    have ch2 := cella (.cells #[.int .i64 (onT s k).st, .int .i64 (onT s k).p, .int .u64 (onT s k).m, .int .i64 (onT s k).g] 31) (by omega) ch1
    clear hb
    go_wp2_with fail
    refine (HC.out k _ hk HO.out HB.out).mono ?_
    rintro e w2 ⟨rfl, hb2⟩
    have HB2 := Lib.hid (nx HB.out hb2)
    clear hb2
    go_wp2
    go_ret
    exact ⟨by simp, HB2.out⟩
theorem enters45 : Enters 45 := fun _ _ => by kernel_rfl
theorem some_any (g : Nat) (first : Array Value) (H : Nat → Tk → Bool) (w : World) (hs : Snp w.heap.size w s ra ta ga rn tn gn) (hn : rn ≤ 1000) (hcf : Enters g) (hc : AsksP g first w s rn H) :
    Calls Try.prog 24 #[.agg #[.slice ra rn rc, .slice ta tn tc, .slice ga gn gc], .func (.func g) first #[]] w fun e w' => e = .returned (.bool (someB s H)) ∧ Below w.heap.size w w' := by
  have HS := Lib.hid hs
  have HC := Lib.hid hc
  have HE := Lib.hid hcf
  have HL := Lib.hid hs.r.1
  clear hs hc hcf
  go_enter Try.func24, Try.ntmps24
  go_wp2_with fail
  have hb0 := (belowA w (.cells #[.slice ra rn rc, .slice ta tn tc, .slice ga gn gc] 26)).alloc (by simp) (.cells #[.func (.func g) first #[]] 52)
  refine (among_any 45 #[.pointer (some ⟨w.heap.size, 0, none⟩), .pointer (some ⟨w.heap.size + 1, 0, none⟩)] rn (fun p => onB s p && H p (onT s p)) _ (by omega) enters45 (fun k W hk hbW => ?_)).mono ?_
  · have hbW' := nx hb0 hbW
    exact some1_any (rc := rc) (tc := tc) (gc := gc) g first H w.heap.size (w.heap.size + 1) k W ((HS.out.next hb0).next hbW) hk HE.out (fun k' W' h1 h2 h3 => HC.out k' W' h1 h2 (nx hbW' h3))
      (cellb hbW (by simp; omega) (cella _ (by simp) (cnewb.trans rfl))) (cellb hbW (by simp; omega) (cella _ (by simp) (cnewb.trans rfl))) (cellb hbW (by simp; omega) (cella _ (by simp) (cnewb.trans rfl))) (cellb hbW (by simp) (by simp))
  · rintro e w' ⟨rfl, hb1⟩
    have HB := Lib.hid (nx hb0 hb1)
    clear hb1 hb0
    go_wp2
    go_ret
    exact ⟨by unfold someB; rw [HL.out]; rfl, HB.out⟩
end
end Go.Proofs.Ytoclkhnejanlnaa
