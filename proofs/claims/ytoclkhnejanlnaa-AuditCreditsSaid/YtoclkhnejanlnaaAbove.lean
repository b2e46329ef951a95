/- A group and those that it is under: the program's list of them, and whether one is under another one. Conditions: the slice reads as a list of at most 1000 groups. -/
import Derived.Test.YtoclkhnejanlnaaAmong
import Derived.Deep.AppendLies
namespace Go.Proofs.Ytoclkhnejanlnaa
set_option linter.unusedVariables false
open Go.RowKit
def encI : Enc Int := ⟨1, fun x => [.int .i64 x], fun _ => rfl, fun _ u h => by simp at h; subst h; rfl, by decide⟩
def encT : Enc Tk := ⟨4, fun t => [.int .i64 t.st, .int .i64 t.p, .int .u64 t.m, .int .i64 t.g], fun _ => rfl, fun _ u h => by simp at h; rcases h with rfl | rfl | rfl | rfl <;> rfl, by decide⟩
def encG : Enc Gr := ⟨2, fun t => [.int .i64 t.par, .int .u64 t.stop], fun _ => rfl, fun _ u h => by simp at h; rcases h with rfl | rfl <;> rfl, by decide⟩
theorem rat_at {l : List Int} {p : Nat} (h : p < l.length) : l[p]? = some (rat l p) := by unfold rat; rw [List.getElem?_eq_getElem h]; rfl
theorem tat_at {l : List Tk} {p : Nat} (h : p < l.length) : l[p]? = some (tat l p) := by unfold tat; rw [List.getElem?_eq_getElem h]; rfl
theorem gat_at {l : List Gr} {p : Nat} (h : p < l.length) : l[p]? = some (gat l p) := by unfold gat; rw [List.getElem?_eq_getElem h]; rfl
section
variable {n₀ n : Nat} {W : World} {a : Option Addr}
theorem Rd.ints {zs : List Int} (h : Rd encI n₀ W a n zs) (hn : 0 < n) : ∃ b off, a = some ⟨b, off, none⟩ ∧ b < n₀ ∧ ∀ j, j < n → W.cell? ⟨b, off + j, none⟩ = some (.int .i64 (rat zs j)) := by
  obtain ⟨b, off, e, hb, hc⟩ := h.cells hn
  refine ⟨b, off, e, hb, fun j hj => ?_⟩
  have := hc j _ (rat_at (by rw [h.1]; exact hj)) 0 _ rfl
  simpa [encI] using this
theorem Rd.tks {zs : List Tk} (h : Rd encT n₀ W a n zs) (hn : 0 < n) : ∃ b off, a = some ⟨b, off, none⟩ ∧ b < n₀ ∧ ∀ j, j < n →
    W.cell? ⟨b, off + j * 4, none⟩ = some (.int .i64 (tat zs j).st) ∧ W.cell? ⟨b, off + j * 4 + 1, none⟩ = some (.int .i64 (tat zs j).p) ∧ W.cell? ⟨b, off + j * 4 + 2, none⟩ = some (.int .u64 (tat zs j).m) ∧ W.cell? ⟨b, off + j * 4 + 3, none⟩ = some (.int .i64 (tat zs j).g) := by
  obtain ⟨b, off, e, hb, hc⟩ := h.cells hn
  refine ⟨b, off, e, hb, fun j hj => ?_⟩
  have k := hc j _ (tat_at (by rw [h.1]; exact hj))
  exact ⟨k 0 _ rfl, k 1 _ rfl, k 2 _ rfl, k 3 _ rfl⟩
theorem Rd.grs {zs : List Gr} (h : Rd encG n₀ W a n zs) (hn : 0 < n) : ∃ b off, a = some ⟨b, off, none⟩ ∧ b < n₀ ∧ ∀ j, j < n →
    W.cell? ⟨b, off + j * 2, none⟩ = some (.int .i64 (gat zs j).par) ∧ W.cell? ⟨b, off + j * 2 + 1, none⟩ = some (.int .u64 (gat zs j).stop) := by
  obtain ⟨b, off, e, hb, hc⟩ := h.cells hn
  refine ⟨b, off, e, hb, fun j hj => ?_⟩
  have k := hc j _ (gat_at (by rw [h.1]; exact hj))
  exact ⟨k 0 _ rfl, k 1 _ rfl⟩
end
theorem int_info : (Try.prog.info? 3).map (fun i => (i.zero, i.size, i.bytes)) = some (some (.int .i64 0), 1, 8) := by kernel_rfl
/-- One number more. -/
theorem append_int {ops : Array Oper} {rest : List Oper} {o : Oper} {a : Act} {Q : Exit → Act → World → Prop} {w : World} (hgd : o.guard = none) (s x : Operand)
    (ho : o.op = .call { callee := .builtin .append, args := #[s, x], argTypes := #[22, 22] })
    (base : Nat) (v : Value) (n : Nat) (zs : List Int) (hs : a.eval s = v) (hown : Own encI w base 3 v n zs) (b c : Nat) (y : Int) (hx : a.eval x = .slice (some ⟨b, 0, none⟩) 1 c)
    (h0 : w.cell? ⟨b, 0, none⟩ = some (.int .i64 y)) (hn : n ≤ 100000) (hbase : base ≤ w.heap.size)
    (h : ∀ v' w', Own encI w' base 3 v' (n + 1) (zs ++ [y]) → w.grownBy w' v.ownBlock → wpList Try.prog ops Q rest (a.put o.dst v') w') : wpList Try.prog ops Q (o :: rest) a w := by
  obtain ⟨i0, hi, hz0, hz1, hz2⟩ := info_parts int_info
  refine wpList_append_own _ hgd s x 22 ho base 3 i0 _ 1 8 Try.underlying22 hi hz0 hz1 hz2 rfl (by decide) v n _ hs hown ⟨b, 0, none⟩ 1 c [.int .i64 y] hx rfl ?_ ?_ (by unfold maxLen; omega) (by omega) hbase ?_
  · intro j u hj
    rw [addr_add, Nat.zero_add]
    have hj4 : j < 1 := by have := (List.getElem?_eq_some_iff.1 hj).1; simpa using this
    obtain rfl : j = 0 := by omega
    rw [h0]; simpa using hj
  · intro u hu
    simp at hu
    subst hu; rfl
  · intro v' w' g1 g2 _
    exact h v' w' (by unfold Own; rw [Enc.all_snoc]; exact g1) g2

/-- The numbers that are handed back. -/
def GivesI (m : Nat) (zs : List Int) (e : Ending) (w' : World) : Prop := ∃ a n c, e = .returned (.slice a n c) ∧ n ≤ m ∧ Rd encI w'.heap.size w' a n zs
theorem chain_step {gs : List Gr} {f : Nat} {g : Int} (h : 0 ≤ g ∧ g < gs.length) : chain gs (f + 1) g = g :: chain gs f (gat gs g.toNat).par := by rw [chain, if_pos h]
theorem chain_stop {gs : List Gr} {f : Nat} {g : Int} (h : ¬ (0 ≤ g ∧ g < gs.length)) : chain gs f g = [] := by
  cases f with
  | zero => rfl
  | succ f => rw [chain, if_neg h]
set_option maxHeartbeats 1000000 in
theorem above_any (a : Option Addr) (n c : Nat) (gs : List Gr) (g : Int) (w : World) (hR : Rd encG w.heap.size w a n gs) (hn : n ≤ 1000) :
    Calls Try.prog 35 #[.slice a n c, .int .i64 g] w fun e w' => GivesI 1001 (above gs g) e w' ∧ Below w.heap.size w w' := by
  have HR := Lib.hid hR
  clear hR
  go_enter Try.func35, Try.ntmps35
  go_wp2_with fail
  go_loopw [1, 5] (fun gv ov wr => ∃ (k : Nat) (g' : Int) (xs : List Int), k ≤ n + 1 ∧ gv = .int .i64 g' ∧ xs ++ chain gs (n + 1 - k) g' = above gs g ∧ Own encI wr w.heap.size 3 ov k xs ∧ Below w.heap.size w wr ∧ True)
    (fun gv ov _ => match ov with | .slice _ k _ => n + 1 - k | _ => 0)
  case atStart => exact ⟨0, g, [], by omega, rfl, by rw [List.nil_append]; unfold above; rw [HR.out.1]; rfl, Own.nil _ _ _, Below.refl _ _, trivial⟩
  case round =>
    obtain ⟨k, g', xs, hk, rfl, hx, hO, hB, _⟩ := hrel
    obtain ⟨ho1, a', c', rfl, hkc, hcm, hnc, hrd⟩ := hO.rd
    have HX := Lib.hid hx
    have HO := Lib.hid hO
    have HB := Lib.hid hB
    have HL := Lib.hid ho1
    have HRD := Lib.hid hrd
    clear hx hO hB ho1 hrd hnc
    by_cases hkn : k ≤ n
    · have hkn' : (k : Int) ≤ (n : Int) := by omega
      by_cases h0 : 0 ≤ g'
      · by_cases h1 : g' < (n : Int)
        · obtain ⟨m, rfl⟩ := Int.eq_ofNat_of_zero_le h0
          have hm : m < n := by omega
          obtain ⟨b, off, ha, hb, hc⟩ := HR.out.grs (by omega)
          subst ha
          have c0 := cellb HB.out hb (hc m hm).1
          have hsz := HB.out.size
          have hbr : b < wr.heap.size := by omega
          have HS := Lib.hid (chain_step (gs := gs) (f := n - k) (g := (m : Int)) ⟨h0, by rw [HR.out.1]; exact h1⟩)
          have HOA := Lib.hid (HO.out.alloc (.cells #[.int .i64 (m : Int)] 3))
          have hk2 : k ≤ 100000 := by omega
          clear hc
          go_wp2_with (at_builtin; refine append_int rfl _ _ rfl w.heap.size _ k xs rfl HOA.out wr.heap.size _ (m : Int) rfl (cnewb.trans rfl) hk2 (by simp; omega) ?_; intro v' u hown' hgrow; have c1 : u.cell? ⟨b, off + m * 2, none⟩ = some (.int .i64 (gat gs m).par) := (hgrow.cell_far ⟨b, off + m * 2, none⟩ (by simp; omega) (fun e => by have := (HO.out.lt b e.symm).1; omega)).trans (cella _ hbr c0))
          have HG := Lib.hid ((HB.out.alloc hsz (.cells #[.int .i64 (m : Int)] 3)).grown hgrow (by simp; omega) (fun j e => (HO.out.lt j e).1))
          have HO2 := Lib.hid hown'
          obtain ⟨_, a2, c2, rfl, _⟩ := hown'.rd
          clear hown' hgrow c0
          go_roundw
          case rel =>
            refine ⟨k + 1, _, xs ++ [(m : Int)], by omega, rfl, ?_, HO2.out, HG.out, trivial⟩
            have e1 := HX.out
            rw [show n + 1 - k = n - k + 1 by omega, HS.out] at e1
            rw [List.append_assoc, show n + 1 - (k + 1) = n - k by omega]
            simpa using e1
          case measure => simp; omega
        · have HS := Lib.hid (chain_stop (gs := gs) (f := n + 1 - k) (g := g') (fun h => by rw [HR.out.1] at h; omega))
          go_wp2
          go_ret
          exact ⟨⟨_, k, _, rfl, by omega, by have := HX.out; rw [HS.out, List.append_nil] at this; rw [← this]; exact HRD.out⟩, HB.out⟩
      · have HS := Lib.hid (chain_stop (gs := gs) (f := n + 1 - k) (g := g') (fun h => by omega))
        go_wp2
        go_ret
        exact ⟨⟨_, k, _, rfl, by omega, by have := HX.out; rw [HS.out, List.append_nil] at this; rw [← this]; exact HRD.out⟩, HB.out⟩
    · have hkn' : ¬ (k : Int) ≤ (n : Int) := by omega
      have HS := Lib.hid (show n + 1 - k = 0 by omega)
      go_wp2
      go_ret
      exact ⟨⟨_, k, _, rfl, by omega, by have := HX.out; rw [HS.out] at this; rw [← this, chain, List.append_nil]; exact HRD.out⟩, HB.out⟩
end Go.Proofs.Ytoclkhnejanlnaa
