/- Busiest, Least and Idle of package load: each returns the first P that is best, and writes nothing that was there. Conditions: the slice reads as a list of numbers within the reach. -/
import Derived.Test.YtigpcjikdpknnaaIter
namespace Go.Proofs.Ytigpcjikdpknnaa
set_option linter.unusedVariables false
open Go.RowKit Go.Shelf
attribute [local go_sem] Oper.semAt_some
set_option maxRecDepth 100000 in
set_option maxHeartbeats 2000000 in
theorem busiest_in (F : Fence) (n : Nat) (h17 : F.fn 17) (h35 : F.fn 35) (h37 : F.fn 37) (hro : F.round = none) (hn : 3 ≤ n) (a : Option Addr) (len cap : Nat) (zs : List Int) (mine m : Int) (w : World) (hI : Ints w.heap.size w (.slice a len cap) zs) (hreach : zs.length * 8 ≤ 140737488351232) :
    CallsIn F n Try.prog 17 #[.slice a len cap, .int .i64 mine, .int .u64 m] w fun e W' => e = .returned (.int .i64 (busiest zs mine m)) ∧ Below w.heap.size w W' := by
  have h1 : 1 ≤ n := by omega
  refine callsIn_of_wp_marks Try.func17 rfl h17 ?_ hro
  simp only [Try.ntmps17, List.size_toArray, List.length_cons, List.length_nil, Nat.reduceAdd, Nat.reduceSub, Array.replicate_succ, Array.replicate_zero, List.push_toArray, List.append_toArray, List.nil_append, List.cons_append]
  gi_wp2_with (gi_at_call 35; refine (may_in F (n - 1) h35 hro _ _ _ _ _).mono ?_; rintro e w' ⟨rfl, rfl⟩)
  have b0 := Boxed.new w 22 (.slice a len cap)
  have b1 := Boxed.new (w.alloc (.cells #[.slice a len cap] 22)) 3 (.int .i64 mine)
  have b2 := Boxed.new ((w.alloc (.cells #[.slice a len cap] 22)).alloc (.cells #[.int .i64 mine] 3)) 3 (.int .i64 (-1))
  have b3 := Boxed.new (((w.alloc (.cells #[.slice a len cap] 22)).alloc (.cells #[.int .i64 mine] 3)).alloc (.cells #[.int .i64 (-1)] 3)) 22 (.slice a len cap)
  have b4 := Boxed.new ((((w.alloc (.cells #[.slice a len cap] 22)).alloc (.cells #[.int .i64 mine] 3)).alloc (.cells #[.int .i64 (-1)] 3)).alloc (.cells #[.slice a len cap] 22)) 23 (.int .u64 m)
  simp only [World.size_alloc] at b1 b2 b3 b4
  have B0 := (((b0.alloc (.cells #[.int .i64 mine] 3)).alloc (.cells #[.int .i64 (-1)] 3)).alloc (.cells #[.slice a len cap] 22)).alloc (.cells #[.int .u64 m] 23)
  have B1 := ((b1.alloc (.cells #[.int .i64 (-1)] 3)).alloc (.cells #[.slice a len cap] 22)).alloc (.cells #[.int .u64 m] 23)
  have B2 := (b2.alloc (.cells #[.slice a len cap] 22)).alloc (.cells #[.int .u64 m] 23)
  have B3 := b3.alloc (.cells #[.int .u64 m] 23)
  have hB0 : Below w.heap.size w (((((w.alloc (.cells #[.slice a len cap] 22)).alloc (.cells #[.int .i64 mine] 3)).alloc (.cells #[.int .i64 (-1)] 3)).alloc (.cells #[.slice a len cap] 22)).alloc (.cells #[.int .u64 m] 23)) :=
    ((((((Below.refl _ w).alloc (Nat.le_refl _) _).alloc (by simp) _).alloc (by simp; omega) _).alloc (by simp; omega) _).alloc (by simp; omega) _)
  refine wpIn_rangeFunc_ownG hro h1 (gf := 37) (lb := #[.pointer (some ⟨w.heap.size + 1 + 1 + 1, 0, none⟩), .pointer (some ⟨w.heap.size + 1 + 1 + 1 + 1, 0, none⟩)]) rfl h37 (enters_of Try.func37 (by kernel_rfl) rfl)
    (may_stops F (n - 1) h37 hro (by omega) (w.heap.size + 1 + 1 + 1) (w.heap.size + 1 + 1 + 1 + 1) w.heap.size _ zs m hreach _ (by simp) (by simp) (by simp; omega) B3.cell b4.cell (hI.below hB0)) Keep.trans (keep_b (by simp; omega) (by simp)) (Below.refl _ _) (fun _ => rfl)
    (fun pre W => (W.cell? ⟨w.heap.size, 0, none⟩ = some (.slice a len cap) ∧ W.cell? ⟨w.heap.size + 1, 0, none⟩ = some (.int .i64 mine) ∧ W.cell? ⟨w.heap.size + 1 + 1, 0, none⟩ = some (.int .i64 (busyFold zs mine m pre)) ∧ W.frozen? ⟨w.heap.size + 1 + 1, 0, none⟩ = false) ∧ Below w.heap.size w W)
    (fun _ _ _ => False)
    (OwnFrom.and (Own.from (fun s A B row hs hg hr => ⟨cell_kept hs.1 hg hr, cell_kept hs.2.1 hg hr, cell_kept hs.2.2.1 hg hr, (frozen_kept hs.2.2.1 hg hr).trans hs.2.2.2⟩) _) (ownFrom_below (Nat.le_refl _) (by simp; omega)))
    (fun _ _ _ _ _ hs _ _ => hs)
    ⟨⟨B0.cell, B1.cell, B2.cell, B2.frozen⟩, hB0⟩
    (fun x => { tmps := #[.slice a len cap, .int .i64 mine, .int .u64 m, .pointer (some ⟨w.heap.size, 0, none⟩), .pointer (some ⟨w.heap.size + 1, 0, none⟩), undef, .int .i64 0, .pointer (some ⟨w.heap.size + 1 + 1, 0, none⟩), .int .i64 (x.1 : Int), .int .u64 (zat zs x.1), .slice a len cap, .int .u64 m, .func (.func 37) #[] #[.pointer (some ⟨w.heap.size + 1 + 1 + 1, 0, none⟩), .pointer (some ⟨w.heap.size + 1 + 1 + 1 + 1, 0, none⟩)], .int .i64 (x.1 : Int), .int .u64 (zat zs x.1), undef, undef, undef, undef, undef, undef, undef, undef, undef, undef, undef, undef, undef, undef, undef, undef, undef], defers := [] }) ?assign ?body ?done ?stop
  case assign =>
    intro l x W K hK
    simp only [encP]
    gi_wp2
    exact hK
  case body =>
    rintro l pre ⟨x, hx⟩ W ⟨⟨c0, c1, c2, f2⟩, hB⟩ _
    have hfs := busyFold_snoc zs mine m pre ⟨x, hx⟩
    have hbd := busyFold_bd zs mine m pre
    have HI := Lib.hid hI; clear hI
    have hxl := (mayB_iff.1 hx).1
    have hRow := Ints.below hB HI.out
    dsimp only at hfs
    generalize busyFold zs mine m pre = B at hfs hbd c2
    have HF := Lib.hid hfs; clear hfs
    have stay : busyFold zs mine m (pre ++ [⟨x, hx⟩]) = B → ∀ Bz, (KeepsFrom Bz W W ∧ Keep w.heap.size (w.heap.size + 1 + 1 + 1 + 1) W W ∧ (W.cell? ⟨w.heap.size, 0, none⟩ = some (.slice a len cap) ∧ W.cell? ⟨w.heap.size + 1, 0, none⟩ = some (.int .i64 mine) ∧ W.cell? ⟨w.heap.size + 1 + 1, 0, none⟩ = some (.int .i64 (busyFold zs mine m (pre ++ [⟨x, hx⟩]))) ∧ W.frozen? ⟨w.heap.size + 1 + 1, 0, none⟩ = false) ∧ Below w.heap.size w W) :=
      fun e _ => ⟨KeepsFrom.refl _ _, Keep.refl _ _ _, ⟨c0, c1, by rw [e]; exact c2, f2⟩, hB⟩
    have move : busyFold zs mine m (pre ++ [⟨x, hx⟩]) = (x : Int) → ∀ Bz, (KeepsFrom Bz W (W.setCell ⟨w.heap.size + 1 + 1, 0, none⟩ (.int .i64 (x : Int))) ∧ Keep w.heap.size (w.heap.size + 1 + 1 + 1 + 1) W (W.setCell ⟨w.heap.size + 1 + 1, 0, none⟩ (.int .i64 (x : Int))) ∧ ((W.setCell ⟨w.heap.size + 1 + 1, 0, none⟩ (.int .i64 (x : Int))).cell? ⟨w.heap.size, 0, none⟩ = some (.slice a len cap) ∧ (W.setCell ⟨w.heap.size + 1 + 1, 0, none⟩ (.int .i64 (x : Int))).cell? ⟨w.heap.size + 1, 0, none⟩ = some (.int .i64 mine) ∧ (W.setCell ⟨w.heap.size + 1 + 1, 0, none⟩ (.int .i64 (x : Int))).cell? ⟨w.heap.size + 1 + 1, 0, none⟩ = some (.int .i64 (busyFold zs mine m (pre ++ [⟨x, hx⟩]))) ∧ (W.setCell ⟨w.heap.size + 1 + 1, 0, none⟩ (.int .i64 (x : Int))).frozen? ⟨w.heap.size + 1 + 1, 0, none⟩ = false) ∧ Below w.heap.size w (W.setCell ⟨w.heap.size + 1 + 1, 0, none⟩ (.int .i64 (x : Int)))) := by
      intro e _
      refine ⟨(KeepsOthers.setCell _ _ _).from _, Keep.setCell (by show w.heap.size ≤ w.heap.size + 1 + 1; omega) (by show w.heap.size + 1 + 1 + 1 + 1 ≠ w.heap.size + 1 + 1; omega) _, ⟨?_, ?_, ?_, ?_⟩, hB.setCell (by show w.heap.size ≤ w.heap.size + 1 + 1; omega) _⟩
      · rw [World.cell?_setCell_other _ _ _ _ (by intro e; simp only [Addr.mk.injEq] at e; omega)]; exact c0
      · rw [World.cell?_setCell_other _ _ _ _ (by intro e; simp only [Addr.mk.injEq] at e; omega)]; exact c1
      · rw [e]; exact World.cell?_setCell_same' _ _ _ (by rw [c2]; rfl)
      · rw [World.frozen?_setCell]; exact f2
    by_cases hm : (x : Int) = mine
    · have hmb : (((x : Int)) != mine) = false := by simp [hm]
      have e : busyFold zs mine m (pre ++ [⟨x, hx⟩]) = B := by rw [HF.out]; unfold busyStep; rw [if_neg (by intro h; exact h.1 hm)]
      have HS := Lib.hid (stay e)
      clear hm e stay move
      gi_wp2
      exact HS.out _
    · have hmb : (((x : Int)) != mine) = true := by simp [hm]
      by_cases hneg : B < 0
      · have e : busyFold zs mine m (pre ++ [⟨x, hx⟩]) = (x : Int) := by rw [HF.out]; unfold busyStep; rw [if_pos ⟨hm, .inl hneg⟩]
        have HS := Lib.hid (move e)
        clear hm e stay move
        gi_wp2
        exact HS.out _
      · obtain ⟨k, rfl⟩ := Int.eq_ofNat_of_zero_le (show 0 ≤ B by omega)
        rcases hRow with ⟨h1, h2⟩ | ⟨b, off, cap', h1, hb, hcs⟩
        · rw [h2] at hxl; simp at hxl
        · have hk : k < zs.length := by omega
          have hck := hcs k hk
          clear hcs
          simp only [Value.slice.injEq] at h1
          obtain ⟨rfl, rfl, rfl⟩ := h1
          have hk' : (k : Int) < (zs.length : Int) := by omega
          by_cases hlt : zat zs k < zat zs x
          · have e : busyFold zs mine m (pre ++ [⟨x, hx⟩]) = (x : Int) := by rw [HF.out]; unfold busyStep; rw [if_pos ⟨hm, .inr (by simpa using hlt)⟩]
            have HS := Lib.hid (move e)
            clear hm e stay move
            gi_wp2
            exact HS.out _
          · have e : busyFold zs mine m (pre ++ [⟨x, hx⟩]) = (k : Int) := by rw [HF.out]; unfold busyStep; rw [if_neg (by rintro ⟨_, h⟩; exact h.elim (fun h => by omega) (fun h => hlt (by simpa using h)))]
            have HS := Lib.hid (stay e)
            clear hm e stay move
            gi_wp2
            exact HS.out _
  case done =>
    rintro D ys W hD rfl ⟨⟨c0, c1, c2, f2⟩, hB⟩ hK
    rw [busyFold_eq] at c2
    gi_wp2
    refine ⟨by simp, .inl ⟨_, _, rfl, run_takeDeferred hK, ?_⟩⟩
    exact ⟨_, results_tmp rfl _ _ _, rfl, hB.trans (belowK_b (w := w) (Nat.le_refl _) W D _ _ (by simp at hD; omega) hK rfl rfl)⟩
  case stop =>
    rintro D c pre W _ _ h _
    exact h.elim
set_option maxRecDepth 100000 in
set_option maxHeartbeats 2000000 in
theorem least_in (F : Fence) (n : Nat) (h19 : F.fn 19) (h35 : F.fn 35) (h37 : F.fn 37) (hro : F.round = none) (hn : 3 ≤ n) (a : Option Addr) (len cap : Nat) (zs : List Int) (m : Int) (w : World) (hI : Ints w.heap.size w (.slice a len cap) zs) (hreach : zs.length * 8 ≤ 140737488351232) :
    CallsIn F n Try.prog 19 #[.slice a len cap, .int .u64 m] w fun e W' => e = .returned (.int .i64 (least zs m)) ∧ Below w.heap.size w W' := by
  have h1 : 1 ≤ n := by omega
  refine callsIn_of_wp_marks Try.func19 rfl h19 ?_ hro
  simp only [Try.ntmps19, List.size_toArray, List.length_cons, List.length_nil, Nat.reduceAdd, Nat.reduceSub, Array.replicate_succ, Array.replicate_zero, List.push_toArray, List.append_toArray, List.nil_append, List.cons_append]
  gi_wp2_with (gi_at_call 35; refine (may_in F (n - 1) h35 hro _ _ _ _ _).mono ?_; rintro e w' ⟨rfl, rfl⟩)
  have b0 := Boxed.new w 22 (.slice a len cap)
  have b2 := Boxed.new (w.alloc (.cells #[.slice a len cap] 22)) 3 (.int .i64 (-1))
  have b3 := Boxed.new ((w.alloc (.cells #[.slice a len cap] 22)).alloc (.cells #[.int .i64 (-1)] 3)) 22 (.slice a len cap)
  have b4 := Boxed.new (((w.alloc (.cells #[.slice a len cap] 22)).alloc (.cells #[.int .i64 (-1)] 3)).alloc (.cells #[.slice a len cap] 22)) 23 (.int .u64 m)
  simp only [World.size_alloc] at b2 b3 b4
  have B0 := ((b0.alloc (.cells #[.int .i64 (-1)] 3)).alloc (.cells #[.slice a len cap] 22)).alloc (.cells #[.int .u64 m] 23)
  have B2 := (b2.alloc (.cells #[.slice a len cap] 22)).alloc (.cells #[.int .u64 m] 23)
  have B3 := b3.alloc (.cells #[.int .u64 m] 23)
  have hB0 : Below w.heap.size w ((((w.alloc (.cells #[.slice a len cap] 22)).alloc (.cells #[.int .i64 (-1)] 3)).alloc (.cells #[.slice a len cap] 22)).alloc (.cells #[.int .u64 m] 23)) :=
    (((((Below.refl _ w).alloc (Nat.le_refl _) _).alloc (by simp) _).alloc (by simp; omega) _).alloc (by simp; omega) _)
  refine wpIn_rangeFunc_ownG hro h1 (gf := 37) (lb := #[.pointer (some ⟨w.heap.size + 1 + 1, 0, none⟩), .pointer (some ⟨w.heap.size + 1 + 1 + 1, 0, none⟩)]) rfl h37 (enters_of Try.func37 (by kernel_rfl) rfl)
    (may_stops F (n - 1) h37 hro (by omega) (w.heap.size + 1 + 1) (w.heap.size + 1 + 1 + 1) w.heap.size _ zs m hreach _ (by simp) (by simp) (by simp; omega) B3.cell b4.cell (hI.below hB0)) Keep.trans (keep_b (by simp; omega) (by simp)) (Below.refl _ _) (fun _ => rfl)
    (fun pre W => (W.cell? ⟨w.heap.size, 0, none⟩ = some (.slice a len cap) ∧ W.cell? ⟨w.heap.size + 1, 0, none⟩ = some (.int .i64 (lowFold zs m pre)) ∧ W.frozen? ⟨w.heap.size + 1, 0, none⟩ = false) ∧ Below w.heap.size w W)
    (fun _ _ _ => False)
    (OwnFrom.and (Own.from (fun s A B row hs hg hr => ⟨cell_kept hs.1 hg hr, cell_kept hs.2.1 hg hr, (frozen_kept hs.2.1 hg hr).trans hs.2.2⟩) _) (ownFrom_below (Nat.le_refl _) (by simp; omega)))
    (fun _ _ _ _ _ hs _ _ => hs)
    ⟨⟨B0.cell, B2.cell, B2.frozen⟩, hB0⟩
    (fun x => { tmps := #[.slice a len cap, .int .u64 m, .pointer (some ⟨w.heap.size, 0, none⟩), undef, .int .i64 0, .pointer (some ⟨w.heap.size + 1, 0, none⟩), .int .i64 (x.1 : Int), .int .u64 (zat zs x.1), .slice a len cap, .int .u64 m, .func (.func 37) #[] #[.pointer (some ⟨w.heap.size + 1 + 1, 0, none⟩), .pointer (some ⟨w.heap.size + 1 + 1 + 1, 0, none⟩)], .int .i64 (x.1 : Int), .int .u64 (zat zs x.1), undef, undef, undef, undef, undef, undef, undef, undef, undef, undef, undef, undef], defers := [] }) ?assign ?body ?done ?stop
  case assign =>
    intro l x W K hK
    simp only [encP]
    gi_wp2
    exact hK
  case body =>
    rintro l pre ⟨x, hx⟩ W ⟨⟨c0, c2, f2⟩, hB⟩ _
    have hfs := lowFold_snoc zs m pre ⟨x, hx⟩
    have hbd := lowFold_bd zs m pre
    have HI := Lib.hid hI; clear hI
    have hxl := (mayB_iff.1 hx).1
    have hRow := Ints.below hB HI.out
    dsimp only at hfs
    generalize lowFold zs m pre = B at hfs hbd c2
    have HF := Lib.hid hfs; clear hfs
    have stay : lowFold zs m (pre ++ [⟨x, hx⟩]) = B → ∀ Bz, (KeepsFrom Bz W W ∧ Keep w.heap.size (w.heap.size + 1 + 1 + 1) W W ∧ (W.cell? ⟨w.heap.size, 0, none⟩ = some (.slice a len cap) ∧ W.cell? ⟨w.heap.size + 1, 0, none⟩ = some (.int .i64 (lowFold zs m (pre ++ [⟨x, hx⟩]))) ∧ W.frozen? ⟨w.heap.size + 1, 0, none⟩ = false) ∧ Below w.heap.size w W) :=
      fun e _ => ⟨KeepsFrom.refl _ _, Keep.refl _ _ _, ⟨c0, by rw [e]; exact c2, f2⟩, hB⟩
    have move : lowFold zs m (pre ++ [⟨x, hx⟩]) = (x : Int) → ∀ Bz, (KeepsFrom Bz W (W.setCell ⟨w.heap.size + 1, 0, none⟩ (.int .i64 (x : Int))) ∧ Keep w.heap.size (w.heap.size + 1 + 1 + 1) W (W.setCell ⟨w.heap.size + 1, 0, none⟩ (.int .i64 (x : Int))) ∧ ((W.setCell ⟨w.heap.size + 1, 0, none⟩ (.int .i64 (x : Int))).cell? ⟨w.heap.size, 0, none⟩ = some (.slice a len cap) ∧ (W.setCell ⟨w.heap.size + 1, 0, none⟩ (.int .i64 (x : Int))).cell? ⟨w.heap.size + 1, 0, none⟩ = some (.int .i64 (lowFold zs m (pre ++ [⟨x, hx⟩]))) ∧ (W.setCell ⟨w.heap.size + 1, 0, none⟩ (.int .i64 (x : Int))).frozen? ⟨w.heap.size + 1, 0, none⟩ = false) ∧ Below w.heap.size w (W.setCell ⟨w.heap.size + 1, 0, none⟩ (.int .i64 (x : Int)))) := by
      intro e _
      refine ⟨(KeepsOthers.setCell _ _ _).from _, Keep.setCell (by show w.heap.size ≤ w.heap.size + 1; omega) (by show w.heap.size + 1 + 1 + 1 ≠ w.heap.size + 1; omega) _, ⟨?_, ?_, ?_⟩, hB.setCell (by show w.heap.size ≤ w.heap.size + 1; omega) _⟩
      · rw [World.cell?_setCell_other _ _ _ _ (by intro e; simp only [Addr.mk.injEq] at e; omega)]; exact c0
      · rw [e]; exact World.cell?_setCell_same' _ _ _ (by rw [c2]; rfl)
      · rw [World.frozen?_setCell]; exact f2
    by_cases hneg : B < 0
    · have e : lowFold zs m (pre ++ [⟨x, hx⟩]) = (x : Int) := by rw [HF.out]; unfold lowStep; rw [if_pos (.inl hneg)]
      have HS := Lib.hid (move e)
      clear e stay move
      gi_wp2
      exact HS.out _
    · obtain ⟨k, rfl⟩ := Int.eq_ofNat_of_zero_le (show 0 ≤ B by omega)
      rcases hRow with ⟨h1, h2⟩ | ⟨b, off, cap', h1, hb, hcs⟩
      · rw [h2] at hxl; simp at hxl
      · have hk : k < zs.length := by omega
        have hck := hcs k hk
        clear hcs
        simp only [Value.slice.injEq] at h1
        obtain ⟨rfl, rfl, rfl⟩ := h1
        have hk' : (k : Int) < (zs.length : Int) := by omega
        by_cases hlt : zat zs x < zat zs k
        · have e : lowFold zs m (pre ++ [⟨x, hx⟩]) = (x : Int) := by rw [HF.out]; unfold lowStep; rw [if_pos (.inr (by simpa using hlt))]
          have HS := Lib.hid (move e)
          clear e stay move
          gi_wp2
          exact HS.out _
        · have e : lowFold zs m (pre ++ [⟨x, hx⟩]) = (k : Int) := by rw [HF.out]; unfold lowStep; rw [if_neg (fun h => h.elim (fun h => by omega) (fun h => hlt (by simpa using h)))]
          have HS := Lib.hid (stay e)
          clear e stay move
          gi_wp2
          exact HS.out _
  case done =>
    rintro D ys W hD rfl ⟨⟨c0, c2, f2⟩, hB⟩ hK
    rw [lowFold_eq] at c2
    gi_wp2
    refine ⟨by simp, .inl ⟨_, _, rfl, run_takeDeferred hK, ?_⟩⟩
    exact ⟨_, results_tmp rfl _ _ _, rfl, hB.trans (belowK_b (w := w) (Nat.le_refl _) W D _ _ (by simp at hD; omega) hK rfl rfl)⟩
  case stop =>
    rintro D c pre W _ _ h _
    exact h.elim

set_option maxRecDepth 100000 in
set_option maxHeartbeats 2000000 in
theorem idle0_in (F : Fence) (n : Nat) (h21 : F.fn 21) (h35 : F.fn 35) (h37 : F.fn 37) (hro : F.round = none) (hn : 3 ≤ n) (a : Option Addr) (len cap : Nat) (zs : List Int) (m : Int) (w : World) (hI : Ints w.heap.size w (.slice a len cap) zs) (hreach : zs.length * 8 ≤ 140737488351232) :
    CallsIn F n Try.prog 21 #[.slice a len cap, .int .u64 m] w fun e W' => e = .returned (.int .i64 (idle0 zs m)) ∧ Below w.heap.size w W' := by
  have h1 : 1 ≤ n := by omega
  refine callsIn_of_wp_marks Try.func21 rfl h21 ?_ hro
  simp only [Try.ntmps21, List.size_toArray, List.length_cons, List.length_nil, Nat.reduceAdd, Nat.reduceSub, Array.replicate_succ, Array.replicate_zero, List.push_toArray, List.append_toArray, List.nil_append, List.cons_append]
  gi_wp2_with (gi_at_call 35; refine (may_in F (n - 1) h35 hro _ _ _ _ _).mono ?_; rintro e w' ⟨rfl, rfl⟩)
  have b0 := Boxed.new w 3 (.int .i64 0)
  have b3 := Boxed.new (w.alloc (.cells #[.int .i64 0] 3)) 22 (.slice a len cap)
  have b4 := Boxed.new ((w.alloc (.cells #[.int .i64 0] 3)).alloc (.cells #[.slice a len cap] 22)) 23 (.int .u64 m)
  simp only [World.size_alloc] at b3 b4
  have B0 := (b0.alloc (.cells #[.slice a len cap] 22)).alloc (.cells #[.int .u64 m] 23)
  have B3 := b3.alloc (.cells #[.int .u64 m] 23)
  have hB0 : Below w.heap.size w (((w.alloc (.cells #[.int .i64 0] 3)).alloc (.cells #[.slice a len cap] 22)).alloc (.cells #[.int .u64 m] 23)) :=
    ((((Below.refl _ w).alloc (Nat.le_refl _) _).alloc (by simp) _).alloc (by simp; omega) _)
  refine wpIn_rangeFunc_ownG hro h1 (gf := 37) (lb := #[.pointer (some ⟨w.heap.size + 1, 0, none⟩), .pointer (some ⟨w.heap.size + 1 + 1, 0, none⟩)]) rfl h37 (enters_of Try.func37 (by kernel_rfl) rfl)
    (may_stops F (n - 1) h37 hro (by omega) (w.heap.size + 1) (w.heap.size + 1 + 1) w.heap.size _ zs m hreach _ (by simp) (by simp) (by simp; omega) B3.cell b4.cell (hI.below hB0)) Keep.trans (keep_b (by simp; omega) (by simp)) (Below.refl _ _) (fun _ => rfl)
    (fun pre W => ((∀ p ∈ pre, zat zs p.1 ≠ 0) ∧ W.cell? ⟨w.heap.size, 0, none⟩ = some (.int .i64 0) ∧ W.frozen? ⟨w.heap.size, 0, none⟩ = false) ∧ Below w.heap.size w W)
    (fun c pre W => (c = .ret ∧ ∃ ini last, pre = ini ++ [last] ∧ (∀ p ∈ ini, zat zs p.1 ≠ 0) ∧ zat zs last.1 = 0 ∧ W.cell? ⟨w.heap.size, 0, none⟩ = some (.int .i64 (last.1 : Int))) ∧ Below w.heap.size w W)
    (OwnFrom.and (Own.from (fun s A B row hs hg hr => ⟨hs.1, cell_kept hs.2.1 hg hr, (frozen_kept hs.2.1 hg hr).trans hs.2.2⟩) _) (ownFrom_below (Nat.le_refl _) (by simp; omega)))
    (fun c => OwnFrom.and (Own.from (fun s A B row hs hg hr => by obtain ⟨hc, ini, last, e1, e2, e3, e4⟩ := hs; exact ⟨hc, ini, last, e1, e2, e3, cell_kept e4 hg hr⟩) _) (ownFrom_below (Nat.le_refl _) (by simp; omega)))
    ⟨⟨by simp, B0.cell, B0.frozen⟩, hB0⟩
    (fun x => { tmps := #[.slice a len cap, .int .u64 m, undef, undef, .pointer (some ⟨w.heap.size, 0, none⟩), .int .i64 (x.1 : Int), .int .u64 (zat zs x.1), .slice a len cap, .int .u64 m, .func (.func 37) #[] #[.pointer (some ⟨w.heap.size + 1, 0, none⟩), .pointer (some ⟨w.heap.size + 1 + 1, 0, none⟩)], .int .i64 (x.1 : Int), .int .u64 (zat zs x.1), undef, undef, undef], defers := [] }) ?assign ?body ?done ?stop
  case assign =>
    intro l x W K hK
    simp only [encP]
    gi_wp2
    exact hK
  case body =>
    rintro l pre ⟨x, hxm⟩ W ⟨⟨hp, hcr, hfr⟩, hB⟩ _
    dsimp only
    by_cases hz : zat zs x = 0
    · have hzb : (zat zs x == 0) = true := by simp [hz]
      have HZ := Lib.hid hz; clear hz
      gi_wp2
      exact ⟨(KeepsOthers.setCell _ _ _).from _, ⟨rfl, pre, ⟨x, hxm⟩, rfl, hp, HZ.out, World.cell?_setCell_same' _ _ _ (by rw [hcr]; rfl)⟩, hB.setCell (p := ⟨w.heap.size, 0, none⟩) (Nat.le_refl _) _⟩
    · have hzb : (zat zs x == 0) = false := by simp [hz]
      have HZ := Lib.hid hz; clear hz
      gi_wp2
      exact ⟨KeepsFrom.refl _ _, Keep.refl _ _ _, ⟨fun p hp' => (List.mem_append.1 hp').elim (hp p) (fun e => by simp at e; subst e; exact HZ.out), hcr, hfr⟩, hB⟩
  case done =>
    rintro D ys W hD rfl ⟨⟨hne, hcr, hfr⟩, hB⟩ hK
    have HE := Lib.hid (idle0_none hne)
    clear hne
    gi_wp2
    have hK' := (KeepsOthers.setCell W ⟨w.heap.size, 0, none⟩ (.int .i64 (-1))).same D _ hK rfl
    refine ⟨by simp, .inl ⟨_, _, rfl, run_takeDeferred hK', ?_⟩⟩
    have hc5 := cell_kept (World.cell?_setCell_same' W ⟨w.heap.size, 0, none⟩ (.int .i64 (-1)) (by rw [hcr]; rfl)) (grownBy_putObj' _ D (.deferred none)) (fun r e => by cases e; exact ⟨_, hK', rfl⟩)
    refine ⟨.int .i64 (-1), ?_, by rw [HE.out], (hB.setCell (p := ⟨w.heap.size, 0, none⟩) (Nat.le_refl _) _).trans (belowK_b (w := w) (Nat.le_refl _) _ D _ _ (by simp at hD; omega) hK' rfl rfl)⟩
    simp [results, Try.f21, go_sem, hc5]
  case stop =>
    rintro D c pre W hD ⟨k, hk, rfl⟩ ⟨⟨rfl, ini, last, e1, e2, e3, hcr⟩, hB⟩ hK
    have HE := Lib.hid (idle0_at hk e1 e2 e3)
    clear e1 e2 e3
    gi_wp2
    refine ⟨by simp, .inl ⟨_, _, rfl, run_takeDeferred hK, ?_⟩⟩
    have hc5 := cell_kept hcr (grownBy_putObj' _ D (.deferred none)) (fun r e => by cases e; exact ⟨_, hK, rfl⟩)
    refine ⟨.int .i64 (last.1 : Int), ?_, by rw [HE.out], hB.trans (belowK_b (w := w) (Nat.le_refl _) W D _ _ (by simp at hD; omega) hK rfl rfl)⟩
    simp [results, Try.f21, go_sem, hc5]

theorem busiest_any (a : Option Addr) (len cap : Nat) (zs : List Int) (mine m : Int) (w : World) (hI : Ints w.heap.size w (.slice a len cap) zs) (hreach : zs.length * 8 ≤ 140737488351232) :
    Calls Try.prog 17 #[.slice a len cap, .int .i64 mine, .int .u64 m] w fun e W' => e = .returned (.int .i64 (busiest zs mine m)) ∧ Below w.heap.size w W' :=
  callsIn_wide.1 (busiest_in Fence.wide 3 trivial trivial trivial rfl (Nat.le_refl _) a len cap zs mine m w hI hreach)
theorem least_any (a : Option Addr) (len cap : Nat) (zs : List Int) (m : Int) (w : World) (hI : Ints w.heap.size w (.slice a len cap) zs) (hreach : zs.length * 8 ≤ 140737488351232) :
    Calls Try.prog 19 #[.slice a len cap, .int .u64 m] w fun e W' => e = .returned (.int .i64 (least zs m)) ∧ Below w.heap.size w W' :=
  callsIn_wide.1 (least_in Fence.wide 3 trivial trivial trivial rfl (Nat.le_refl _) a len cap zs m w hI hreach)
theorem idle0_any (a : Option Addr) (len cap : Nat) (zs : List Int) (m : Int) (w : World) (hI : Ints w.heap.size w (.slice a len cap) zs) (hreach : zs.length * 8 ≤ 140737488351232) :
    Calls Try.prog 21 #[.slice a len cap, .int .u64 m] w fun e W' => e = .returned (.int .i64 (idle0 zs m)) ∧ Below w.heap.size w W' :=
  callsIn_wide.1 (idle0_in Fence.wide 3 trivial trivial trivial rfl (Nat.le_refl _) a len cap zs m w hI hreach)
end Go.Proofs.Ytigpcjikdpknnaa
