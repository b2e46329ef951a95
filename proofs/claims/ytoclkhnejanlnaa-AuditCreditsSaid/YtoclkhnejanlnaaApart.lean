/- Whether two are never far apart: the program's answer. Conditions: the slices read as lists; the weights are within their kind. -/
import Derived.Test.YtoclkhnejanlnaaRise
namespace Go.Proofs.Ytoclkhnejanlnaa
set_option linter.unusedVariables false
open Go.RowKit
/-- Only answers have been drawn. -/
def Drew (w w' : World) : Prop := ∃ n, w' = w.drewN n
section
variable {aa ba : Option Addr} {an ac bn bc : Nat} {za zb : List Int}
set_option maxHeartbeats 1000000 in
theorem grownI_any (a : Option Addr) (n c : Nat) (zs : List Int) (i j : Nat) (wt : Int) (w : World) (hR : Rd encI w.heap.size w a n zs) (hrise : riseB zs = true) (hij : i ≤ j) (hj : j < n) (h0 : 0 < wt) (h1 : wt ≤ 18446744073709551615) :
    Calls Try.prog 39 #[.slice a n c, .int .i64 (i : Int), .int .i64 (j : Int), .int .u64 wt] w fun e w' => e = .returned (.int .i64 (growI zs i j wt)) ∧ Drew w w' := by
  obtain ⟨b, off, ha, hb, hc⟩ := hR.ints (by omega)
  subst ha
  have ci := hc i (by omega)
  have cj := hc j hj
  have hmono := rise_mono hrise hij (by rw [hR.1]; exact hj)
  have hbd := (rise_iff.1 hrise).2.1 i (by rw [hR.1]; omega)
  have hbd2 := (rise_iff.1 hrise).2.1 j (by rw [hR.1]; omega)
  obtain ⟨d, hd⟩ : ∃ d, rat zs j - rat zs i = d := ⟨_, rfl⟩
  have hd0 : 0 ≤ d ∧ d ≤ 1099511627776 := by omega
  have hg := grow_bd hrise hij (by rw [hR.1]; exact hj) h0
  have HG := Lib.hid (show growI zs i j wt = d * 1024 / wt by unfold growI; rw [hd])
  have g1 : (0 : Int) ≤ (i : Int) := by omega
  have g2 : (i : Int) < (n : Int) := by omega
  have g3 : (0 : Int) ≤ (j : Int) := by omega
  have g4 : (j : Int) < (n : Int) := by omega
  rw [HG.out] at hg
  clear hc hR hmono hbd hbd2
  obtain ⟨q, hq⟩ : ∃ q, d * 1024 / wt = q := ⟨_, rfl⟩
  rw [hq] at hg
  have HQ := Lib.hid hq
  have HD := Lib.hid hd
  have k1 : IntKind.i64.wrap (rat zs j - rat zs i) = d := by rw [HD.out, IntKind.wrap_i64]; omega
  have k2 : IntKind.u64.wrap d = d := by rw [IntKind.wrap_u64]; omega
  have k3 : IntKind.u64.wrap (d * 1024) = d * 1024 := by rw [IntKind.wrap_u64]; omega
  have k4 : (d * 1024).tdiv wt = q := by rw [Int.tdiv_eq_ediv_of_nonneg (by omega), HQ.out]
  have k5 : IntKind.u64.wrap q = q := by rw [IntKind.wrap_u64]; omega
  have k6 : IntKind.i64.wrap q = q := by rw [IntKind.wrap_i64]; omega
  have k7 : ¬ wt = 0 := by omega
  clear hd hq
  go_enter Try.func39, Try.ntmps39
  go_wp2_with fail
  go_quiet (fail)
  clear k1 k2 k3 k4 k5 k6
  go_wp2
  go_ret
  exact ⟨by rw [HG.out, HQ.out]; rfl, nq, rfl⟩
theorem Rd.drewN {α : Type} {E : Enc α} {W : World} {a : Option Addr} {n : Nat} {zs : List α} (h : Rd E W.heap.size W a n zs) (k : Nat) : Rd E (W.drewN k).heap.size (W.drewN k) a n zs := h.next (below_drewN (Below.refl _ _) k)
theorem grown_quiet (a : Option Addr) (n c : Nat) (zs : List Int) (i j : Nat) (wt : Int) (w : World) (hR : Rd encI w.heap.size w a n zs) (hrise : riseB zs = true) (hij : i ≤ j) (hj : j < n) (h0 : 0 < wt) (h1 : wt ≤ 18446744073709551615) (k : Nat) :
    Calls Try.prog 39 #[.slice a n c, .int .i64 (i : Int), .int .i64 (j : Int), .int .u64 wt] (w.drewN k) fun e w'' => e = .returned (.int .i64 (growI zs i j wt)) ∧ ∃ m, w'' = w.drewN m :=
  Calls.quiet_of ((grownI_any a n c zs i j wt (w.drewN k) (hR.drewN k) hrise hij hj h0 h1).mono fun e w' ⟨e1, m, e2⟩ => ⟨e1, m, e2⟩)
theorem far_lt {a b : List Int} {wa wb most : Int} {i j : Nat} (h : growI a i j wa < growI b i j wb) : farB a b wa wb most i j = decide (most < growI b i j wb - growI a i j wa) := by
  rw [Bool.eq_iff_iff, far_iff, decide_eq_true_eq]; omega
theorem far_ge {a b : List Int} {wa wb most : Int} {i j : Nat} (h : ¬ growI a i j wa < growI b i j wb) : farB a b wa wb most i j = decide (most < growI a i j wa - growI b i j wb) := by
  rw [Bool.eq_iff_iff, far_iff, decide_eq_true_eq]; omega
set_option maxHeartbeats 2000000 in
theorem apart2_any (b1 b2 b3 b4 b5 b6 i j : Nat) (wa wb most : Int) (w : World) (ha : Rd encI w.heap.size w aa an za) (hb : Rd encI w.heap.size w ba bn zb) (hra : riseB za = true) (hrb : riseB zb = true) (hij : i ≤ j) (hja : j < an) (hjb : j < bn)
    (hwa : 0 < wa) (hwa1 : wa ≤ 18446744073709551615) (hwb : 0 < wb) (hwb1 : wb ≤ 18446744073709551615)
    (d1 : w.cell? ⟨b1, 0, none⟩ = some (.slice aa an ac)) (d2 : w.cell? ⟨b2, 0, none⟩ = some (.int .i64 (j : Int))) (d3 : w.cell? ⟨b3, 0, none⟩ = some (.int .u64 wa)) (d4 : w.cell? ⟨b4, 0, none⟩ = some (.slice ba bn bc)) (d5 : w.cell? ⟨b5, 0, none⟩ = some (.int .u64 wb)) (d6 : w.cell? ⟨b6, 0, none⟩ = some (.int .i64 most)) :
    Calls Try.prog 38 #[.int .i64 (i : Int), .pointer (some ⟨b1, 0, none⟩), .pointer (some ⟨b2, 0, none⟩), .pointer (some ⟨b3, 0, none⟩), .pointer (some ⟨b4, 0, none⟩), .pointer (some ⟨b5, 0, none⟩), .pointer (some ⟨b6, 0, none⟩)] w fun e w' => e = .returned (.bool (farB za zb wa wb most i j)) ∧ Below w.heap.size w w' := by
  have HA := Lib.hid ha
  have HB := Lib.hid hb
  have HRA := Lib.hid hra
  have HRB := Lib.hid hrb
  have ga := grow_bd hra hij (by rw [ha.1]; exact hja) hwa
  have gb := grow_bd hrb hij (by rw [hb.1]; exact hjb) hwb
  have HLT := Lib.hid (far_lt (a := za) (b := zb) (wa := wa) (wb := wb) (most := most) (i := i) (j := j))
  have HGE := Lib.hid (far_ge (a := za) (b := zb) (wa := wa) (wb := wb) (most := most) (i := i) (j := j))
  have HQA := Lib.hid (grown_quiet aa an ac za i j wa w ha hra hij hja hwa hwa1)
  have HQB := Lib.hid (grown_quiet ba bn bc zb i j wb w hb hrb hij hjb hwb hwb1)
  clear ha hb hra hrb
  go_enter Try.func38, Try.ntmps38
  go_wp2_with fail
  go_quiet (first | (go_at_call 39; with_reducible exact HQA.out _) | (go_at_call 39; with_reducible exact HQB.out _))
  rcases Int.lt_trichotomy (growI za i j wa) (growI zb i j wb) with hlt | heq | hgt
  · have HD := Lib.hid (HLT.out hlt)
    have h2 : ¬ growI zb i j wb < growI za i j wa := by omega
    go_wp2
    go_ret
    exact ⟨by rw [HD.out]; rfl, below_drewN (Below.refl _ _) _⟩
  · have HD := Lib.hid (HGE.out (by omega))
    have HE := Lib.hid heq
    have h0 : growI zb i j wb - growI zb i j wb = 0 := by omega
    go_wp2
    go_ret
    exact ⟨by rw [HD.out, HE.out, Int.sub_self]; rfl, below_drewN (Below.refl _ _) _⟩
  · have HD := Lib.hid (HGE.out (by omega))
    have h2 : ¬ growI za i j wa < growI zb i j wb := by omega
    go_wp2
    go_ret
    exact ⟨by rw [HD.out]; rfl, below_drewN (Below.refl _ _) _⟩
theorem enters38 : Enters 38 := fun _ _ => by kernel_rfl
theorem enters37 : Enters 37 := fun _ _ => by kernel_rfl
set_option maxHeartbeats 1000000 in
theorem apart1_any (b1 b3 b4 b5 b6 j : Nat) (wa wb most : Int) (w : World) (ha : Rd encI w.heap.size w aa an za) (hb : Rd encI w.heap.size w ba bn zb) (hra : riseB za = true) (hrb : riseB zb = true) (hja : j < an) (hjb : j < bn) (han : an ≤ 9223372036854775807)
    (hwa : 0 < wa) (hwa1 : wa ≤ 18446744073709551615) (hwb : 0 < wb) (hwb1 : wb ≤ 18446744073709551615)
    (d1 : w.cell? ⟨b1, 0, none⟩ = some (.slice aa an ac)) (d3 : w.cell? ⟨b3, 0, none⟩ = some (.int .u64 wa)) (d4 : w.cell? ⟨b4, 0, none⟩ = some (.slice ba bn bc)) (d5 : w.cell? ⟨b5, 0, none⟩ = some (.int .u64 wb)) (d6 : w.cell? ⟨b6, 0, none⟩ = some (.int .i64 most)) :
    Calls Try.prog 37 #[.int .i64 (j : Int), .pointer (some ⟨b1, 0, none⟩), .pointer (some ⟨b3, 0, none⟩), .pointer (some ⟨b4, 0, none⟩), .pointer (some ⟨b5, 0, none⟩), .pointer (some ⟨b6, 0, none⟩)] w fun e w' => e = .returned (.bool (anyB j fun i => farB za zb wa wb most i j)) ∧ Below w.heap.size w w' := by
  have HA := Lib.hid ha
  have HB := Lib.hid hb
  have HRA := Lib.hid hra
  have HRB := Lib.hid hrb
  have l1 := World.block_lt_of_cell? w _ d1
  have l3 := World.block_lt_of_cell? w _ d3
  have l4 := World.block_lt_of_cell? w _ d4
  have l5 := World.block_lt_of_cell? w _ d5
  have l6 := World.block_lt_of_cell? w _ d6
  simp only at l1 l3 l4 l5 l6
  clear ha hb hra hrb
  go_enter Try.func37, Try.ntmps37
  go_wp2_with fail
  refine (among_any 38 #[.pointer (some ⟨b1, 0, none⟩), .pointer (some ⟨w.heap.size, 0, none⟩), .pointer (some ⟨b3, 0, none⟩), .pointer (some ⟨b4, 0, none⟩), .pointer (some ⟨b5, 0, none⟩), .pointer (some ⟨b6, 0, none⟩)] j (fun i => farB za zb wa wb most i j) _ (by omega) enters38 (fun i W hk hbW => ?_)).mono ?_
  · have hbB := nx (belowA w (.cells #[.int .i64 (j : Int)] 3)) hbW
    exact apart2_any (aa := aa) (ba := ba) (an := an) (bn := bn) (ac := ac) (bc := bc) b1 w.heap.size b3 b4 b5 b6 i j wa wb most W (HA.out.next hbB) (HB.out.next hbB) HRA.out HRB.out (by omega) hja hjb hwa hwa1 hwb hwb1 (cellb hbB l1 d1) (cellb hbW (by simp) (cnewb.trans rfl)) (cellb hbB l3 d3) (cellb hbB l4 d4) (cellb hbB l5 d5) (cellb hbB l6 d6)
  · rintro e w' ⟨rfl, hb1⟩
    have HX := Lib.hid (nx (belowA w (.cells #[.int .i64 (j : Int)] 3)) hb1)
    clear hb1
    go_wp2
    go_ret
    exact ⟨rfl, HX.out⟩
theorem apart_len (h : za.length ≠ zb.length) (wa wb most : Int) : apartB za zb wa wb most = false := by
  unfold apartB fitB
  have : (za.length == zb.length) = false := by simpa using h
  rw [this]; rfl
theorem apart_wa (wb most : Int) : apartB za zb 0 wb most = false := by unfold apartB fitB; simp
theorem apart_wb (wa most : Int) : apartB za zb wa 0 most = false := by unfold apartB fitB; simp
theorem apart_ra (h : riseB za = false) (wa wb most : Int) : apartB za zb wa wb most = false := by unfold apartB fitB; rw [h]; simp
theorem apart_rb (h : riseB zb = false) (wa wb most : Int) : apartB za zb wa wb most = false := by unfold apartB fitB; rw [h]; simp
theorem apart_is (hl : za.length = zb.length) {wa wb : Int} (ha : (wa == 0) = false) (hb : (wb == 0) = false) (hra : riseB za = true) (hrb : riseB zb = true) (most : Int) : apartB za zb wa wb most = !anyB za.length fun j => anyB j fun i => farB za zb wa wb most i j := by
  unfold apartB fitB; rw [hra, hrb, hl]
  have e1 : (wa != 0) = true := by simp at ha ⊢; exact ha
  have e2 : (wb != 0) = true := by simp at hb ⊢; exact hb
  rw [e1, e2]; simp
end
end Go.Proofs.Ytoclkhnejanlnaa
