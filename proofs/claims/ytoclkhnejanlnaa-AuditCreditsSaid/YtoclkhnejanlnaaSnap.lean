/- A snapshot that came in, and slices of numbers, read as lists. No condition. -/
import Derived.Test.YtoclkhnejanlnaaOpen
import Derived.Test.YtoclkhnejanlnaaShown
namespace Go.Proofs.Ytoclkhnejanlnaa
set_option linter.unusedVariables false
open Go.ChangeShapes Go.WideShapes Go.ChangeAt Go.RowKit
section
variable {H : Type} {enc : TypeId × Value → H} {w : World} {base : Nat} {spare : Nat → Bool} {held : Bool}
theorem dec_int {T : Nat} {n : Nat} {cs : List Value} {y : DataW H × List MemPlace} (hT : Try.prog.underlying T = some (.int .i64)) (h : DataW.trod enc Try.prog w base spare held n T cs = some y) : ∃ z : Int, cs = [.int .i64 z] ∧ -9223372036854775808 ≤ z ∧ z ≤ 9223372036854775807 := by
  obtain ⟨z, e, _, f⟩ := DataW.trod_int hT h
  exact ⟨z, e, bounds_i64 f⟩
theorem dec_tk {n : Nat} {cs : List Value} {y : DataW H × List MemPlace} (h : DataW.trod enc Try.prog w base spare held n 31 cs = some y) (hl : cs.length = 4) : ∃ z : Tk, cs = encT.e z ∧ 0 ≤ z.m ∧ z.m ≤ 18446744073709551615 := by
  match cs, hl with
  | [u0, u1, u2, u3], _ =>
    obtain ⟨xs, m, _, rfl, _, hxl, hf⟩ := DataW.trod_struct Try.underlying31 h
    match xs, hxl with
    | [y0, y1, y2, y3], _ =>
      have e3 : Try.prog.cellsOf 3 = 1 := by kernel_rfl
      have e29 : Try.prog.cellsOf 29 = 1 := by kernel_rfl
      have t0 : DataW.trod enc Try.prog w base spare held m 3 (List.take (Try.prog.cellsOf 3) [u0, u1, u2, u3]) = some y0 := hf 0 _ rfl
      have t1 : DataW.trod enc Try.prog w base spare held m 3 (List.take (Try.prog.cellsOf 3) [u1, u2, u3]) = some y1 := hf 1 _ rfl
      have t2 : DataW.trod enc Try.prog w base spare held m 29 (List.take (Try.prog.cellsOf 29) [u2, u3]) = some y2 := hf 2 _ rfl
      have t3 : DataW.trod enc Try.prog w base spare held m 3 (List.take (Try.prog.cellsOf 3) [u3]) = some y3 := hf 3 _ rfl
      simp only [e3, e29, List.take] at t0 t1 t2 t3
      obtain ⟨n0, e0, _, _⟩ := DataW.trod_int Try.underlying3 t0
      obtain ⟨n1, e1, _, _⟩ := DataW.trod_int Try.underlying3 t1
      obtain ⟨n2, e2, _, f2⟩ := DataW.trod_int Try.underlying29 t2
      obtain ⟨n3, e3', _, _⟩ := DataW.trod_int Try.underlying3 t3
      simp only [List.cons.injEq, and_true] at e0 e1 e2 e3'
      subst e0 e1 e2 e3'
      exact ⟨⟨n0, n1, n2, n3⟩, rfl, bounds_u64 f2⟩
theorem dec_gr {n : Nat} {cs : List Value} {y : DataW H × List MemPlace} (h : DataW.trod enc Try.prog w base spare held n 34 cs = some y) (hl : cs.length = 2) : ∃ z : Gr, cs = encG.e z ∧ 0 ≤ z.stop ∧ z.stop ≤ 18446744073709551615 := by
  match cs, hl with
  | [u0, u1], _ =>
    obtain ⟨xs, m, _, rfl, _, hxl, hf⟩ := DataW.trod_struct Try.underlying34 h
    match xs, hxl with
    | [y0, y1], _ =>
      have e3 : Try.prog.cellsOf 3 = 1 := by kernel_rfl
      have e29 : Try.prog.cellsOf 29 = 1 := by kernel_rfl
      have t0 : DataW.trod enc Try.prog w base spare held m 3 (List.take (Try.prog.cellsOf 3) [u0, u1]) = some y0 := hf 0 _ rfl
      have t1 : DataW.trod enc Try.prog w base spare held m 29 (List.take (Try.prog.cellsOf 29) [u1]) = some y1 := hf 1 _ rfl
      simp only [e3, e29, List.take] at t0 t1
      obtain ⟨n0, e0, _, _⟩ := DataW.trod_int Try.underlying3 t0
      obtain ⟨n1, e1, _, f1⟩ := DataW.trod_int Try.underlying29 t1
      simp only [List.cons.injEq, and_true] at e0 e1
      subst e0 e1
      exact ⟨⟨n0, n1⟩, rfl, bounds_u64 f1⟩
/-- What the walk is told of a snapshot that came in. -/
def IsSnap (w : World) (v : Value) (s : Sn) : Prop := ∃ (ra ta ga : Option Addr) (rn rc tn tc gn gc : Nat), v = .agg #[.slice ra rn rc, .slice ta tn tc, .slice ga gn gc] ∧ Snp w.heap.size w s ra ta ga rn tn gn ∧ SnOk s ∧
  (rn ≤ rc ∧ rc ≤ 9223372036854775807 ∧ (ra = none → rn = 0 ∧ rc = 0)) ∧ (tn ≤ tc ∧ tc ≤ 9223372036854775807 ∧ (ta = none → tn = 0 ∧ tc = 0)) ∧ (gn ≤ gc ∧ gc ≤ 9223372036854775807 ∧ (ga = none → gn = 0 ∧ gc = 0))
theorem open_snap {v : Value} {d : DataW H} {p : List MemPlace} {b0 : Nat} (hv : Value.okWide Try.prog w .any b0 26 v) (h : DataW.Trod enc Try.prog w base spare held 26 v d p) : ∃ s, IsSnap w v s := by
  obtain ⟨v0, v1, v2, y0, y1, y2, n, rfl, _, _, h0, h1, h2⟩ := Go.Joins.open_agg3 Try.underlying26 (by kernel_rfl) (by kernel_rfl) hv h
  obtain ⟨ra, rn, rc, zr, e0, r1, r2, r3, r4, _⟩ := open_list encI (fun _ => True) Try.underlying22 (by kernel_rfl) (fun n cs y ht _ => by obtain ⟨z, e, _⟩ := dec_int Try.underlying3 ht; exact ⟨z, e, trivial⟩) h0
  obtain ⟨ta, tn, tc, zt, e1, t1, t2, t3, t4, t5⟩ := open_list encT (fun z => 0 ≤ z.m ∧ z.m ≤ 18446744073709551615) Try.underlying23 (by kernel_rfl) (fun n cs y ht hl => dec_tk ht hl) h1
  obtain ⟨ga, gn, gc, zg, e2, g1, g2, g3, g4, g5⟩ := open_list encG (fun z => 0 ≤ z.stop ∧ z.stop ≤ 18446744073709551615) Try.underlying24 (by kernel_rfl) (fun n cs y ht hl => dec_gr ht hl) h2
  simp only [List.cons.injEq, and_true] at e0 e1 e2
  subst e0 e1 e2
  refine ⟨⟨zr, zt, zg⟩, ra, ta, ga, rn, rc, tn, tc, gn, gc, rfl, ⟨r4, t4, g4⟩, ⟨fun i => ?_, fun i => ?_⟩, ⟨r1, r2, r3⟩, ⟨t1, t2, t3⟩, ⟨g1, g2, g3⟩⟩
  · by_cases hi : i < zt.length
    · exact t5 i _ (tat_at hi)
    · have : tat zt i = ⟨0, 0, 0, 0⟩ := by unfold tat; rw [List.getElem?_eq_none (by omega)]; rfl
      simp only [this]; exact ⟨by decide, by decide⟩
  · by_cases hi : i < zg.length
    · exact g5 i _ (gat_at hi)
    · have : gat zg i = ⟨0, 0⟩ := by unfold gat; rw [List.getElem?_eq_none (by omega)]; rfl
      simp only [this]; exact ⟨by decide, by decide⟩
/-- What the walk is told of a slice of numbers that came in. -/
def IsInts (w : World) (a : Option Addr) (len cap : Nat) (zs : List Int) : Prop := len ≤ cap ∧ cap ≤ 9223372036854775807 ∧ (a = none → len = 0 ∧ cap = 0) ∧ Rd encI w.heap.size w a len zs ∧ ∀ (i : Nat) (z : Int), zs[i]? = some z → -9223372036854775808 ≤ z ∧ z ≤ 9223372036854775807
theorem open_nums {T E fuel : Nat} {a : Option Addr} {len cap : Nat} {x : DataW H × List MemPlace} (hT : Try.prog.underlying T = some (.slice E)) (hE : Try.prog.underlying E = some (.int .i64)) (hC : Try.prog.cellsOf E = 1)
    (h : DataW.trod enc Try.prog w base spare held fuel T (Value.cells (.slice a len cap)).toList = some x) : ∃ zs, IsInts w a len cap zs := by
  obtain ⟨ra, rn, rc, zr, e0, r1, r2, r3, r4, r5⟩ := open_list encI (fun z => -9223372036854775808 ≤ z ∧ z ≤ 9223372036854775807) hT hC (fun n cs y ht _ => dec_int hE ht) h
  simp [Value.cells] at e0
  obtain ⟨rfl, rfl, rfl⟩ := e0
  exact ⟨zr, r1, r2, r3, r4, r5⟩
end
end Go.Proofs.Ytoclkhnejanlnaa
