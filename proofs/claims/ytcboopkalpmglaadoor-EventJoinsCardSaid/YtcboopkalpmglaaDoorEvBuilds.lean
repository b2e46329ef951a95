/- DERIVED: THE SHELF's CONTRACTS AT THIS DUMP, IN PLAIN WORDS (tools/lay-plain.mjs out of 'TrydShelf.lean', which tools/lay-shelf.mjs wrote): THE SAME DECLARATIONS UNDER THE SAME NAMES: 'import', 'namespace', 'open', 'def', 'theorem' AND NOTHING ELSE: no command of the shelf's: FOR A HAND-IN. Each laying: the table of numbers ('.._ren') and one theorem, a field a fact of the dump's own or the kernel's comparison; each contract: ONE APPLICATION. A Builder that the call itself has made is written: copyCheck and WriteString, over this program's own text. Conditions: as each says. A row of bytes of the call's own: a text and a byte behind it, and its text. Conditions: as each says. A Builder of the call's own is written, and all blocks of another kind are kept; its text. Conditions: as each says. -/
import Derived.Shelf.Strings.Builder1
import Derived.Shelf.LaysM
import Derived.Test.YtcboopkalpmglaaDoorProg
import Derived.Lib.Strings
import Derived.Lib.Slices
import Derived.Lib.Walk
import Derived.Lib.Builder
import Derived.Lib.AppendStr
import Derived.Lib.UnsafeStr
import Derived.Lib.MakeNoZero
import Derived.WalkKit
import Derived.Laws.Externs
import Derived.Laws.IdiomCopy
import Derived.Laws.BitsLemmas
import Derived.Below
import Derived.Lib.Hide
import Derived.Test.YtcboopkalpmglaaDoorEvMem
import Derived.Laws.BytesArg
import Derived.Lib.OthersKept
namespace Go.Proofs
open Go.Shelf
def Tryd.sb_lays169_ren : Go.Shelf.Ren := ⟨fun | 169 => 29 | n => n, fun | 70 => 55 | 9 => 9 | 0 => 0 | 72 => 58 | 37 => 56 | 127 => 89 | 3 => 3 | 5 => 5 | n => n, fun | n => n⟩
theorem Tryd.sb_lays169 : Go.Proofs.Lays.n169 Tryd.prog Tryd.sb_lays169_ren := {
  mixed := by kernel_rfl
  f169 := Tryd.func29.trans (congrArg some (by kernel_rfl))
  t0 := Tryd.underlying0
  a0 := Tryd.isAgg0
  z0 := Tryd.sizeOf0
  v0 := Tryd.zeroValue0
  t3 := Tryd.underlying3
  a3 := Tryd.isAgg3
  z3 := Tryd.sizeOf3
  v3 := Tryd.zeroValue3
  t9 := Tryd.underlying9
  a9 := Tryd.isAgg9
  z9 := Tryd.sizeOf9
  v9 := Tryd.zeroValue9
  t37 := Tryd.underlying56
  a37 := Tryd.isAgg56
  z37 := Tryd.sizeOf56
  v37 := Tryd.zeroValue56
  t70 := Tryd.underlying55
  a70 := Tryd.isAgg55
  z70 := Tryd.sizeOf55
  v70 := Tryd.zeroValue55
  t72 := Tryd.underlying58
  a72 := Tryd.isAgg58
  z72 := Tryd.sizeOf58
  v72 := Tryd.zeroValue58
  t127 := Tryd.underlying89
  a127 := Tryd.isAgg89
  z127 := Tryd.sizeOf89
  v127 := Tryd.zeroValue89 }
theorem Tryd.sb_Builder_Extra_169 : Builder.Extra Tryd.prog Tryd.sb_lays169_ren := {
  sizeBuilder := by kernel_rfl
  liesBuilder := by kernel_rfl
  t5 := Tryd.underlying5
  a5 := Tryd.isAgg5
  z5 := Tryd.sizeOf5
  v5 := Tryd.zeroValue5
  infoByte := by kernel_rfl
  cellsByte := by kernel_rfl
  sizeByte := by kernel_rfl
  neB5 := by decide }
open Go.RowKit in
theorem Tryd.sb_Builder_String_any (B b : Nat) (l : List UInt8) (w : World) (h : Lib.IsBuilder 58 5 B b (Lib.byteCells l) w) (hBw : B ≤ w.heap.size) :
    Calls Tryd.prog 29 #[.pointer (some ⟨b, 0, none⟩)] w fun e w' => e = .returned (.string ⟨l.toArray⟩) ∧ Below B w w' := Any.Builder_String_any Tryd.sb_lays169 Tryd.sb_Builder_Extra_169 B b l w h hBw
end Go.Proofs
namespace Go.Proofs.YtcboopkalpmglaaDoor
set_option linter.unusedVariables false
open Go.RowKit
theorem sizeBuilder : (Tryd.prog.info? 58).map (·.size) = some 2 := by kernel_rfl
theorem liesBuilder : liesAt Tryd.prog Tryd.prog.depth 58 (2 / Tryd.prog.cellsOf 58) 0 58 1 = true := by kernel_rfl
theorem byteInfo : (Tryd.prog.info? 5).map (fun i => (i.zero, i.size, i.bytes)) = some (some (.int .u8 0), 1, 1) := by kernel_rfl
set_option maxHeartbeats 1000000 in
set_option maxRecDepth 100000 in
theorem check_used (b : Nat) (w : World) (h0 : w.cell? ⟨b, 0, none⟩ = some (.pointer (some ⟨b, 0, none⟩))) :
    Calls Tryd.prog 39 #[.pointer (some ⟨b, 0, none⟩)] w fun e w' => e = .returned (.tuple #[]) ∧ w = w' := by
  obtain ⟨j, hj, _⟩ := Option.map_eq_some_iff.1 sizeBuilder
  go_enter Tryd.func39, Tryd.ntmps39
  go_wp2
  rw [Lib.run_neq_ptr_same w _ Tryd.underlying55 hj]
  go_wp2
  go_end0
  exact ⟨rfl, rfl⟩
set_option maxHeartbeats 1000000 in
set_option maxRecDepth 100000 in
theorem check_fresh (b : Nat) (w : World) (h0 : w.cell? ⟨b, 0, none⟩ = some (.pointer none)) (hsh : w.shape? b = some (58, 2)) (hfz : w.frozen? ⟨b, 0, none⟩ = false) :
    Calls Tryd.prog 39 #[.pointer (some ⟨b, 0, none⟩)] w fun e w' => e = .returned (.tuple #[]) ∧ w' = w.setCell ⟨b, 0, none⟩ (.pointer (some ⟨b, 0, none⟩)) := by
  obtain ⟨j, hj, hjs⟩ := Option.map_eq_some_iff.1 sizeBuilder
  go_enter Tryd.func39, Tryd.ntmps39
  go_wp2
  rw [Lib.run_to_unsafe w ⟨b, 0, none⟩ Tryd.underlying55 Tryd.underlying100 hj (by rw [hjs]; decide) hsh (Nat.zero_lt_succ 1)]
  simp only [Result.andThen]
  rw [Oper.upon_value]
  go_wp2
  rw [run_callFunc_extern Tryd.func53 (by kernel_rfl) (by kernel_rfl) (by kernel_rfl) (e := Extern.AbiNoEscape.same) (by kernel_rfl)]
  rw [Lib.run_noEscape]
  simp only [Result.andThen]
  rw [Oper.upon_value]
  go_wp2
  rw [Lib.run_from_unsafe w ⟨b, 0, none⟩ Tryd.underlying100 Tryd.underlying55 hj hsh liesBuilder]
  simp only [Result.andThen]
  rw [Oper.upon_value]
  go_wp2
  go_end0
  exact ⟨rfl, rfl⟩
/-- Behind copyCheck the Builder is 'used'. -/
theorem check_any (B b : Nat) (bs : List Value) (w : World) (h : Lib.IsBuilder 58 5 B b bs w) :
    Calls Tryd.prog 39 #[.pointer (some ⟨b, 0, none⟩)] w fun e w' => e = .returned (.tuple #[]) ∧ (Lib.BuilderAt 58 5 B b (.pointer (some ⟨b, 0, none⟩)) bs w' ∧ Below B w w') := by
  rcases h with h | h
  · refine (check_fresh b w h.cell0 h.shape h.frozen0).mono ?_
    rintro e w' ⟨rfl, rfl⟩
    exact ⟨rfl, h.used _, (Below.refl B w).setCell (p := ⟨b, 0, none⟩) h.1 _⟩
  · refine (check_used b w h.cell0).mono ?_
    rintro e w' ⟨rfl, rfl⟩
    exact ⟨rfl, h, Below.refl _ _⟩
set_option maxHeartbeats 1000000 in
set_option maxRecDepth 100000 in
theorem write_any (B b : Nat) (bs : List Value) (s : ByteArray) (w : World) (h : Lib.IsBuilder 58 5 B b bs w) (hlen : bs.length + s.size ≤ 140737488355328) (hBw : B ≤ w.heap.size) :
    Calls Tryd.prog 26 #[.pointer (some ⟨b, 0, none⟩), .string s] w fun e w' => e = .returned (.tuple #[.int .i64 s.size, .nilIface]) ∧ (Lib.BuilderAt 58 5 B b (.pointer (some ⟨b, 0, none⟩)) (bs ++ Lib.strCells s) w' ∧ Below B w w') := by
  obtain ⟨i0, hi, hz0, hz1, hz2⟩ := info_parts byteInfo
  have HH := Lib.hid h
  clear h
  go_enter Tryd.func26, Tryd.ntmps26
  go_wp2_with fail
  refine (check_any B b bs _ HH.out).mono ?_
  rintro e w1 ⟨rfl, h1, hb1⟩
  obtain ⟨hB, v, hbk, hown, hne⟩ := h1
  have c0 : w1.cell? ⟨b, 0, none⟩ = some (.pointer (some ⟨b, 0, none⟩)) := by rw [Lib.cell_of_heap hbk]; rfl
  have c1 : w1.cell? ⟨b, 1, none⟩ = some v := by rw [Lib.cell_of_heap hbk]; rfl
  go_wp2_with (at_builtin; refine Lib.wpList_append_own_string _ rfl _ _ 56 9 rfl B 5 i0 Tryd.underlying56 Tryd.underlying9 hi hz0 hz1 hz2 _ _ _ rfl hown s rfl ?c3 ?c4 ?c5 ?_)
  case c3 => unfold maxLen; omega
  case c4 => omega
  case c5 => have := hb1.size; omega
  intro v' w2 hown' hgrow _
  have hlt : b < w1.heap.size := (Array.getElem?_eq_some_iff.1 hbk).1
  have hb2 : w2.heap[b]? = some (.cells #[.pointer (some ⟨b, 0, none⟩), v] 58 (0, 0)) := by
    rw [hgrow.block b hlt (fun e => hne e.symm)]
    exact hbk
  have d0 : w2.cell? ⟨b, 0, none⟩ = some (.pointer (some ⟨b, 0, none⟩)) := by rw [Lib.cell_of_heap hb2]; rfl
  have d1 : w2.cell? ⟨b, 1, none⟩ = some v := by rw [Lib.cell_of_heap hb2]; rfl
  have f1 : w2.frozen? ⟨b, 1, none⟩ = false := Lib.frozen_of_heap hb2 1
  obtain ⟨ao, n', cap, rfl⟩ : ∃ ao n' cap, v' = .slice ao n' cap := by
    rcases hown'.2 with ⟨hv, _⟩ | ⟨g, cap, cur, hv, _⟩
    · exact ⟨_, _, _, hv⟩
    · exact ⟨_, _, _, hv⟩
  go_wp2
  go_ret2
  refine ⟨rfl, ?_, ?_⟩
  · exact Lib.BuilderAt.put (T := 58) (e := 5) hB hb2 (bs' := bs ++ Lib.strCells s) (by simpa [Lib.strCells_length] using hown') (by decide)
  · exact (hb1.grown hgrow (by have := hb1.size; omega) (fun k hk => (hown.lt k hk).1)).setCell (p := ⟨b, 1, none⟩) hB _
end Go.Proofs.YtcboopkalpmglaaDoor
namespace Go.Proofs.YtcboopkalpmglaaDoor
set_option linter.unusedVariables false
open Go.RowKit
def encB : Enc Nat := ⟨1, fun x => [.int .u8 (x : Int)], fun _ => rfl, fun _ u h => by simp at h; subst h; rfl, by decide⟩
theorem encB_all (zs : List Nat) : encB.all zs = zs.map fun x : Nat => Value.int .u8 (x : Int) := by
  induction zs with
  | nil => rfl
  | cons z zs ih => show [Value.int .u8 (z : Int)] ++ encB.all zs = _; rw [ih]; rfl
theorem encB_str (s : ByteArray) : encB.all (bl s) = Lib.strCells s := by
  rw [encB_all]; unfold bl Lib.strCells; rw [List.map_map]; rfl
theorem Own.next {α : Type} {E : Enc α} {W W' : World} {B T n : Nat} {v : Value} {zs : List α} (h : Own E W B T v n zs) (hb : Below W.heap.size W W') : Own E W' B T v n zs := by
  refine ⟨h.1, ?_⟩
  rcases h.2 with h2 | ⟨g, cap, cur, e, hg, hc, r⟩
  · exact .inl h2
  · exact .inr ⟨g, cap, cur, e, hg, (hb.block g (Array.getElem?_eq_some_iff.1 hc).1).trans hc, r⟩
/-- A text more. -/
theorem append_bs {ops : Array Oper} {rest : List Oper} {o : Oper} {a : Act} {Q : Exit → Act → World → Prop} {w : World} (hgd : o.guard = none) (s x : Operand)
    (ho : o.op = .call { callee := .builtin .append, args := #[s, x], argTypes := #[56, 9] })
    (base : Nat) (v : Value) (n : Nat) (zs : List Nat) (hs : a.eval s = v) (hown : Own encB w base 5 v n zs) (y : ByteArray) (hx : a.eval x = .string y)
    (hn : n + y.size ≤ 100000000) (hbase : base ≤ w.heap.size)
    (h : ∀ v' w', Own encB w' base 5 v' (n + y.size) (zs ++ bl y) → w.grownBy w' v.ownBlock → wpList Tryd.prog ops Q rest (a.put o.dst v') w') : wpList Tryd.prog ops Q (o :: rest) a w := by
  obtain ⟨i0, hi, hz0, hz1, hz2⟩ := info_parts byteInfo
  refine Lib.wpList_append_own_string _ hgd s x 56 9 ho base 5 i0 Tryd.underlying56 Tryd.underlying9 hi hz0 hz1 hz2 v n _ hs hown y hx (by unfold maxLen; omega) (by omega) hbase ?_
  intro v' w' g1 g2 _
  exact h v' w' (by unfold Own; rw [Enc.all_append, encB_str]; exact g1) g2
/-- A byte more. -/
theorem append_b1 {ops : Array Oper} {rest : List Oper} {o : Oper} {a : Act} {Q : Exit → Act → World → Prop} {w : World} (hgd : o.guard = none) (s x : Operand)
    (ho : o.op = .call { callee := .builtin .append, args := #[s, x], argTypes := #[56, 56] })
    (base : Nat) (v : Value) (n : Nat) (zs : List Nat) (hs : a.eval s = v) (hown : Own encB w base 5 v n zs) (b c : Nat) (y : Nat) (hx : a.eval x = .slice (some ⟨b, 0, none⟩) 1 c)
    (h0 : w.cell? ⟨b, 0, none⟩ = some (.int .u8 (y : Int))) (hn : n ≤ 100000000) (hbase : base ≤ w.heap.size)
    (h : ∀ v' w', Own encB w' base 5 v' (n + 1) (zs ++ [y]) → w.grownBy w' v.ownBlock → wpList Tryd.prog ops Q rest (a.put o.dst v') w') : wpList Tryd.prog ops Q (o :: rest) a w := by
  obtain ⟨i0, hi, hz0, hz1, hz2⟩ := info_parts byteInfo
  refine wpList_append_own_at _ hgd s x 56 ho base 5 i0 _ 1 1 Tryd.underlying56 hi hz0 hz1 hz2 rfl (by decide) v n _ hs hown ⟨b, 0, none⟩ 1 c [.int .u8 (y : Int)] hx rfl ?_ ?_ (by unfold maxLen; omega) (by omega) hbase ?_
  · intro j u hj
    rw [addr_add, Nat.zero_add]
    have hj4 : j < 1 := by have := (List.getElem?_eq_some_iff.1 hj).1; simpa using this
    obtain rfl : j = 0 := by omega
    rw [h0]; simpa using hj
  · intro u hu
    simp at hu
    subst hu; rfl
  · intro v' w' g1 g2 _ _
    exact h v' w' (by unfold Own; rw [Enc.all_append]; exact g1) g2
/-- Its text. -/
theorem conv_own {w : World} {B n : Nat} {v : Value} {l : List Nat} (h : Own encB w B 5 v n l) : (convert 56 9 v).run Tryd.prog w = .ok (.string (str l)) w := by
  have hl : l.length = n := h.rd.1
  rcases h.2 with ⟨rfl, hn⟩ | ⟨g, cap, cur, rfl, hg, hc, hcap, hm, hs, ht⟩
  · have : l = [] := List.length_eq_zero_iff.1 (by omega)
    subst this
    exact run_convert_bytes_nil (P := Tryd.prog) w 56 5 Tryd.underlying56 Tryd.underlying5 0 0 9 Tryd.underlying9
  · have hcell := World.ownsRow.cells (w := w) (show w.ownsRow B 5 encB.c (.slice (some ⟨g, 0, none⟩) n cap) n (encB.all l) from h) (g := g) rfl
    have hr := run_convert_bytes_arg (P := Tryd.prog) w 56 5 Tryd.underlying56 Tryd.underlying5 g 0 n cap (l.map fun x : Nat => (x : Int)) (by simp [hl]) (fun i hi => by
      have := hcell i (.int .u8 ((l.map fun x : Nat => (x : Int)).getD i 0)) (by
        rw [encB_all, List.getD_eq_getElem?_getD, List.getElem?_map, List.getElem?_map, List.getElem?_eq_getElem (by omega : i < l.length)]; rfl)
      rw [addr_add] at this
      exact this) 9 Tryd.underlying9
    rw [hr]
    have : strOfNums (l.map fun x : Nat => (x : Int)) = str l := by
      unfold strOfNums str
      rw [List.map_map]; rfl
    rw [this]
end Go.Proofs.YtcboopkalpmglaaDoor
namespace Go.Proofs.YtcboopkalpmglaaDoor
set_option linter.unusedVariables false
open Go.RowKit
theorem others_set {b i : Nat} {w w' : World} {T : Nat} (h : Lib.OthersKept T (some b) w w') (v : Value) : Lib.OthersKept T (some b) w (w'.setCell ⟨b, i, none⟩ v) := fun k o hk hb ho =>
  (heap_setCell_other w' ⟨b, i, none⟩ k v (fun e => hb (congrArg some e))).trans (h k o hk hb ho)
theorem check_kept (B b : Nat) (bs : List Value) (w : World) (h : Lib.IsBuilder 58 5 B b bs w) :
    Calls Tryd.prog 39 #[.pointer (some ⟨b, 0, none⟩)] w fun e w' => e = .returned (.tuple #[]) ∧ (Lib.BuilderAt 58 5 B b (.pointer (some ⟨b, 0, none⟩)) bs w' ∧ Below B w w' ∧ Lib.OthersKept 5 (some b) w w') := by
  rcases h with h | h
  · refine (check_fresh b w h.cell0 h.shape h.frozen0).mono ?_
    rintro e w' ⟨rfl, rfl⟩
    exact ⟨rfl, h.used _, (Below.refl _ _).setCell (p := ⟨b, 0, none⟩) h.1 _, others_set (Lib.OthersKept.refl _ _ _) _⟩
  · refine (check_used b w h.cell0).mono ?_
    rintro e w' ⟨rfl, rfl⟩
    exact ⟨rfl, h, Below.refl _ _, Lib.OthersKept.refl _ _ _⟩
set_option maxHeartbeats 1000000 in
set_option maxRecDepth 100000 in
theorem write_kept (B b : Nat) (bs : List Value) (s : ByteArray) (w : World) (h : Lib.IsBuilder 58 5 B b bs w) (hlen : bs.length + s.size ≤ 140737488355328) (hBw : B ≤ w.heap.size) :
    Calls Tryd.prog 26 #[.pointer (some ⟨b, 0, none⟩), .string s] w fun e w' => e = .returned (.tuple #[.int .i64 s.size, .nilIface]) ∧ (Lib.BuilderAt 58 5 B b (.pointer (some ⟨b, 0, none⟩)) (bs ++ Lib.strCells s) w' ∧ Below B w w' ∧ Lib.OthersKept 5 (some b) w w') := by
  obtain ⟨i0, hi, hz0, hz1, hz2⟩ := info_parts byteInfo
  have HH := Lib.hid h
  clear h
  go_enter Tryd.func26, Tryd.ntmps26
  go_wp2_with fail
  refine (check_kept B b bs _ HH.out).mono ?_
  rintro e w1 ⟨rfl, h1, hb1, hk1⟩
  have HK1 := Lib.hid hk1
  clear hk1
  obtain ⟨hB, v, hbk, hown, hne⟩ := h1
  have c0 : w1.cell? ⟨b, 0, none⟩ = some (.pointer (some ⟨b, 0, none⟩)) := by rw [Lib.cell_of_heap hbk]; rfl
  have c1 : w1.cell? ⟨b, 1, none⟩ = some v := by rw [Lib.cell_of_heap hbk]; rfl
  go_wp2_with (at_builtin; refine Lib.wpList_append_own_string _ rfl _ _ 56 9 rfl B 5 i0 Tryd.underlying56 Tryd.underlying9 hi hz0 hz1 hz2 _ _ _ rfl hown s rfl ?c3 ?c4 ?c5 ?_)
  case c3 => unfold maxLen; omega
  case c4 => omega
  case c5 => have := hb1.size; omega
  intro v' w2 hown' hgrow _
  have hlt : b < w1.heap.size := (Array.getElem?_eq_some_iff.1 hbk).1
  have hb2 : w2.heap[b]? = some (.cells #[.pointer (some ⟨b, 0, none⟩), v] 58 (0, 0)) := by
    rw [hgrow.block b hlt (fun e => hne e.symm)]
    exact hbk
  have HK2 := Lib.hid (show Lib.OthersKept 5 (some b) w1 w2 from fun k o hk _ ho => (hgrow.block k (Array.getElem?_eq_some_iff.1 hk).1 (fun e => by
    rcases hown.2 with ⟨hv, _⟩ | ⟨g, cap, cur, hv, _, hg, _⟩
    · rw [hv] at e; cases e
    · rw [hv] at e
      have : k = g := Option.some.inj e
      subst this
      exact ho _ _ (Option.some.inj (hk.symm.trans hg)))).trans hk)
  have d0 : w2.cell? ⟨b, 0, none⟩ = some (.pointer (some ⟨b, 0, none⟩)) := by rw [Lib.cell_of_heap hb2]; rfl
  have d1 : w2.cell? ⟨b, 1, none⟩ = some v := by rw [Lib.cell_of_heap hb2]; rfl
  have f1 : w2.frozen? ⟨b, 1, none⟩ = false := Lib.frozen_of_heap hb2 1
  obtain ⟨ao, n', cap, rfl⟩ : ∃ ao n' cap, v' = .slice ao n' cap := by
    rcases hown'.2 with ⟨hv, _⟩ | ⟨g, cap, cur, hv, _⟩
    · exact ⟨_, _, _, hv⟩
    · exact ⟨_, _, _, hv⟩
  go_wp2
  go_ret2
  refine ⟨rfl, ?_, ?_, ?_⟩
  · exact Lib.BuilderAt.put (T := 58) (e := 5) hB hb2 (bs' := bs ++ Lib.strCells s) (by simpa [Lib.strCells_length] using hown') (by decide)
  · exact (hb1.grown hgrow (by have := hb1.size; omega) (fun k hk => (hown.lt k hk).1)).setCell (p := ⟨b, 1, none⟩) hB _
  · exact others_set (HK1.out.trans HK2.out) _
/-- A Builder of the call's own that holds a text. -/
def Built (B b : Nat) (S : ByteArray) (w : World) : Prop := Lib.IsBuilder 58 5 B b (Lib.strCells S) w
theorem strCells_add (a b : ByteArray) : Lib.strCells a ++ Lib.strCells b = Lib.strCells (a ++ b) := by
  unfold Lib.strCells
  rw [← List.map_append]
  congr 1
theorem builderAt_next {B b : Nat} {p : Value} {bs : List Value} {w w' : World} (h : Lib.BuilderAt 58 5 B b p bs w) (hb : Below w.heap.size w w') : Lib.BuilderAt 58 5 B b p bs w' := by
  obtain ⟨hB, v, hk, ho, hne⟩ := h
  refine ⟨hB, v, (hb.block b (Array.getElem?_eq_some_iff.1 hk).1).trans hk, ⟨ho.1, ?_⟩, hne⟩
  rcases ho.2 with h2 | ⟨g, cap, cur, e, hg, hc, r⟩
  · exact .inl h2
  · exact .inr ⟨g, cap, cur, e, hg, (hb.block g (Array.getElem?_eq_some_iff.1 hc).1).trans hc, r⟩
theorem Built.next {B b : Nat} {S : ByteArray} {w w' : World} (h : Built B b S w) (hb : Below w.heap.size w w') : Built B b S w' := by
  rcases h with h | h
  · exact .inl (builderAt_next h hb)
  · exact .inr (builderAt_next h hb)
theorem Built.new (w : World) : Built w.heap.size w.heap.size (str []) (w.alloc (.cells #[.pointer none, .slice none 0 0] 58)) := Lib.fresh_isBuilder _ _ w
def WroteB (B b : Nat) (S : ByteArray) (w w' : World) : Prop := Built B b S w' ∧ Below B w w' ∧ Lib.OthersKept 5 (some b) w w'
theorem build_write (B b : Nat) (S s : ByteArray) (w : World) (h : Built B b S w) (hlen : S.size + s.size ≤ 140737488355328) (hBw : B ≤ w.heap.size) :
    Calls Tryd.prog 26 #[.pointer (some ⟨b, 0, none⟩), .string s] w fun e w' => e = .returned (.tuple #[.int .i64 s.size, .nilIface]) ∧ WroteB B b (S ++ s) w w' :=
  (write_kept B b _ s w h (by rw [Lib.strCells_length]; exact hlen) hBw).mono fun e w' ⟨h1, h2, h3, h4⟩ => ⟨h1, .inr (by rw [← strCells_add]; exact h2), h3, h4⟩
theorem build_text (B b : Nat) (S : ByteArray) (w : World) (h : Built B b S w) (hBw : B ≤ w.heap.size) :
    Calls Tryd.prog 29 #[.pointer (some ⟨b, 0, none⟩)] w fun e w' => e = .returned (.string S) ∧ Below B w w' :=
  (Tryd.sb_Builder_String_any B b S.data.toList w h hBw).mono fun e w' ⟨h1, h2⟩ => ⟨h1, h2⟩
theorem others_block {w w' : World} {b k T : Nat} {C : Array Value} (h : Lib.OthersKept 5 (some b) w w') (hk : w.heap[k]? = some (.cells C T (0, 0))) (hb : k ≠ b) (hT : T ≠ 5) : w'.heap[k]? = some (.cells C T (0, 0)) :=
  h k _ hk (fun e => hb (Option.some.inj e)) (fun c fz e => hT (by injection e))
end Go.Proofs.YtcboopkalpmglaaDoor
