/- What the rows' lists say of the library's variables, and the shape of the world: the events' functions' world. Conditions: as each says. -/
import Derived.Test.YtcboopkalpmglaaDoorRows
import Derived.Test.YtcboopkalpmglaaDoorEvWorld
import Derived.Lib.LaidTab
import Derived.LaidMore
import Derived.Stop.LaidErr
import Derived.Shelf.Vars
namespace Go.Proofs.YtcboopkalpmglaaDoor
set_option linter.unusedVariables false
open Go.RowKit
def nm64 : String := (Rows.eventParsesRow.laid.getD 1 ("", .nil)).1
theorem gTab : Tryd.prog.globalNamed nm64 = some 0 := by kernel_rfl
theorem gTabType : (Tryd.prog.globals[0]?).map (·.type) = some 125 := by kernel_rfl
theorem gPowType : (Tryd.prog.globals[2]?).map (·.type) = some 133 := by kernel_rfl
theorem gSynType : (Tryd.prog.globals[5]?).map (·.type) = some 60 := by kernel_rfl
theorem gRngType : (Tryd.prog.globals[6]?).map (·.type) = some 60 := by kernel_rfl
theorem cells64 : Tryd.prog.cellsOf 125 = 64 := by kernel_rfl
theorem cells8 : Tryd.prog.cellsOf 5 = 1 := by kernel_rfl
theorem cells20 : Tryd.prog.cellsOf 133 = 20 := by kernel_rfl
theorem cellsU : Tryd.prog.cellsOf 32 = 1 := by kernel_rfl
theorem lastGlobal : (((begin Tryd.prog (fun _ _ => 0) default).world.heap[7]?).bind Obj.row?).isSome = true := by kernel_rfl
theorem iface_head {n nm : String} {d : DataW Unit} {r : List (String × DataW Unit)} {W : World} {g : Nat} {ti : TypeId} {ms : Array (String × TypeId)}
    (h : laidMet Tryd.prog ((n, .iface nm d) :: r) W) (hg : Tryd.prog.globalNamed n = some g) (ht : (Tryd.prog.globals[g]?).map (·.type) = some ti) (hi : Tryd.prog.underlying ti = some (.interface ms)) :
    ∃ tp p, W.var? Tryd.prog n = some #[.iface tp p] := by
  obtain ⟨ps, ⟨g0, t0, cs0, f0, p0, q0, hg0, ht0, hv0, hd0, _, e0⟩, _, hrows⟩ := h
  obtain rfl := Option.some.inj (hg.symm.trans hg0)
  obtain rfl := Option.some.inj (ht.symm.trans ht0)
  obtain ⟨f', u, v, e, _, _⟩ := iface_of_trod hi hd0
  obtain ⟨l0⟩ := cs0
  have e : l0 = [.iface u v] := e
  subst e
  exact ⟨u, v, hv0⟩
def Known (w : World) : Prop := EvW w
theorem known_of {W : World} (h : laidMetH Tryd.prog Rows.eventParsesRow.laid W) (hs : W.ShapedOpen Tryd.prog) : Known W := by
  rw [MakeChecks.laidMetH_plain _ _ _ (by kernel_rfl)] at h
  have h1 := laidMet.tail (show laidMet Tryd.prog (_ :: _) W from h)
  have h2 := laidMet.tail (show laidMet Tryd.prog (_ :: _) W from h1)
  have h3 := laidMet.tail (show laidMet Tryd.prog (_ :: _) W from h2)
  have h4 := laidMet.tail (show laidMet Tryd.prog (_ :: _) W from h3)
  have h5 := laidMet.tail (show laidMet Tryd.prog (_ :: _) W from h4)
  have ht : Lib.TabIs Tryd.prog W nm64 .u8 (Lib.deBruijn64tab.map Int.ofNat) :=
    Lib.tabIs_of_head (g := 0) gTab gTabType Tryd.underlying125 Tryd.underlying5 cells8 cells64 h1
  refine ⟨?_, ?_, Tryd.laysM146.s1_3 W hs, ?_, ?_, ?_⟩
  · obtain ⟨⟨z, t⟩, hx⟩ := Option.isSome_iff_exists.1 lastGlobal
    obtain ⟨cs, hc, _⟩ := hs.1 7 z t (of_decide_eq_true (by kernel_rfl)) hx
    have := (Array.getElem?_eq_some_iff.1 hc).1
    omega
  · intro j hj
    have := ht.cell gTab j (by simpa using hj)
    rw [this]
    have e : ∀ (l : List Nat) (j : Nat), (l.map Int.ofNat).getD j 0 = ((l.getD j 0 : Nat) : Int) := fun l j => by rw [List.getD, List.getD, List.getElem?_map]; cases l[j]? <;> rfl
    rw [e]
  · exact Lib.tabIs_of_head (g := 2) gPow gPowType Tryd.underlying133 Tryd.underlying32 cellsU cells20 h2
  · exact iface_head (g := 5) h5 gSyn gSynType Tryd.underlying60
  · exact iface_head (g := 6) h4 gRng gRngType Tryd.underlying60
end Go.Proofs.YtcboopkalpmglaaDoor
