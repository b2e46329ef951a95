/- The document's line. Conditions: the event's numbers are the machine's, its kind is from 1 to 15. -/
import Derived.Test.YtcboopkalpmglaaDoorEvHas
import Derived.Test.YtcboopkalpmglaaDoorEvBack
import Derived.Test.YtcboopkalpmglaaDoorEvFig
import Derived.Test.YtcboopkalpmglaaDoorEvMem
import Derived.Test.YtcboopkalpmglaaDoorMaskRefs
import Derived.Deep.Cut
namespace Go.Proofs.YtcboopkalpmglaaDoor
set_option linter.unusedVariables false
open Go.RowKit
/-- A line so far. -/
def lineTo (e : Ev) (i : Nat) : List Nat := wordL e.k ++ ((formL e.k).take i).flatMap fun c => 32 :: fldT e c
theorem lineTo_all (e : Ev) {i : Nat} (h : (formL e.k).length ≤ i) : lineTo e i = lineT e := by
  unfold lineTo lineT; rw [List.take_of_length_le h]
theorem lineTo_succ (e : Ev) (i : Nat) {c : Nat} (h : (formL e.k)[i]? = some c) : lineTo e (i + 1) = lineTo e i ++ 32 :: fldT e c := by
  unfold lineTo
  rw [List.take_add_one, h, Option.toList_some, List.flatMap_append, ← List.append_assoc]
  simp
theorem form_letter {k : Int} {i c : Nat} (h : (formL k)[i]? = some c) : c = 97 ∨ c = 98 ∨ c = 110 ∨ c = 109 ∨ c = 115 := by
  have hm := List.mem_of_getElem? h
  rcases form_cases k with hf | hf | hf | hf | hf | hf <;> rw [hf] at hm <;> simp at hm <;> omega
theorem form_len (k : Int) : (formL k).length ≤ 3 := by
  rcases form_cases k with hf | hf | hf | hf | hf | hf <;> rw [hf] <;> simp
theorem form_at {k : Int} {i : Nat} (hi : i < (str (formL k)).size) : ∃ c, (formL k)[i]? = some c ∧ ((str (formL k))[i]'hi).toNat = c := by
  have hm : ∀ x ∈ formL k, x < 256 := by
    intro x hx
    rcases form_cases k with hf | hf | hf | hf | hf | hf <;> rw [hf] at hx <;> simp at hx <;> omega
  have h1 := bl_at hi
  rw [bl_str hm] at h1
  exact ⟨_, h1, rfl⟩
theorem str_sp (S : ByteArray) (x y : List Nat) (h : S = str x) : S ++ { data := #[32] } ++ str y = str (x ++ 32 :: y) := by
  subst h
  rw [show ({ data := #[32] } : ByteArray) = str [32] from rfl, str_app, str_app]
  congr 1; simp
theorem str_no (x : List Nat) (u : Nat) (h : u = 0) : str x ++ { data := #[32] } ++ { data := #[110, 111, 110, 101] } ++ str (textL u) = str (x ++ 32 :: maskT u) := by
  subst h
  rw [show ({ data := #[32] } : ByteArray) = str [32] from rfl, show ({ data := #[110, 111, 110, 101] } : ByteArray) = str noneL from rfl, show textL 0 = [] by decide +kernel, show maskT 0 = noneL by decide +kernel, str_app, str_app, str_app]
  congr 1; simp
theorem len_sp {x y : List Nat} {i : Nat} (h : x.length ≤ 6 + 200 * i) (hy : y.length ≤ 192) : (x ++ 32 :: y).length ≤ 6 + 200 * (i + 1) := by
  simp; omega
theorem one_of {w V : World} {A : Obj} (h : w.alloc A = V) : V.heap[w.heap.size]? = some A ∧ Below w.heap.size w V := by
  subst h
  exact ⟨block_alloc w A, belowA w A⟩
theorem words_after {V w1 : World} (h : w1 = V.drew.alloc (.cells wordCs 9)) {j : Nat} (hj : j < 15) : w1.cell? ⟨V.heap.size, j, none⟩ = some (.string (str (wordL ((j : Int) + 1)))) ∧ Below V.heap.size V w1 := by
  subst h
  exact ⟨word_cell (w := V.drew) hj, (Below.refl _ _).drew.alloc (Nat.le_refl _) _⟩
set_option maxRecDepth 20000 in
set_option maxHeartbeats 4000000 in
theorem refLine_any (e : Ev) (w : World) (hok : e.Ok) (h1 : 1 ≤ e.k) (h2 : e.k ≤ 15) :
    Calls Tryd.prog 30 #[evV e] w fun x w' => x = .returned (.string (str (lineT e))) ∧ Below w.heap.size w w' := by
  have HOK := Lib.hid hok
  have HLS := Lib.hid (fun i => @lineTo_succ e i)
  have HLA := Lib.hid (fun i => @lineTo_all e i)
  have H0 := Lib.hid (show wordL e.k = lineTo e 0 by unfold lineTo; simp)
  have HFA := Lib.hid (show ∀ c, fldT e c = if c = 115 then maskT e.s else dec (fldI e c) from fun c => rfl)
  have HML := Lib.hid (mask_len hok.s)
  have HWL := Lib.hid (word_len e.k)
  have ka := hok.a
  have kb := hok.b
  have kn := hok.n
  have km := hok.m
  have ks := hok.s
  generalize hL : lineTo e = L at HLS HLA H0
  generalize hF : fldT e = F at HLS HFA
  obtain ⟨k, a, b, n, m, u⟩ := e
  simp only at h1 h2 ka kb kn km ks
  clear hL hF hok
  obtain ⟨j, hj, hkj⟩ : ∃ j : Nat, j < 15 ∧ k = j + 1 := ⟨(k - 1).toNat, by omega, by omega⟩
  have hw : IntKind.i64.wrap (k - 1) = (j : Int) := by simp [IntKind.wrap, IntKind.signed, IntKind.bits]; omega
  have hj1 : (j : Int) < 15 := by omega
  have hj2 : ¬ (j : Int) < 0 := by omega
  have HKJ := Lib.hid hkj
  clear hkj
  unfold evV
  go_enter Tryd.func30, Tryd.ntmps30
  go_upto_region 1 with (fail)
  generalize hV : World.alloc w _ = V
  have HT := Lib.hid (one_of hV)
  have HB := Lib.hid HT.out.2
  have hB0 := HT.out.1
  have c0 := block_cell (i := 0) hB0 rfl
  have s0 := block_lt hB0
  have HB0 := Lib.hid hB0
  clear hV hB0 HT
  go_region_with (first
    | (go_at_call 16; refine (refWords_any _).mono ?_; rintro x w1 ⟨rfl, hw1⟩
       obtain ⟨hwc, hbw⟩ := words_after hw1 hj
       have hk2 := cellb hbw s0 c0
       have HBW := Lib.hid hbw
       clear hw1 hbw))
  all_goals
    go_wp2_with fail
    refine (form_any k _).mono ?_
    rintro x w2 ⟨rfl, rfl⟩
    go_wp2_with fail
    go_loopw [3, 5] (fun vo vi wr => ∃ i : Nat, vi = .int .i64 (i : Int) ∧ vo = .string (str (L i)) ∧ i ≤ (str (formL k)).size ∧ (L i).length ≤ 6 + 200 * i ∧ Below V.heap.size V wr) (fun _ vi _ => (str (formL k)).size - (intOf vi).toNat)
    case atStart => exact ⟨0, rfl, by rw [← H0.out, HKJ.out], Nat.zero_le _, by rw [← H0.out]; exact HWL.out, HBW.out⟩
    case round =>
      obtain ⟨i, rfl, rfl, hi, hln, hr⟩ := hrel
      have HR := Lib.hid hr
      have hvs := hr.size
      have hB1 := (hr.block _ s0).trans HB0.out
      have c0 := block_cell (i := 0) hB1 rfl
      have c1 := block_cell (i := 1) hB1 rfl
      have c2 := block_cell (i := 2) hB1 rfl
      have c3 := block_cell (i := 3) hB1 rfl
      have c4 := block_cell (i := 4) hB1 rfl
      have c5 := block_cell (i := 5) hB1 rfl
      have hf3 : (str (formL k)).size ≤ 3 := by rw [str_size]; exact form_len k
      have z1 : (str (L i)).size ≤ 700 := by rw [str_size]; omega
      clear hr hB1
      by_cases hlt : i < (str (formL k)).size
      · have hlt' : (i : Int) < ((str (formL k)).size : Int) := by omega
        obtain ⟨c, hc, hcb⟩ := form_at hlt
        rcases form_letter hc with rfl | rfl | rfl | rfl | rfl
        · have hci : (((str (formL k))[i]'hlt).toNat : Int) = 97 := by rw [hcb]; rfl
          have HN := Lib.hid (HLS.out i hc)
          have z2 : (str (dec a)).size ≤ 192 := by
            have := fld_len HOK.out 97
            rw [str_size]; exact this
          clear hcb hc
          go_wp2_with fail
          refine (fig_any a.natAbs a _ (Nat.le_refl _) ka.1 ka.2).mono ?_
          rintro x w3 ⟨rfl, hb3⟩
          have HB3 := Lib.hid (HR.out.trans (hb3.mono hvs))
          clear hb3
          go_wp2
          go_roundw
          case rel => exact ⟨i + 1, by go_num, by rw [HN.out, HFA.out]; exact congrArg Value.string (str_sp _ _ _ rfl), hlt, by rw [HN.out, HFA.out]; exact len_sp (by omega) (by rw [← str_size]; exact z2), HB3.out⟩
          case measure => simp [intOf]; omega
        · have hci : (((str (formL k))[i]'hlt).toNat : Int) = 98 := by rw [hcb]; rfl
          have HN := Lib.hid (HLS.out i hc)
          have z2 : (str (dec b)).size ≤ 192 := by
            have := fld_len HOK.out 98
            rw [str_size]; exact this
          clear hcb hc
          go_wp2_with fail
          refine (fig_any b.natAbs b _ (Nat.le_refl _) kb.1 kb.2).mono ?_
          rintro x w3 ⟨rfl, hb3⟩
          have HB3 := Lib.hid (HR.out.trans (hb3.mono hvs))
          clear hb3
          go_wp2
          go_roundw
          case rel => exact ⟨i + 1, by go_num, by rw [HN.out, HFA.out]; exact congrArg Value.string (str_sp _ _ _ rfl), hlt, by rw [HN.out, HFA.out]; exact len_sp (by omega) (by rw [← str_size]; exact z2), HB3.out⟩
          case measure => simp [intOf]; omega
        · have hci : (((str (formL k))[i]'hlt).toNat : Int) = 110 := by rw [hcb]; rfl
          have HN := Lib.hid (HLS.out i hc)
          have z2 : (str (dec n)).size ≤ 192 := by
            have := fld_len HOK.out 110
            rw [str_size]; exact this
          clear hcb hc
          go_wp2_with fail
          refine (fig_any n.natAbs n _ (Nat.le_refl _) kn.1 kn.2).mono ?_
          rintro x w3 ⟨rfl, hb3⟩
          have HB3 := Lib.hid (HR.out.trans (hb3.mono hvs))
          clear hb3
          go_wp2
          go_roundw
          case rel => exact ⟨i + 1, by go_num, by rw [HN.out, HFA.out]; exact congrArg Value.string (str_sp _ _ _ rfl), hlt, by rw [HN.out, HFA.out]; exact len_sp (by omega) (by rw [← str_size]; exact z2), HB3.out⟩
          case measure => simp [intOf]; omega
        · have hci : (((str (formL k))[i]'hlt).toNat : Int) = 109 := by rw [hcb]; rfl
          have HN := Lib.hid (HLS.out i hc)
          have z2 : (str (dec m)).size ≤ 192 := by
            have := fld_len HOK.out 109
            rw [str_size]; exact this
          clear hcb hc
          go_wp2_with fail
          refine (fig_any m.natAbs m _ (Nat.le_refl _) km.1 km.2).mono ?_
          rintro x w3 ⟨rfl, hb3⟩
          have HB3 := Lib.hid (HR.out.trans (hb3.mono hvs))
          clear hb3
          go_wp2
          go_roundw
          case rel => exact ⟨i + 1, by go_num, by rw [HN.out, HFA.out]; exact congrArg Value.string (str_sp _ _ _ rfl), hlt, by rw [HN.out, HFA.out]; exact len_sp (by omega) (by rw [← str_size]; exact z2), HB3.out⟩
          case measure => simp [intOf]; omega
        · have hci : (((str (formL k))[i]'hlt).toNat : Int) = 115 := by rw [hcb]; rfl
          have HN := Lib.hid (HLS.out i hc)
          clear hcb hc
          by_cases hu : u = 0
          · have hu0 : ((u : Int) == 0) = true := by subst hu; rfl
            have HU := Lib.hid hu
            clear hu
            go_wp2_with fail
            refine (refText_any u _ ks).mono ?_
            rintro x w3 ⟨rfl, hb3⟩
            have HB3 := Lib.hid (HR.out.trans (hb3.mono hvs))
            clear hb3
            have z2 : (str (textL u)).size ≤ 192 := by rw [HU.out]; decide +kernel
            go_wp2
            go_roundw
            case rel => exact ⟨i + 1, by go_num, by rw [HN.out, HFA.out]; exact congrArg Value.string (str_no _ _ HU.out), hlt, by rw [HN.out, HFA.out]; exact len_sp (by omega) HML.out, HB3.out⟩
            case measure => simp [intOf]; omega
          · have hu0 : ((u : Int) == 0) = false := by simp; omega
            have HU := Lib.hid (show maskT u = textL u by unfold maskT; rw [if_neg hu])
            clear hu
            go_wp2_with fail
            refine (refText_any u _ ks).mono ?_
            rintro x w3 ⟨rfl, hb3⟩
            have HB3 := Lib.hid (HR.out.trans (hb3.mono hvs))
            clear hb3
            have z2 : (str (textL u)).size ≤ 192 := by rw [str_size, ← HU.out]; exact HML.out
            go_wp2
            go_roundw
            case rel => exact ⟨i + 1, by go_num, by rw [HN.out, HFA.out, if_pos rfl, HU.out]; exact congrArg Value.string (str_sp _ _ _ rfl), hlt, by rw [HN.out, HFA.out]; exact len_sp (by omega) HML.out, HB3.out⟩
            case measure => simp [intOf]; omega
      · have hlt' : ¬ (i : Int) < ((str (formL k)).size : Int) := by omega
        have HE := Lib.hid (HLA.out i (by show (formL k).length ≤ i; rw [← str_size]; omega))
        go_wp2
        go_ret
        exact ⟨congrArg (fun l => Ending.returned (Value.string (str l))) HE.out, HB.out.trans (HR.out.mono (by omega))⟩
end Go.Proofs.YtcboopkalpmglaaDoor
