/- event.Text. Conditions: the events' numbers are the machine's; below 100,000 events. -/
import Derived.Test.YtcboopkalpmglaaDoorEvContains
import Derived.Test.YtcboopkalpmglaaDoorEvBuilds
import Derived.Test.YtcboopkalpmglaaDoorEvMay
import Derived.Deep.Cut
namespace Go.Proofs.YtcboopkalpmglaaDoor
set_option linter.unusedVariables false
open Go.RowKit
/-- A field's text, whatever its kind. -/
theorem writeP_any (g c : Nat) (e : Ev) (w : World) (hw : EvW w) (hg : w.heap[g]? = some (.cells (evC e) 34 (0, 0))) (hok : e.Ok) (hc : c = 97 ∨ c = 98 ∨ c = 110 ∨ c = 109 ∨ c = 115) :
    Calls Tryd.prog 28 #[fldv g c] w fun x w' => x = .returned (.string (str (fldT e c))) ∧ Below w.heap.size w w' := by
  have hl := block_lt hg
  rcases hc with rfl | rfl | rfl | rfl | rfl
  · exact write_place g 1 e.a w hw (block_cell (i := 1) hg rfl) hl hok.a.1 hok.a.2
  · exact write_place g 2 e.b w hw (block_cell (i := 2) hg rfl) hl hok.b.1 hok.b.2
  · exact write_number g 3 e.n w hw (block_cell (i := 3) hg rfl) hl hok.n.1 hok.n.2
  · exact write_number g 4 e.m w hw (block_cell (i := 4) hg rfl) hl hok.m.1 hok.m.2
  · exact write_set g 5 e.s w hw (block_cell (i := 5) hg rfl) hl hok.s
theorem line_zero (e : Ev) : lineTo e 0 = wordL e.k := by unfold lineTo; simp
theorem word_in {w : World} {bw j : Nat} (h : w.heap[bw]? = some (.cells wordCs 9 (0, 0))) (hj : j < 15) : w.cell? ⟨bw, j, none⟩ = some (.string (str (wordL ((j : Int) + 1)))) := by
  refine block_cell h ?_
  unfold wordCs wordL
  rw [List.getElem?_toArray, List.getElem?_map, show ((j : Int) + 1).toNat - 1 = j by omega, List.getD_eq_getElem?_getD]
  have hj' : j < wordsL.length := hj
  rw [List.getElem?_eq_getElem hj']; rfl
theorem sp_text (S : ByteArray) (T x y : List Nat) (h : S = str (T ++ x)) : S ++ ({ data := #[32] } ++ str y) = str (T ++ (x ++ 32 :: y)) := by
  subst h
  rw [show ({ data := #[32] } : ByteArray) = str [32] from rfl, str_app, str_app]
  congr 1; simp
set_option maxRecDepth 20000 in
set_option maxHeartbeats 4000000 in
theorem text_prog (a : Option Addr) (n c : Nat) (zs : List Ev) (w : World) (hw : EvW w) (hz : Rd encEv w.heap.size w a n zs) (hn : n ≤ 100000) (hok : ∀ e ∈ zs, e.Ok) :
    Calls Tryd.prog 13 #[.slice a n c] w (TextGives (textRes zs) w) := by
  have lz := hz.1
  have HOK := Lib.hid hok
  have HW := Lib.hid hw
  have HZ := Lib.hid hz
  have hw8 := hw.lo
  clear hok hw hz
  go_enter Tryd.func13, Tryd.ntmps13
  go_wp2_with fail
  refine (contains_any a n c zs _ HZ.out (by omega)).mono ?_
  rintro x w1 ⟨rfl, hb1⟩
  have HB1 := Lib.hid hb1
  have h1s := hb1.size
  clear hb1
  cases hall : zs.all mayB with
  | false =>
    have HR := Lib.hid (show textRes zs = ([], 1) by unfold textRes; rw [if_pos hall])
    clear hall
    go_wp2
    go_ret2
    exact textGives_of HR.out rfl HB1.out
  | true =>
    have HA := Lib.hid (List.all_eq_true.1 hall)
    clear hall
    by_cases hbig : 1000 < n
    · have hbig' : (1000 : Int) < (n : Int) := by omega
      have HR := Lib.hid (res_full HA.out (by omega))
      go_wp2
      go_ret2
      exact textGives_of HR.out rfl HB1.out
    · have hbig' : ¬ (1000 : Int) < (n : Int) := by omega
      have HR := Lib.hid (res_ok HA.out (by omega))
      go_wp2_with fail
      generalize hV : World.alloc w1 _ = V
      have HT := Lib.hid (one_of hV)
      have HBV := Lib.hid (HB1.out.trans (HT.out.2.mono h1s))
      have HU := Lib.hid (hV ▸ Built.new w1 : Built w1.heap.size w1.heap.size (str []) V)
      have hvs := block_lt HT.out.1
      clear hV HT
      refine (words_any _).mono ?_
      rintro x w2 ⟨rfl, hw2⟩
      have HT := Lib.hid (one_of hw2.symm)
      have hwd := HT.out.1
      have HWD := Lib.hid hwd
      have h2s := block_lt hwd
      have HB2 := Lib.hid (HBV.out.trans (HT.out.2.mono (by omega)))
      have HU2 := Lib.hid (HU.out.next HT.out.2)
      clear hw2 HT hwd
      go_wp2_with fail
      go_loopw [18] (fun vi wr => ∃ i : Nat, i ≤ n ∧ vi = .int .i64 (i : Int) ∧ Built w1.heap.size w1.heap.size (str (evText (zs.take i))) wr ∧ (evText (zs.take i)).length ≤ 601 * i ∧ wr.heap[V.heap.size]? = some (.cells wordCs 9 (0, 0)) ∧ Below w.heap.size w wr) (fun vi _ => n - (intOf vi).toNat)
      case atStart => exact ⟨0, Nat.zero_le _, rfl, HU2.out, by simp [evText], HWD.out, HB2.out⟩
      case round =>
        obtain ⟨i, hi, rfl, hu, hln, hwd, hb⟩ := hrel
        have HUr := Lib.hid hu
        have HWr := Lib.hid hwd
        have HBr := Lib.hid hb
        have hrs := hb.size
        have hwl := block_lt hwd
        clear hu hb hwd
        by_cases hlt : i < n
        · have hlt' : (i : Int) < (n : Int) := by omega
          obtain ⟨bx, ox, rfl, hbx, hcx⟩ := rd_ev HZ.out (by omega)
          have HX := Lib.hid ((hcx i hlt).below HBr.out hbx)
          clear hcx
          have HTN := Lib.hid (text_next (l := zs) (i := i) (by omega))
          have HOE := Lib.hid (HOK.out _ (eat_mem (zs := zs) (j := i) (by omega)))
          have HME := Lib.hid (HA.out _ (eat_mem (zs := zs) (j := i) (by omega)))
          generalize eat zs i = e at HX HTN HOE HME
          generalize hT : evText (zs.take i) = T at HUr HTN hln
          have x0 := HX.out.c0
          have x1 := HX.out.c1
          have x2 := HX.out.c2
          have x3 := HX.out.c3
          have x4 := HX.out.c4
          have x5 := HX.out.c5
          have hll := line_len HOE.out
          have hmk := may_kind HME.out
          obtain ⟨j, hj, hkj⟩ : ∃ j : Nat, j < 15 ∧ e.k = j + 1 := ⟨(e.k - 1).toNat, by omega, by omega⟩
          have hkw : IntKind.i64.wrap (e.k - 1) = (j : Int) := by simp [IntKind.wrap, IntKind.signed, IntKind.bits]; omega
          have hkk : e.k - 1 = (j : Int) := by omega
          have hj1 : (j : Int) < 15 := by omega
          have HKJ := Lib.hid hkj
          have HWL := Lib.hid (word_len e.k)
          clear HX hT hkj hmk
          go_upto_region 10 with fail
          generalize hV4 : World.alloc wr _ = V4
          have HT4 := Lib.hid (one_of hV4)
          have hg4 := HT4.out.1
          have HB4 := Lib.hid (HBr.out.trans (HT4.out.2.mono hrs))
          have HU4 := Lib.hid (HUr.out.next HT4.out.2)
          have hw4 := (HT4.out.2.block _ hwl).trans HWr.out
          have HG4 := Lib.hid (show V4.heap[wr.heap.size]? = some (.cells (evC e) 34 (0, 0)) from hg4)
          have HW4 := Lib.hid hw4
          have k4 : V4.cell? ⟨wr.heap.size, 0, none⟩ = some (.int .i64 e.k) := block_cell (i := 0) hg4 rfl
          have hwc : V4.cell? ⟨V.heap.size, j, none⟩ = some (.string (str (wordL e.k))) := by rw [HKJ.out]; exact word_in hw4 hj
          have s4 := block_lt hg4
          have hw4l := block_lt hw4
          clear hV4 HT4 hg4 hw4 x0 x1 x2 x3 x4 x5
          have hgl := hwl
          have hgw := hrs
          generalize wr.heap.size = gb at HG4 k4 s4 hgl hgw ⊢
          go_wp2_with fail
          refine (build_write w1.heap.size w1.heap.size (str T) (str (wordL e.k)) _ HU4.out (by rw [str_size, str_size]; have := HWL.out; omega) (by omega)).mono ?_
          rintro x w5 ⟨rfl, hU5, hb5, ho5⟩
          have h5s := hb5.size
          have hg5 := others_block ho5 HG4.out (by omega) (by decide)
          have hw5 := others_block ho5 HW4.out (by omega) (by decide)
          have HG5 := Lib.hid hg5
          have HW5 := Lib.hid hw5
          have HU5 := Lib.hid hU5
          have HB5 := Lib.hid (HB4.out.trans (hb5.mono h1s))
          have k5 : w5.cell? ⟨gb, 0, none⟩ = some (.int .i64 e.k) := block_cell (i := 0) hg5 rfl
          have s5 := block_lt hg5
          have hw5l := block_lt hw5
          have hu5l : w1.heap.size < w5.heap.size := by omega
          clear hU5 hb5 ho5 hg5 hw5 k4 hwc
          go_wp2_with fail
          refine (fields_any gb e.k _ s5 k5).mono ?_
          rintro x w6 ⟨N, rfl, hN, hNs, hb6⟩
          have HN6 := Lib.hid hN
          have HG6 := Lib.hid ((hb6.block _ s5).trans HG5.out)
          have HW6 := Lib.hid ((hb6.block _ hw5l).trans HW5.out)
          have HU6 := Lib.hid (HU5.out.next hb6)
          have HB6 := Lib.hid (HB5.out.trans (hb6.mono (by omega)))
          have hfl := form_len e.k
          clear hN hb6 k5
          go_wp2_with fail
          go_loopw [31] (fun vi wq => ∃ q : Nat, q ≤ (formL e.k).length ∧ vi = .int .i64 (q : Int) ∧ Built w1.heap.size w1.heap.size (str (T ++ lineTo e q)) wq ∧ (lineTo e q).length ≤ 6 + 200 * q ∧ wq.heap[V.heap.size]? = some (.cells wordCs 9 (0, 0)) ∧ wq.heap[gb]? = some (.cells (evC e) 34 (0, 0)) ∧ wq.heap[N]? = some (.cells ((formL e.k).map (fldv gb)).toArray 20 (0, 0)) ∧ Below w.heap.size w wq) (fun vi _ => (formL e.k).length - (intOf vi).toNat)
          case atStart => exact ⟨0, Nat.zero_le _, rfl, by rw [line_zero, ← str_app]; exact HU6.out, by rw [line_zero]; exact HWL.out, HW6.out, HG6.out, HN6.out, HB6.out⟩
          case round =>
            obtain ⟨q, hq, rfl, hu, hlq, hwd, hgq, hnq, hbq⟩ := hrel
            have HUq := Lib.hid hu
            have HWq := Lib.hid hwd
            have HGq := Lib.hid hgq
            have HNq := Lib.hid hnq
            have HBq := Lib.hid hbq
            have hgl2 := block_lt hgq
            have hwl2 := block_lt hwd
            have hnl2 := block_lt hnq
            clear hu hwd hgq hnq hbq
            by_cases hltq : q < (formL e.k).length
            · have hltq' : (q : Int) < ((formL e.k).length : Int) := by omega
              obtain ⟨c, hc⟩ : ∃ c, (formL e.k)[q]? = some c := ⟨_, List.getElem?_eq_getElem hltq⟩
              have HLS := Lib.hid (lineTo_succ e q hc)
              have hfc := block_cell HNq.out (fld_cell hc)
              have hlet := form_letter hc
              have hfz := fld_len HOE.out c
              have hfs : (str (fldT e c)).size ≤ 192 := by rw [str_size]; exact hfz
              have hf1 : (({ data := #[32] } : ByteArray) ++ str (fldT e c)).size ≤ 193 := by rw [ByteArray.size_append]; show 1 + _ ≤ _; omega
              clear hc
              generalize hfv : fldv gb c = fv at hfc
              have HFV := Lib.hid hfv
              clear hfv
              go_wp2_with fail
              rw [← HFV.out]
              refine (writeP_any gb c e _ (HW.out.next HBq.out) HGq.out HOE.out hlet).mono ?_
              rintro x w7 ⟨rfl, hb7⟩
              have HU7 := Lib.hid (HUq.out.next hb7)
              have HW7 := Lib.hid ((hb7.block _ hwl2).trans HWq.out)
              have HG7 := Lib.hid ((hb7.block _ hgl2).trans HGq.out)
              have HN7 := Lib.hid ((hb7.block _ hnl2).trans HNq.out)
              have h7s := hb7.size
              have HB7 := Lib.hid (HBq.out.trans (hb7.mono (by have := HBq.out.size; omega)))
              clear hb7
              go_wp2_with fail
              have HS2 := Lib.hid (sp_text (str (T ++ lineTo e q)) T (lineTo e q) (fldT e c) rfl)
              generalize hS2 : ({ data := #[32] } ++ str (fldT e c) : ByteArray) = S2 at hf1 HS2 ⊢
              clear hS2
              refine (build_write w1.heap.size w1.heap.size (str (T ++ lineTo e q)) S2 _ HU7.out (by rw [str_size, List.length_append]; omega) (by omega)).mono ?_
              rintro x w8 ⟨rfl, hU8, hb8, ho8⟩
              have HU8 := Lib.hid hU8
              have HW8 := Lib.hid (others_block ho8 HW7.out (by omega) (by decide))
              have HG8 := Lib.hid (others_block ho8 HG7.out (by omega) (by decide))
              have HN8 := Lib.hid (others_block ho8 HN7.out (by omega) (by decide))
              have HB8 := Lib.hid (HB7.out.trans (hb8.mono h1s))
              clear hU8 hb8 ho8
              go_wp2
              go_roundw
              case rel => exact ⟨q + 1, hltq, by go_num, by rw [HLS.out, ← HS2.out]; exact HU8.out, by rw [HLS.out]; simp; omega, HW8.out, HG8.out, HN8.out, HB8.out⟩
              case measure => simp [intOf]; omega
            · have hltq' : ¬ (q : Int) < ((formL e.k).length : Int) := by omega
              have HLL := Lib.hid (lineTo_all e (i := q) (by omega))
              go_wp2_with fail
              refine (build_write w1.heap.size w1.heap.size (str (T ++ lineTo e q)) { data := #[10] } _ HUq.out (by rw [str_size, List.length_append]; show _ + 1 ≤ _; omega) (by omega)).mono ?_
              rintro x w8 ⟨rfl, hU8, hb8, ho8⟩
              have HU8 := Lib.hid hU8
              have HW8 := Lib.hid (others_block ho8 HWq.out (by omega) (by decide))
              have HB8 := Lib.hid (HBq.out.trans (hb8.mono h1s))
              clear hU8 hb8 ho8
              go_wp2
              go_roundw
              case rel => exact ⟨i + 1, hlt, by go_num, by rw [HTN.out, ← HLL.out, ← str_app]; exact HU8.out, by rw [HTN.out]; simp; omega, HW8.out, HB8.out⟩
              case measure => simp [intOf]; omega
        · have hlt' : ¬ (i : Int) < (n : Int) := by omega
          have HE := Lib.hid (show zs.take i = zs from List.take_of_length_le (by omega))
          go_wp2_with fail
          refine (build_text w1.heap.size w1.heap.size _ _ HUr.out (by omega)).mono ?_
          rintro x w9 ⟨rfl, hb9⟩
          have HB9 := Lib.hid (HBr.out.trans (hb9.mono h1s))
          clear hb9
          go_wp2
          go_ret2
          exact textGives_of HR.out (by rw [HE.out]; rfl) HB9.out
end Go.Proofs.YtcboopkalpmglaaDoor
