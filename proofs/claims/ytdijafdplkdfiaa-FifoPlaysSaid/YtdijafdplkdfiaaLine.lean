/- A line of Ps that wait, kept as a ring: its making, its length, what it puts, takes and lists. Conditions: the line's block reads as a ring. -/
import Derived.Test.YtdijafdplkdfiaaGiveRef
import Derived.StillTailTactics
import Derived.StillTactics
import Derived.OwnWalk
import Derived.Laws.Pointers
import Derived.Deep.RegionHeld3
import Derived.Deep.AppendLies
import Derived.IntWalk
namespace Go.Proofs.Ytdijafdplkdfiaa
set_option linter.unusedVariables false
open Go.RowKit

/-- Block b is a line: the ring r, from f on, n that wait. -/
structure Ring (W : World) (b : Nat) (r : Nat → Int) (f n : Nat) : Prop where
  lt : b < W.heap.size
  f64 : f < 64
  n64 : n ≤ 64
  ring : ∀ j, j < 64 → W.cell? ⟨b, j, none⟩ = some (.int .i64 (r j))
  from_ : W.cell? ⟨b, 64, none⟩ = some (.int .i64 f)
  n_ : W.cell? ⟨b, 65, none⟩ = some (.int .i64 n)
  free : ∀ j, W.frozen? ⟨b, j, none⟩ = false
/-- Those that wait. -/
def waits (r : Nat → Int) (f n : Nat) : List Int := (List.range n).map fun i => r ((f + i) % 64)
theorem waits_length (r : Nat → Int) (f n : Nat) : (waits r f n).length = n := by simp [waits]
theorem waits_succ (r : Nat → Int) (f n : Nat) : waits r f (n + 1) = waits r f n ++ [r ((f + n) % 64)] := by simp [waits, List.range_succ]
theorem zat_waits {r : Nat → Int} {f n i : Nat} (h : i < n) : zat (waits r f n) i = r ((f + i) % 64) := by simp [zat, waits, h]

/-- The zero line, as the program's table has it. -/
def zline : Array Value := Array.replicate 66 (.int .i64 0)
theorem zero54 (w : World) : (zeroValue 54).run Try.prog w = .ok (.agg zline) w := by kernel_rfl
theorem zline_at {j : Nat} (h : j < 66) : zline[j]? = some (.int .i64 0) := by simp [zline, h]
theorem cell_new (w : World) (cs : Array Value) (t j : Nat) : (w.alloc (.cells cs t)).cell? ⟨w.heap.size, j, none⟩ = cs[j]? := World.cell?_alloc_at cs t _ j rfl
theorem frozen_new (w : World) (cs : Array Value) (t j : Nat) : (w.alloc (.cells cs t)).frozen? ⟨w.heap.size, j, none⟩ = false := by simp
theorem ring_new (w : World) : Ring (w.alloc (.cells zline 54)) w.heap.size (fun _ => 0) 0 0 :=
  ⟨by simp, by omega, by omega, fun j hj => by rw [cell_new, zline_at (by omega)], by rw [cell_new, zline_at (by omega)]; rfl, by rw [cell_new, zline_at (by omega)]; rfl, fun j => frozen_new _ _ _ _⟩
set_option maxRecDepth 100000 in
set_option maxHeartbeats 1000000 in
theorem new_any (w : World) : Calls Try.prog 13 #[] w fun e w' => e = .returned (.pointer (some ⟨w.heap.size, 0, none⟩)) ∧ Ring w' w.heap.size (fun _ => 0) 0 0 ∧ w.grownBy w' none := by
  have hz := zero54
  go_enter Try.func13, Try.ntmps13
  go_wp2
  go_ret
  exact ⟨rfl, ring_new w, World.grownBy_alloc w _ none⟩

theorem len_any (b : Nat) (r : Nat → Int) (f n : Nat) (w : World) (hR : Ring w b r f n) : Calls Try.prog 17 #[.pointer (some ⟨b, 0, none⟩)] w fun e w' => e = .returned (.int .i64 n) ∧ w = w' := by
  have h := hR.n_
  clear hR
  go_enter Try.func17, Try.ntmps17
  go_wp2
  go_ret
  exact ⟨rfl, rfl⟩
theorem len_nil (w : World) : Calls Try.prog 17 #[.pointer none] w fun e w' => e = .returned (.int .i64 0) ∧ w = w' := by
  go_enter Try.func17, Try.ntmps17
  go_wp2
  go_ret
  exact ⟨rfl, rfl⟩
theorem Ring.grown {w w' : World} {b : Nat} {r : Nat → Int} {f n : Nat} {row : Option Nat} (h : Ring w b r f n) (hg : w.grownBy w' row) (hr : row ≠ some b) : Ring w' b r f n := by
  have hb := hg.block b h.lt (fun e => hr e.symm)
  have hs : w.heap.size ≤ w'.heap.size := hg.size
  have := h.lt
  exact ⟨by omega, h.f64, h.n64, fun j hj => (World.cell?_of_block (a := ⟨b, j, none⟩) hb).trans (h.ring j hj), (World.cell?_of_block (a := ⟨b, 64, none⟩) hb).trans h.from_, (World.cell?_of_block (a := ⟨b, 65, none⟩) hb).trans h.n_, fun j => (World.frozen?_of_block (a := ⟨b, j, none⟩) hb).trans (h.free j)⟩
theorem list_nil (w : World) : Calls Try.prog 22 #[.pointer none] w fun e w' => e = .returned (.slice none 0 0) ∧ w = w' := by
  go_enter Try.func22, Try.ntmps22
  go_wp2_with (go_at_call 17; refine (len_nil _).mono ?_; rintro e w' ⟨rfl, rfl⟩)
  go_loop [3, 7] (fun v i => v = .slice none 0 0 ∧ i = .int .i64 0) (fun _ _ => 0)
  case atStart => exact ⟨rfl, rfl⟩
  case round =>
    obtain ⟨rfl, rfl⟩ := hrel
    go_wp2
    go_ret
    exact ⟨rfl, rfl⟩

set_option maxRecDepth 100000 in
set_option maxHeartbeats 4000000 in
/-- Those that wait, as a slice of its own. -/
theorem list_any (b : Nat) (r : Nat → Int) (f n : Nat) (w : World) (hR : Ring w b r f n) :
    Calls Try.prog 22 #[.pointer (some ⟨b, 0, none⟩)] w fun e w' => (∃ v, e = .returned v ∧ w'.ownsRow w.heap.size 3 1 v n ((waits r f n).map (Value.int .i64))) ∧ Below w.heap.size w w' := by
  have HR := Lib.hid hR
  have hf := hR.f64
  have hn := hR.n64
  have hlt := hR.lt
  clear hR
  go_enter Try.func22, Try.ntmps22
  go_wp2_with (go_at_call 17; refine (len_any _ r f n _ HR.out).mono ?_; rintro e w' ⟨rfl, rfl⟩)
  go_loopw [3, 7] (fun v i wr => ∃ k : Nat, k ≤ n ∧ i = .int .i64 k ∧ wr.ownsRow w.heap.size 3 1 v k ((waits r f k).map (Value.int .i64)) ∧ Below w.heap.size w wr) (fun _ i _ => n - (intOf i).toNat)
  case atStart => exact ⟨0, by omega, rfl, World.ownsRow_nil _ _ _ _, Below.refl _ _⟩
  case round =>
    obtain ⟨k, hk, rfl, hown, hB⟩ := hrel
    have HO := Lib.hid hown
    clear hown
    by_cases hkn : k < n
    · have hkn' : (k : Int) < (n : Int) := by omega
      have c1 : wr.cell? ⟨b, 64, none⟩ = some (.int .i64 f) := (hB.cell (p := ⟨b, 64, none⟩) hlt).trans HR.out.from_
      obtain ⟨q, hq⟩ : ∃ q, (f + k) % 64 = q := ⟨_, rfl⟩
      have hq64 : q < 64 := by omega
      have c2 : wr.cell? ⟨b, q, none⟩ = some (.int .i64 (r q)) := (hB.cell (p := ⟨b, q, none⟩) hlt).trans (HR.out.ring _ hq64)
      have hsz := hB.size
      have hws := waits_succ r f k
      rw [hq] at hws
      have HW := Lib.hid hws
      have hab : ∀ v : Value, wr.ownsRow w.heap.size 3 1 v k ((waits r f k).map (Value.int .i64)) → v.ownBlock ≠ some b := fun v hv e => by have := (hv.lt b e).1; omega
      have ab := hab _ HO.out
      have lb : b < wr.heap.size := by omega
      obtain ⟨i0, hi0, hz0, hz1, hz2⟩ := info_parts Try.info3
      have w1 : IntKind.i64.wrap ((f : Int) + (k : Int)) = (f : Int) + (k : Int) := IntWalk.i64_in _ (by omega)
      have w2 : ((f : Int) + (k : Int)).tmod 64 = (q : Int) := by rw [Int.tmod_eq_emod_of_nonneg (by omega)]; omega
      have w3 : IntKind.i64.wrap (q : Int) = (q : Int) := IntWalk.i64_in _ (by omega)
      have w4 : (0 : Int) ≤ (q : Int) := by omega
      have w5 : (q : Int) < 64 := by omega
      have w6 : (q : Int).toNat = q := by omega
      have hk64 : k < 64 := by omega
      have HQ := Lib.hid hq
      clear hws hab hq
      go_wp2_with fail
      go_region_held3 (fun w' => w'.cell? ⟨b, 64, none⟩ = some (.int .i64 f) ∧ w'.cell? ⟨b, q, none⟩ = some (.int .i64 (r q)))
        (first
          | go_keep
          | (go_split_ands
             refine ⟨?_, ?_⟩
             · (rw [hgrow.cell_far _ (by simp; omega) (Ne.symm ab)]; assumption)
             · (rw [hgrow.cell_far _ (by simp; omega) (Ne.symm ab)]; assumption)))
        ((refine step_append_lies _ (by rfl) _ _ _ (by rfl) w.heap.size 3 i0 _ 1 8 Try.underlying31 hi0 hz0 hz1 hz2 rfl (by omega) _ k _ (by rfl) ((HO.out.alloc _).drew)
            ⟨wr.heap.size, 0, none⟩ 1 1 [.int .i64 (r q)] (by rfl) (by rfl) (World.news_of_block (cs := #[.int .i64 (r q)]) (t := 3) (fr := (0, 0)) (heap_alloc_new wr _)) (by simp [Value.oneCell'])
            (by omega) (by unfold maxLen; omega) (by omega) (by simp; omega) (wr.heap.size + 1) (by simp) ?_; intro gg cap w1 hown1 hgrow hat hlt'))
      rw [← List.map_singleton (f := Value.int .i64), ← List.map_append, ← HW.out] at hown1
      have HO1 := Lib.hid hown1
      have hB1 : Below w.heap.size w w1 := (((hB.alloc hsz _).drew).grown hgrow (by simp; omega) (fun j e => (HO.out.lt j e).1))
      clear hown1 hgrow hat c1 c2 ab
      go_wp2
      go_roundw
      case rel => exact ⟨k + 1, by omega, by go_num, HO1.out, hB1⟩
      case measure => simp [intOf]; omega
    · obtain rfl : k = n := by omega
      go_wp2
      go_ret
      exact ⟨⟨_, rfl, HO.out⟩, hB⟩

/-- The place of a number in a list, or -1. -/
def indexI (xs : List Int) (p : Int) : Nat → Int
  | 0 => -1
  | k + 1 => if 0 ≤ indexI xs p k then indexI xs p k else if zat xs k = p then (k : Int) else -1
theorem indexI_spec (xs : List Int) (p : Int) (n : Nat) : (indexI xs p n = -1 ∧ ∀ j, j < n → zat xs j ≠ p) ∨ (∃ k : Nat, k < n ∧ indexI xs p n = k ∧ zat xs k = p ∧ ∀ j, j < k → zat xs j ≠ p) := by
  induction n with
  | zero => exact .inl ⟨rfl, fun j h => by omega⟩
  | succ n ih =>
    rcases ih with ⟨h1, h2⟩ | ⟨k, h1, h2, h3, h4⟩
    · by_cases hp : zat xs n = p
      · exact .inr ⟨n, by omega, by unfold indexI; rw [h1]; simp [hp], hp, h2⟩
      · refine .inl ⟨by unfold indexI; rw [h1]; simp [hp], fun j hj => ?_⟩
        by_cases e : j = n
        · subst e; exact hp
        · exact h2 j (by omega)
    · exact .inr ⟨k, by omega, by unfold indexI; rw [h2]; simp, h3, h4⟩
theorem indexI_none {xs : List Int} {p : Int} {n : Nat} (h : ∀ j, j < n → zat xs j ≠ p) : indexI xs p n = -1 := by
  rcases indexI_spec xs p n with ⟨h1, _⟩ | ⟨k, h1, _, h3, _⟩
  · exact h1
  · exact absurd h3 (h k h1)
theorem indexI_at {xs : List Int} {p : Int} {n k : Nat} (hk : k < n) (hz : zat xs k = p) (h : ∀ j, j < k → zat xs j ≠ p) : indexI xs p n = k := by
  rcases indexI_spec xs p n with ⟨_, h2⟩ | ⟨j, h1, h2, h3, h4⟩
  · exact absurd hz (h2 k hk)
  · rw [h2]
    rcases Nat.lt_trichotomy j k with e | e | e
    · exact absurd h3 (h j e)
    · rw [e]
    · exact absurd hz (h4 k e)
def hasI (xs : List Int) (p : Int) : Bool := decide (0 ≤ indexI xs p xs.length)
theorem hasI_iff {xs : List Int} {p : Int} : hasI xs p = true ↔ p ∈ xs := by
  unfold hasI
  rw [decide_eq_true_iff]
  rcases indexI_spec xs p xs.length with ⟨h1, h2⟩ | ⟨k, h1, h2, h3, h4⟩
  · rw [h1]
    refine ⟨fun h => by omega, fun h => ?_⟩
    obtain ⟨j, hj, e⟩ := List.getElem_of_mem h
    exact absurd (by unfold zat; rw [List.getElem?_eq_getElem hj]; exact e) (h2 j hj)
  · rw [h2]
    refine ⟨fun _ => ?_, fun _ => by omega⟩
    unfold zat at h3; rw [List.getElem?_eq_getElem h1] at h3
    rw [← h3]; exact List.getElem_mem _

set_option maxHeartbeats 1000000 in
theorem index_any (a : Option Addr) (len cap : Nat) (xs : List Int) (p : Int) (w : World) (hl : xs.length = len) (hI : Ints w.heap.size w (.slice a len cap) xs) (hm : len ≤ 9223372036854775807) :
    Calls Try.prog 26 #[.slice a len cap, .int .i64 p] w fun e w' => e = .returned (.int .i64 (indexI xs p len)) ∧ w = w' := by
  have HI := Lib.hid hI
  have HL := Lib.hid hl
  clear hI hl
  go_enter Try.func26, Try.ntmps26
  go_wp2
  go_loop [8] (fun i => ∃ k : Nat, k ≤ len ∧ i = .int .i64 k ∧ ∀ j, j < k → zat xs j ≠ p) (fun i => len - (intOf i).toNat)
  case atStart => exact ⟨0, by omega, rfl, fun j h => by omega⟩
  case round =>
    obtain ⟨k, hk, rfl, hno⟩ := hrel
    have HN := Lib.hid hno
    clear hno
    by_cases hlt : k < len
    · have hlt' : (k : Int) < (len : Int) := by omega
      obtain ⟨b, off, ha, hb, hc⟩ := HI.out.cells (p := k) (by rw [HL.out]; exact hlt)
      subst ha
      have hck := hc k (by rw [HL.out]; exact hlt)
      clear hc
      by_cases hz : zat xs k = p
      · have HF := Lib.hid (indexI_at hlt hz HN.out)
        have hzb : (p == zat xs k) = true := by simp [hz]
        clear hz
        go_wp2
        go_ret
        exact ⟨by rw [HF.out]; rfl, rfl⟩
      · have hzb : (p == zat xs k) = false := by simpa using fun e => hz e.symm
        have HZ := Lib.hid hz
        clear hz
        go_wp2
        go_round
        case rel => exact ⟨k + 1, by omega, by go_num, fun j hj => by
          by_cases e : j = k
          · subst e; exact HZ.out
          · exact HN.out j (by omega)⟩
        case measure => simp [intOf]; omega
    · obtain rfl : k = len := by omega
      have HF := Lib.hid (indexI_none HN.out)
      go_wp2
      go_ret
      exact ⟨by rw [HF.out]; rfl, rfl⟩
theorem contains_any (a : Option Addr) (len cap : Nat) (xs : List Int) (p : Int) (w : World) (hl : xs.length = len) (hI : Ints w.heap.size w (.slice a len cap) xs) (hm : len ≤ 9223372036854775807) :
    Calls Try.prog 25 #[.slice a len cap, .int .i64 p] w fun e w' => e = .returned (.bool (hasI xs p)) ∧ w = w' := by
  have HH := Lib.hid (show hasI xs p = decide (0 ≤ indexI xs p len) by unfold hasI; rw [hl])
  have HI := Lib.hid hI
  have HL := Lib.hid hl
  clear hI hl
  go_enter Try.func25, Try.ntmps25
  go_wp2_with fail
  refine (index_any _ _ _ xs _ _ HL.out HI.out hm).mono ?_
  rintro e w' ⟨rfl, rfl⟩
  generalize indexI xs p len = I at *
  cases hd : decide (0 ≤ I)
  · have HD := Lib.hid hd
    clear hd
    go_wp2
    go_ret
    exact ⟨by rw [HH.out]; rfl, rfl⟩
  · have HD := Lib.hid hd
    clear hd
    go_wp2
    go_ret
    exact ⟨by rw [HH.out]; rfl, rfl⟩
end Go.Proofs.Ytdijafdplkdfiaa
