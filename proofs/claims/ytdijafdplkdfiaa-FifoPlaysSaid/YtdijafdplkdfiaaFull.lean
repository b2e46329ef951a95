/- A full line, of one that drops and one that is put anew: in plain words. Conditions: as each says. -/
import Derived.Test.YtdijafdplkdfiaaDropB
namespace Go.Proofs.Ytdijafdplkdfiaa
set_option linter.unusedVariables false
open Go.RowKit
def iota (k : Nat) : List Int := (List.range k).map Int.ofNat
theorem iota_length (k : Nat) : (iota k).length = k := by simp [iota]
theorem iota_succ (k : Nat) : iota (k + 1) = iota k ++ [(k : Int)] := by simp [iota, List.range_succ]
theorem mem_iota {k : Nat} {x : Int} : x ∈ iota k ↔ ∃ j : Nat, j < k ∧ x = j := by
  simp only [iota, List.mem_map, List.mem_range]
  exact ⟨fun ⟨j, h, e⟩ => ⟨j, h, e.symm⟩, fun ⟨j, h, e⟩ => ⟨j, h, e.symm⟩⟩
theorem zat_iota {k j : Nat} (h : j < k) : zat (iota k) j = j := by simp [zat, iota, h]
theorem hasI_no {xs : List Int} {p : Int} (h : p ∉ xs) : hasI xs p = false := by
  cases e : hasI xs p with
  | false => rfl
  | true => exact absurd (hasI_iff.1 e) h
theorem iota_put {k : Nat} (h : k < 64) : putOk (iota k) k = true := by
  rw [putOk_lt (by omega) (by rw [iota_length]; exact h), hasI_no (by rw [mem_iota]; rintro ⟨j, h1, h2⟩; omega)]; rfl
theorem iota_good : Good (iota 64) := by
  exact ⟨by decide +kernel, fun x hx => by obtain ⟨j, _, rfl⟩ := mem_iota.1 hx; omega, by rw [iota_length]; exact Nat.le_refl _⟩
theorem iota_full (p : Int) : putOk (iota 64) p = false := by
  unfold putOk; rw [iota_length]; simp
theorem full_drop {k : Nat} {p : Int} (hk : k < 64) (hp : 64 ≤ p) :
    hasI (iota 64) k = true ∧ putOk (dropL (iota 64) k) p = true ∧ (dropL (iota 64) k ++ [p]).length = 64 ∧ zat (dropL (iota 64) k ++ [p]) 63 = p ∧ hasI (dropL (iota 64) k ++ [p]) k = false := by
  have h1 : hasI (iota 64) k = true := hasI_iff.2 (mem_iota.2 ⟨k, hk, rfl⟩)
  have hl : (dropL (iota 64) k).length = 63 := by
    rw [dropL_at iota_good.1 (by rw [iota_length]; exact hk) (zat_iota hk)]
    simp [iota_length]; omega
  have hm : ∀ x ∈ dropL (iota 64) k, x < 64 ∧ x ≠ k := fun x hx => by
    unfold dropL at hx
    rw [List.mem_filter] at hx
    obtain ⟨j, h, rfl⟩ := mem_iota.1 hx.1
    exact ⟨by omega, by simpa using hx.2⟩
  refine ⟨h1, ?_, by simp [hl], ?_, ?_⟩
  · rw [putOk_lt (by omega) (by omega), hasI_no (fun e => by have := (hm _ e).1; omega)]; rfl
  · unfold zat; rw [List.getElem?_append_right (by omega), hl]; rfl
  · refine hasI_no fun e => ?_
    rcases List.mem_append.1 e with e | e
    · exact (hm _ e).2 rfl
    · simp at e; omega
theorem list_line (b : Nat) (xs : List Int) (w : World) (hL : LineAt w b xs) :
    Calls Try.prog 22 #[.pointer (some ⟨b, 0, none⟩)] w fun e w' => (∃ a cap, e = .returned (.slice a xs.length cap) ∧ Ints w'.heap.size w' (.slice a xs.length cap) xs) ∧ Below w.heap.size w w' := by
  obtain ⟨r, f, n, h, rfl⟩ := hL
  refine (list_any b r f n w h).mono ?_
  rintro e w' ⟨⟨v, rfl, hown⟩, hB⟩
  obtain ⟨a, cap, rfl, _, hI⟩ := ownsRow_intsn (waits_length r f n) hown
  rw [waits_length]
  exact ⟨⟨a, cap, rfl, hI⟩, hB⟩
end Go.Proofs.Ytdijafdplkdfiaa
