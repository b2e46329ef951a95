/- Plain words on a text's bytes. No condition. -/
import Derived.WalkKit
import Derived.Lib.Strings
import Derived.Lib.IndexBytes
namespace Go.Proofs.YtcboopkalpmglaaDoor
set_option linter.unusedVariables false
/-- A text's bytes. -/
def bl (s : ByteArray) : List Nat := s.data.toList.map UInt8.toNat
theorem bl_length (s : ByteArray) : (bl s).length = s.size := by simp [bl]
theorem bl_snoc (s : ByteArray) (p : Nat) (h : p < s.size) : (bl s).take (p + 1) = (bl s).take p ++ [(s[p]'h).toNat] := by
  rw [List.take_succ_eq_append_getElem (by rw [bl_length]; exact h)]
  simp [bl]; rfl
theorem bl_drop (s : ByteArray) (p : Nat) (h : p < s.size) : (bl s).drop p = (s[p]'h).toNat :: (bl s).drop (p + 1) := by
  rw [List.drop_eq_getElem_cons (by rw [bl_length]; exact h)]
  simp [bl]; rfl
theorem bl_nil (s : ByteArray) : bl s = [] ↔ s.size = 0 := by rw [← List.length_eq_zero_iff, bl_length]
/-- Bytes as a string. -/
def str (l : List Nat) : ByteArray := ⟨(l.map UInt8.ofNat).toArray⟩
theorem map_bytes {l : List Nat} (h : ∀ x ∈ l, x < 256) : (l.map UInt8.ofNat).map UInt8.toNat = l := by
  induction l with
  | nil => rfl
  | cons x l ih =>
    rw [List.map_cons, List.map_cons, ih fun y hy => h y (by simp [hy]), UInt8.toNat_ofNat_of_lt' (h x (by simp))]
theorem bl_str {l : List Nat} (h : ∀ x ∈ l, x < 256) : bl (str l) = l := by
  unfold bl str
  exact map_bytes h
theorem map_back (l : List UInt8) : (l.map UInt8.toNat).map UInt8.ofNat = l := by
  induction l with
  | nil => rfl
  | cons x l ih => rw [List.map_cons, List.map_cons, ih, UInt8.ofNat_toNat]
theorem str_bl (s : ByteArray) : str (bl s) = s := by
  unfold bl str
  rw [map_back]
theorem bl_append (s t : ByteArray) : bl (s ++ t) = bl s ++ bl t := by unfold bl; simp
theorem str_of_bl {s : ByteArray} {l : List Nat} (h : bl s = l) : s = str l := by rw [← h, str_bl]
theorem str_size (l : List Nat) : (str l).size = l.length := by show (l.map UInt8.ofNat).toArray.size = _; simp
theorem bl_lt (s : ByteArray) : ∀ x ∈ bl s, x < 256 := fun x hx => by
  unfold bl at hx
  obtain ⟨y, _, rfl⟩ := List.mem_map.1 hx
  exact y.toNat_lt
theorem bl_at {s : ByteArray} {k : Nat} (h : k < s.size) : (bl s)[k]? = some (s[k]'h).toNat := by
  unfold bl
  rw [List.getElem?_map, List.getElem?_eq_getElem (by simpa using h)]
  rfl
theorem bl_extract (s : ByteArray) (a b : Nat) : bl (s.extract a b) = ((bl s).drop a).take (b - a) := by
  unfold bl
  rw [Lib.extract_data, List.map_take, List.map_drop]
theorem bl_tail (s : ByteArray) (a : Nat) : bl (s.extract a s.size) = (bl s).drop a := by
  unfold bl
  rw [Lib.extract_to_end, List.map_drop]
theorem bl_head (s : ByteArray) (b : Nat) : bl (s.extract 0 b) = (bl s).take b := by rw [bl_extract]; simp
end Go.Proofs.YtcboopkalpmglaaDoor
