/- The contract of call.Hex: the bytes of a string in words. -/
import Derived.Test.YthdecdhikjmggaaDoorBuild
import Derived.Deep.LoopGhost
namespace Go.Proofs.YthdecdhikjmggaaDoor
open Go.RowKit

/-- A digit of 16. -/
def dig (n : Nat) : UInt8 := UInt8.ofNat (if n < 10 then 48 + n else 87 + n)
/-- The two digits of a byte. -/
def two (c : UInt8) : List UInt8 := [dig (c.toNat / 16), dig (c.toNat % 16)]
/-- Bytes in words. -/
def hexL (l : List UInt8) : List UInt8 := if l = [] then [45] else l.flatMap two

theorem toList_nil (s : ByteArray) : (s.toList == ([] : List UInt8)) = decide (s.size = 0) := by
  rw [ByteArray.toList_eq, Bool.eq_iff_iff, beq_iff_eq, decide_eq_true_iff, Array.toList_eq_nil_iff]
  exact ⟨fun h => by show s.data.size = 0; rw [h]; rfl, fun h => Array.eq_empty_of_size_eq_zero h⟩
theorem data_nil {s : ByteArray} (h : s.size = 0) : s.data.toList = [] := by
  rw [Array.toList_eq_nil_iff]; exact Array.eq_empty_of_size_eq_zero h
theorem size_data (s : ByteArray) : s.data.toList.length = s.size := Array.length_toList
theorem take_snoc (s : ByteArray) (k : Nat) (h : k < s.size) : s.data.toList.take (k + 1) = s.data.toList.take k ++ [s[k]] := by
  rw [List.take_succ_eq_append_getElem (by rw [size_data]; exact h)]; rfl

theorem dig_fin : ∀ i : Fin 16, ((⟨#[48, 49, 50, 51, 52, 53, 54, 55, 56, 57, 97, 98, 99, 100, 101, 102]⟩ : ByteArray)[i.val]'i.isLt) = dig i.val := by decide +kernel
theorem dig_at (n : Nat) (h : n < 16) : ((⟨#[48, 49, 50, 51, 52, 53, 54, 55, 56, 57, 97, 98, 99, 100, 101, 102]⟩ : ByteArray)[n]'h) = dig n := dig_fin ⟨n, h⟩

theorem two_length (l : List UInt8) : (l.flatMap two).length = 2 * l.length := by
  induction l with
  | nil => rfl
  | cons c l ih => simp only [List.flatMap_cons, List.length_append, ih, List.length_cons]; simp only [two, List.length_cons, List.length_nil]; omega
theorem two_snoc (s : ByteArray) (k : Nat) (h : k < s.size) :
    Lib.byteCells ((s.data.toList.take k).flatMap two) ++ [.int .u8 (dig (s[k].toNat / 16)).toNat] ++ [.int .u8 (dig (s[k].toNat % 16)).toNat] = Lib.byteCells ((s.data.toList.take (k + 1)).flatMap two) := by
  rw [take_snoc s k h, List.flatMap_append, Lib.byteCells_append, List.append_assoc]
  rfl

theorem hex_empty (s : ByteArray) (w : World) (h0 : s.size = 0) :
    Calls Tryd.prog 14 #[.string s] w fun e w' => e = .returned (.string ⟨(hexL s.data.toList).toArray⟩) ∧ Below w.heap.size w w' := by
  rw [data_nil h0]
  have hne : (s.toList == ([] : List UInt8)) = true := by rw [toList_nil, decide_eq_true_iff]; exact h0
  clear h0
  go_enter Tryd.func14, Tryd.ntmps14
  go_wp2_with fail
  go_ret
  exact ⟨rfl, Below.refl _ _⟩

set_option maxHeartbeats 1000000 in
set_option maxRecDepth 100000 in
theorem hex_full (s : ByteArray) (w : World) (hs : s.size ≤ 70000000000000) (h0 : 0 < s.size) :
    Calls Tryd.prog 14 #[.string s] w fun e w' => e = .returned (.string ⟨(hexL s.data.toList).toArray⟩) ∧ Below w.heap.size w w' := by
  have hne : (s.toList == ([] : List UInt8)) = false := by rw [toList_nil, decide_eq_false_iff_not]; omega
  go_enter Tryd.func14, Tryd.ntmps14
  go_wp2_with fail
  go_loopw [9] (fun i wr => ∃ k : Nat, k ≤ s.size ∧ i = .int .i64 k ∧ Lib.IsBuilder 73 5 w.heap.size w.heap.size (Lib.byteCells ((s.data.toList.take k).flatMap two)) wr ∧ Below w.heap.size w wr) (fun i _ => s.size - (intOf i).toNat)
  case atStart =>
    refine ⟨0, Nat.zero_le _, rfl, .inl ⟨Nat.le_refl _, .slice none 0 0, ?_, ⟨rfl, .inl ⟨rfl, rfl⟩⟩, by simp [Value.ownBlock]⟩, (Below.refl _ _).alloc (Nat.le_refl _) _⟩
    exact heap_alloc_new _ _
  case round =>
    obtain ⟨k, hk, rfl, hB, hbl⟩ := hrel
    by_cases hlt : k < s.size
    · have hc : s[k].toNat < 256 := s[k].toNat_lt
      have hd : 0 ≤ (s[k].toNat : Int) / 16 ∧ (s[k].toNat : Int) / 16 < 16 := by omega
      have hl : (Lib.byteCells ((s.data.toList.take k).flatMap two)).length = 2 * k := by
        rw [Lib.byteCells_length, two_length, List.length_take_of_le (by rw [size_data]; exact hk)]
      have HL : Hid ((Lib.byteCells ((s.data.toList.take k).flatMap two)).length = 2 * k) := hl
      clear hl
      go_wp2_with fail
      refine (writeByte_any w.heap.size w.heap.size _ _ _ hB (by rw [HL.out]; omega) hbl.size).mono ?_
      rintro e w1 ⟨rfl, hB1, hb1⟩
      rw [dig_at _ (by omega)] at hB1
      go_wp2_with fail
      refine (writeByte_any w.heap.size w.heap.size _ _ _ (.inr hB1) (by rw [List.length_append, HL.out]; simp; omega) (hbl.trans hb1).size).mono ?_
      rintro e w2 ⟨rfl, hB2, hb2⟩
      rw [dig_at _ (by omega), two_snoc s k hlt] at hB2
      go_wp2_with fail
      go_roundw
      case rel => exact ⟨k + 1, by omega, by go_num, .inr hB2, (hbl.trans hb1).trans hb2⟩
      case measure => simp [intOf]; omega
    · obtain rfl : k = s.size := by omega
      have e : List.take s.size s.data.toList = s.data.toList := List.take_of_length_le (by rw [size_data]; exact Nat.le_refl _)
      rw [e] at hB
      clear e
      go_wp2_with fail
      refine (Tryd.Builder_String_any w.heap.size w.heap.size _ _ hB hbl.size).mono ?_
      rintro e w1 ⟨rfl, hb1⟩
      go_wp2_with fail
      go_ret
      refine ⟨?_, hbl.trans hb1⟩
      unfold hexL
      rw [if_neg (fun h => by have := size_data s; rw [h] at this; simp at this; omega)]
      rfl

theorem hex_any (s : ByteArray) (w : World) (hs : s.size ≤ 70000000000000) :
    Calls Tryd.prog 14 #[.string s] w fun e w' => e = .returned (.string ⟨(hexL s.data.toList).toArray⟩) ∧ Below w.heap.size w w' := by
  by_cases h0 : s.size = 0
  · exact hex_empty s w h0
  · exact hex_full s w hs (by omega)
end Go.Proofs.YthdecdhikjmggaaDoor
