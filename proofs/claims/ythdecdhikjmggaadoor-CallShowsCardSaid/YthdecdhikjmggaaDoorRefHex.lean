/- The contract of the reference's Hex. -/
import Derived.Test.YthdecdhikjmggaaDoorRefs
import Derived.Deep.RegionLaw
import Derived.IntWalk
set_option linter.unusedSimpArgs false
set_option linter.unusedVariables false
namespace Go.Proofs.YthdecdhikjmggaaDoor
open Go.RowKit

theorem own_lit0 (w : World) (e : TypeId) : (w.alloc (.cells #[] e)).ownsRow w.heap.size e 1 (.slice (some ⟨w.heap.size, 0, none⟩) 0 0) 0 [] := by
  have h := World.ownsRow_lit (base := w.heap.size) (e := e) (size := 1) w #[] 0 (Nat.le_refl _) (by simp) (by simp)
  simpa using h

theorem digit_at (x : Int) (w : World) (h0 : 0 ≤ x) (h1 : x < 16) :
    Calls Tryd.prog 42 #[.int .i64 x] w fun e w' => e = .returned (.int .u8 (dig x.toNat).toNat) ∧ w' = w := by
  obtain ⟨n, rfl⟩ : ∃ n : Nat, x = n := ⟨x.toNat, by omega⟩
  exact digit_any n w (by omega)

set_option maxHeartbeats 1000000 in
set_option maxRecDepth 100000 in
theorem refhex_full (s : ByteArray) (w : World) (hs : s.size ≤ 70000000000000) (h0 : 0 < s.size) :
    Calls Tryd.prog 17 #[.string s] w fun e w' => e = .returned (.string ⟨(hexL s.data.toList).toArray⟩) ∧ Below w.heap.size w w' := by
  have hne : (s.toList == ([] : List UInt8)) = false := by rw [toList_nil, decide_eq_false_iff_not]; omega
  obtain ⟨i0, hi, hz0, hz1, hz2⟩ := info_parts infoByte
  go_enter Tryd.func17, Tryd.ntmps17
  go_wp2_with fail

  go_loopw [3, 4] (fun v i wr => ∃ (k : Nat) (pre : List UInt8) (x : Value), k ≤ s.size ∧ i = .int .i64 k ∧ x = v ∧ Hid (pre = (s.data.toList.take k).flatMap two) ∧ wr.ownsRow w.heap.size 5 1 x pre.length (Lib.byteCells pre) ∧ Below w.heap.size w wr) (fun _ i _ => s.size - (intOf i).toNat)
  case atStart => exact ⟨0, [], _, by omega, rfl, rfl, rfl, own_lit0 w 5, below_al (Below.refl _ _) _⟩
  case round =>
    obtain ⟨k, pre, v, hk, rfl, rfl, HP, hown, hb⟩ := hrel
    have hpl : pre.length = 2 * k := by
      rw [HP.out, two_length, List.length_take_of_le (by rw [size_data]; exact hk)]
    have HPL : Hid (pre.length = 2 * k) := hpl
    clear hpl
    by_cases hlt : k < s.size
    · have hc : s[k].toNat < 256 := s[k].toNat_lt
      have j1 : (k : Int) < s.size := by omega
      have j2 : (0 : Int) ≤ k := by omega
      go_wp2_with fail
      have d1 : (0 : Int) ≤ (s[k].toNat : Int) / 16 := by omega
      have d2 : (s[k].toNat : Int) / 16 < 16 := by omega
      have d3 : (0 : Int) ≤ (s[k].toNat : Int) % 16 := by omega
      have d4 : (s[k].toNat : Int) % 16 < 16 := by omega
      have e1 : IntKind.i64.wrap (s[k].toNat : Int) = (s[k].toNat : Int) := IntWalk.i64_in _ (by omega)
      have e2 : (s[k].toNat : Int).tdiv 16 = (s[k].toNat : Int) / 16 := Int.tdiv_eq_ediv_of_nonneg (by omega)
      have e3 : (s[k].toNat : Int).tmod 16 = (s[k].toNat : Int) % 16 := Int.tmod_eq_emod_of_nonneg (by omega)
      have e4 : IntKind.i64.wrap ((s[k].toNat : Int) / 16) = (s[k].toNat : Int) / 16 := IntWalk.i64_in _ (by omega)
      go_region_law (first
        | (go_simp; go_at_call 42; refine (digit_at _ _ (by assumption) (by assumption)).mono ?_; rintro e w1 ⟨rfl, rfl⟩)
        | (refine step_append_lies _ (by rfl) _ _ _ (by rfl) w.heap.size 5 i0 _ 1 1 Tryd.underlying68 hi hz0 hz1 hz2 rfl (by omega) v pre.length (Lib.byteCells pre) (by rfl) ((hown.alloc _).drew) ⟨wr.heap.size, 0, none⟩ 2 2 [.int .u8 (dig ((s[k].toNat : Int) / 16).toNat).toNat, .int .u8 (dig ((s[k].toNat : Int) % 16).toNat).toNat] (by rfl) (by rfl) (World.news_of_block (cs := #[.int .u8 (dig ((s[k].toNat : Int) / 16).toNat).toNat, .int .u8 (dig ((s[k].toNat : Int) % 16).toNat).toNat]) (t := 5) (fr := (0, 0)) (heap_alloc_new wr _)) (by simp [Value.oneCell']) (by omega) (by have := HPL.out; unfold maxLen; omega) (by have := HPL.out; omega) (by have := hb.size; simp; omega) (wr.heap.size + 1) (by simp) ?_; intro gg cap w1 hown1 hgrow hat hgg))
      all_goals
        clear e1 e2 e3 e4 d1 d2 d3 d4
        have hb2 : Below w.heap.size w w1 := (Below.drew (hb.alloc hb.size _)).grown hgrow (by have := hb.size; simp; omega) (fun k hk => (hown.lt k hk).1)
        have hbt : Lib.byteCells pre ++ [.int .u8 (dig ((s[k].toNat : Int) / 16).toNat).toNat, .int .u8 (dig ((s[k].toNat : Int) % 16).toNat).toNat] = Lib.byteCells (pre ++ two s[k]) := by
          have x1 : ((s[k].toNat : Int) / 16).toNat = s[k].toNat / 16 := by omega
          have x2 : ((s[k].toNat : Int) % 16).toNat = s[k].toNat % 16 := by omega
          rw [x1, x2, Lib.byteCells_append]; rfl
        rw [hbt] at hown1
        clear hgrow hat hbt
        have HQ : Hid (pre ++ two s[k] = (s.data.toList.take (k + 1)).flatMap two) := by
          show _ = _
          rw [HP.out, take_snoc s k hlt, List.flatMap_append]; simp
        go_wp2_with fail
        go_roundw
        case rel => exact ⟨k + 1, pre ++ two s[k], _, by omega, by go_num, rfl, HQ, by simpa [two] using hown1, hb2⟩
        case measure => simp [intOf]; omega
    · obtain rfl : k = s.size := by omega
      have HR : Hid (pre = s.data.toList.flatMap two) := by
        show _ = _
        rw [HP.out, List.take_of_length_le (by rw [size_data]; exact Nat.le_refl _)]
      have hcv := own_text (src := 68) (dst := 9) Tryd.underlying68 Tryd.underlying5 Tryd.underlying9 hown
      go_wp2_with fail
      go_ret
      refine ⟨ret_str ?_, hb⟩
      rw [HR.out]
      unfold hexL
      rw [if_neg (fun h => by have := size_data s; rw [h] at this; simp at this; omega)]

theorem refhex_any (s : ByteArray) (w : World) (hs : s.size ≤ 70000000000000) :
    Calls Tryd.prog 17 #[.string s] w fun e w' => e = .returned (.string ⟨(hexL s.data.toList).toArray⟩) ∧ Below w.heap.size w w' := by
  by_cases h0 : s.size = 0
  · rw [data_nil h0]
    have hne : (s.toList == ([] : List UInt8)) = true := by rw [toList_nil, decide_eq_true_iff]; exact h0
    clear h0
    go_enter Tryd.func17, Tryd.ntmps17
    go_wp2_with fail
    go_ret
    exact ⟨rfl, Below.refl _ _⟩
  · exact refhex_full s w hs (by omega)
end Go.Proofs.YthdecdhikjmggaaDoor
