/- The contract of call.Number: what it answers at any word. -/
import Derived.Test.YthdecdhikjmggaaDoorBase
import Derived.Lib.AtoiErrMem
namespace Go.Proofs.YthdecdhikjmggaaDoor
open Go.RowKit

theorem atoiAll_bounds {l : List UInt8} {v : Int} (h : Lib.atoiAll l = .ok v) : -9223372036854775808 ≤ v ∧ v ≤ 9223372036854775807 := by
  unfold Lib.atoiAll at h
  split at h
  · cases h
  · simp only at h
    split at h
    · cases h
    · cases h
    · split at h
      · cases h
      · split at h
        · cases h
        · simp only [Lib.NumEnd.ok.injEq] at h
          subst h
          split <;> omega

theorem number_ok (s : ByteArray) (v : Int) (w : World) (hs : s.size ≤ 140737488355328) (G : Glob w) (h : Lib.atoiAll s.data.toList = .ok v) :
    Calls Tryd.prog 15 #[.string s] w fun e w' => e = .returned (.tuple #[.int .i64 v, .bool (Lib.itoa v == s.data.toList)]) ∧ Below w.heap.size w w' := by
  have hb := atoiAll_bounds h
  have H : Hid (Lib.atoiAll s.data.toList = .ok v) := h
  clear h
  go_enter Tryd.func15, Tryd.ntmps15
  go_wp2_with (go_at_call 40; refine (Tryd.strconv_Atoi_ok s (by omega) v H.out _).mono ?_; rintro e w1 ⟨rfl, hw1⟩)
  have hb1 : Below w.heap.size w w1 := by
    rcases hw1 with rfl | ⟨t, rfl⟩
    · exact Below.refl _ _
    · exact Lib.bytesWorld_below _ _ _
  have G1 := G.below hb1
  clear hw1
  go_wp2_with (go_at_call 41; refine (itoa_any v hb.1 hb.2 _ G1).mono ?_; rintro e w2 ⟨rfl, hb2⟩)
  go_ret2
  refine ⟨?_, hb1.trans (hb2.mono hb1.size)⟩
  rw [ByteArray.toList_eq]; rfl

theorem number_no (s : ByteArray) (w : World) (hs : s.size ≤ 140737488355328) (G : Glob w) (h : ∀ v, Lib.atoiAll s.data.toList ≠ .ok v) :
    Calls Tryd.prog 15 #[.string s] w fun e w' => e = .returned (.tuple #[.int .i64 (atoiNum s.data.toList), .bool false]) ∧ Below w.heap.size w w' := by
  unfold atoiNum
  rcases hc : Lib.atoiAll s.data.toList with v | _ | _
  · exact absurd hc (h v)
  · have H : Hid ((∀ v, Lib.atoiAll s.data.toList ≠ .ok v) ∧ Lib.atoiAll s.data.toList ≠ .range) := ⟨h, by rw [hc]; simp⟩
    clear hc h
    obtain ⟨tp, p, hv⟩ := G.errSyntax
    have HV : Hid (w.cell? ⟨1, 0, none⟩ = some (.iface tp p)) := hv
    clear hv
    go_enter Tryd.func15, Tryd.ntmps15
    go_wp2_with (go_at_call 40; refine (Tryd.strconv_Atoi_syntax s (by omega) H.out _ _ HV.out (.inr ⟨tp, p, rfl⟩)).mono ?_; rintro e w1 ⟨N, rfl, _, _, hb1⟩)
    go_ret2
    exact ⟨rfl, hb1⟩
  · have H : Hid (Lib.atoiAll s.data.toList = .range) := hc
    clear hc h
    obtain ⟨tp, p, hv⟩ := G.errRange
    have HV : Hid (w.cell? ⟨2, 0, none⟩ = some (.iface tp p)) := hv
    clear hv
    go_enter Tryd.func15, Tryd.ntmps15
    go_wp2_with (go_at_call 40; refine (Tryd.strconv_Atoi_range s (by omega) H.out _ _ HV.out (.inr ⟨tp, p, rfl⟩)).mono ?_; rintro e w1 ⟨N, rfl, _, _, hb1⟩)
    go_ret2
    exact ⟨rfl, hb1⟩

theorem number_any (s : ByteArray) (w : World) (hs : s.size ≤ 140737488355328) (G : Glob w) :
    Calls Tryd.prog 15 #[.string s] w fun e w' => e = .returned (.tuple #[.int .i64 (atoiNum s.data.toList), .bool (isNum s.data.toList)]) ∧ Below w.heap.size w w' := by
  rcases hc : Lib.atoiAll s.data.toList with v | _ | _
  · have e1 : atoiNum s.data.toList = v := by unfold atoiNum; rw [hc]
    have e2 : isNum s.data.toList = (Lib.itoa v == s.data.toList) := by unfold isNum; rw [hc]
    rw [e1, e2]
    exact number_ok s v w hs G hc
  · have e2 : isNum s.data.toList = false := by unfold isNum; rw [hc]
    rw [e2]
    exact number_no s w hs G (by rw [hc]; simp)
  · have e2 : isNum s.data.toList = false := by unfold isNum; rw [hc]
    rw [e2]
    exact number_no s w hs G (by rw [hc]; simp)

theorem atoiNum_bounds (l : List UInt8) : -9223372036854775808 ≤ atoiNum l ∧ atoiNum l ≤ 9223372036854775807 := by
  unfold atoiNum
  split
  · rename_i h; exact atoiAll_bounds h
  · omega
  · unfold Lib.atoiSat; split <;> omega
end Go.Proofs.YthdecdhikjmggaaDoor
