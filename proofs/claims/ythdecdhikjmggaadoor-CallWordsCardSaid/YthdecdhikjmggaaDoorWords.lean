/- The law CallWords answers true. -/
import Derived.Test.YthdecdhikjmggaaDoorBack
import Derived.Test.YthdecdhikjmggaaDoorSpeaks
import Derived.Test.YthdecdhikjmggaaDoorRefText
set_option linter.unusedSimpArgs false
set_option linter.unusedVariables false
namespace Go.Proofs.YthdecdhikjmggaaDoor
open Go.RowKit

theorem hex_long (l : List UInt8) : l.length ≤ (hexL l).length := by
  unfold hexL
  split
  · rename_i h; subst h; simp
  · rw [twos_length]; omega

theorem bytes_back (s : ByteArray) (w : World) (hs : s.size ≤ 2000) :
    Calls Tryd.prog 13 #[.string ⟨(hexL s.data.toList).toArray⟩] w fun e w' => e = .returned (.tuple #[.string s, .bool true]) ∧ Below w.heap.size w w' := by
  have hl := hexL_length s.data.toList
  rw [size_data] at hl
  have h := bytes_any ⟨(hexL s.data.toList).toArray⟩ w (by rw [size_mk]; omega)
  have e : (⟨(hexL s.data.toList).toArray⟩ : ByteArray).data.toList = hexL s.data.toList := rfl
  rw [e, bytes_hex] at h
  exact h
theorem number_back (n : Int) (w : World) (G : Glob w) (h0 : -9223372036854775808 ≤ n) (h1 : n ≤ 9223372036854775807) :
    Calls Tryd.prog 15 #[.string ⟨(Lib.itoa n).toArray⟩] w fun e w' => e = .returned (.tuple #[.int .i64 n, .bool true]) ∧ Below w.heap.size w w' := by
  have hl := itoa_length h0 h1
  have h := number_any ⟨(Lib.itoa n).toArray⟩ w (by rw [size_mk]; omega) G
  have e : (⟨(Lib.itoa n).toArray⟩ : ByteArray).data.toList = Lib.itoa n := rfl
  rw [e, numV_itoa h0 h1, num_itoa h0 h1] at h
  exact h
theorem refhex_back (s : ByteArray) (r : List UInt8) (w : World) (hs : s.size ≤ 2000) (hr : hexL r = s.data.toList) :
    Calls Tryd.prog 17 #[.string ⟨r.toArray⟩] w fun e w' => e = .returned (.string s) ∧ Below w.heap.size w w' := by
  have hl := hex_long r
  rw [hr, size_data] at hl
  have h := refhex_any ⟨r.toArray⟩ w (by rw [size_mk]; omega)
  have e : (⟨r.toArray⟩ : ByteArray).data.toList = r := rfl
  rw [e, hr] at h
  exact h
theorem num_back (s : ByteArray) (n : Int) (w : World) (h0 : -9223372036854775808 ≤ n) (h1 : n ≤ 9223372036854775807) (hr : Lib.itoa n = s.data.toList) :
    Calls Tryd.prog 16 #[.int .i64 n] w fun e w' => e = .returned (.string s) ∧ Below w.heap.size w w' := by
  have h := num_in n w h0 h1
  rw [hr] at h
  exact h

theorem true_below {w w' : World} {e : Ending} (h : e = .returned (.bool true) ∧ Below w.heap.size w w') : e = .returned (.bool true) ∧ Below w.heap.size w w' := h

set_option maxHeartbeats 2000000 in
set_option maxRecDepth 100000 in
theorem words_at (s : ByteArray) (n : Int) (w : World) (G : Glob w) (h0 : -9223372036854775808 ≤ n) (h1 : n ≤ 9223372036854775807) (hs : ¬ 2000 < s.size)
    (r : List UInt8) (ok : Bool) (hr : bytesL s.data.toList = (r, ok)) (v : Int) (num : Bool) (hv : atoiNum s.data.toList = v) (hn : isNum s.data.toList = num) :
    Calls Tryd.prog 4 #[.string s, .int .i64 n] w fun e w' => e = .returned (.bool true) ∧ Below w.heap.size w w' := by
  have HG : Hid (Glob w) := G
  clear G
  have HS : Hid (s.size ≤ 2000) := by show _ ≤ _; omega
  have HR : Hid (ok = true → hexL r = s.data.toList) := fun h => by
    have := hex_bytes s.data.toList (by rw [hr]; exact h)
    rwa [hr] at this
  have HB : Hid (∀ w : World, Calls Tryd.prog 13 #[.string s] w fun e w' => e = .returned (.tuple #[.string ⟨r.toArray⟩, .bool ok]) ∧ Below w.heap.size w w') := fun w => by
    have := bytes_any s w (by omega)
    rwa [hr] at this
  have HV : Hid (num = true → Lib.itoa v = s.data.toList) := fun h => by rw [← hv]; exact itoa_num (by rw [hn]; exact h)
  have HVB : Hid (-9223372036854775808 ≤ v ∧ v ≤ 9223372036854775807) := by
    have := atoiNum_bounds s.data.toList
    rw [hv] at this
    exact this
  have HN : Hid (∀ w : World, Glob w → Calls Tryd.prog 15 #[.string s] w fun e w' => e = .returned (.tuple #[.int .i64 v, .bool num]) ∧ Below w.heap.size w w') := fun w G => by
    have := number_any s w (by omega) G
    rwa [hv, hn] at this
  have HI : Hid (-9223372036854775808 ≤ n ∧ n ≤ 9223372036854775807) := ⟨h0, h1⟩
  obtain ⟨hx, hhx⟩ : ∃ hx : ByteArray, hx = ⟨(hexL s.data.toList).toArray⟩ := ⟨_, rfl⟩
  obtain ⟨nx, hnx⟩ : ∃ nx : ByteArray, nx = ⟨(Lib.itoa n).toArray⟩ := ⟨_, rfl⟩
  have H14 : Hid (∀ w : World, Calls Tryd.prog 14 #[.string s] w fun e w' => e = .returned (.string hx) ∧ Below w.heap.size w w') := fun w => by rw [hhx]; exact hex_any s w (by omega)
  have H13 : Hid (∀ w : World, Calls Tryd.prog 13 #[.string hx] w fun e w' => e = .returned (.tuple #[.string s, .bool true]) ∧ Below w.heap.size w w') := fun w => by rw [hhx]; exact bytes_back s w (by omega)
  have H16 : Hid (∀ w : World, Calls Tryd.prog 16 #[.int .i64 n] w fun e w' => e = .returned (.string nx) ∧ Below w.heap.size w w') := fun w => by rw [hnx]; exact num_in n w h0 h1
  have H15 : Hid (∀ w : World, Glob w → Calls Tryd.prog 15 #[.string nx] w fun e w' => e = .returned (.tuple #[.int .i64 n, .bool true]) ∧ Below w.heap.size w w') := fun w G => by rw [hnx]; exact number_back n w G h0 h1
  have H17 : Hid (∀ w : World, Calls Tryd.prog 17 #[.string s] w fun e w' => e = .returned (.string hx) ∧ Below w.heap.size w w') := fun w => by rw [hhx]; exact refhex_any s w (by omega)
  obtain ⟨rb, hrb⟩ : ∃ rb : ByteArray, rb = ⟨r.toArray⟩ := ⟨_, rfl⟩
  rw [← hrb] at HB
  have HH : Hid (ok = true → ∀ w : World, Calls Tryd.prog 17 #[.string rb] w fun e w' => e = .returned (.string s) ∧ Below w.heap.size w w') := fun h w => by rw [hrb]; exact refhex_back s r w (by omega) (HR.out h)
  have HM : Hid (num = true → ∀ w : World, Calls Tryd.prog 16 #[.int .i64 v] w fun e w' => e = .returned (.string s) ∧ Below w.heap.size w w') := fun h w => num_back s v w HVB.out.1 HVB.out.2 (HV.out h)
  clear hr hv hn h0 h1 hhx hnx hrb HR HV
  have hb := Below.refl w.heap.size w
  cases ok <;> cases num
  all_goals
    go_enter Tryd.func4, Tryd.ntmps4
    go_wp2_with (first
      | (go_at_call 9; refine (speaks_any _ HG.out).mono ?_; rintro e w1 ⟨rfl, h⟩; replace hb := below_from hb h; clear h)
      | (go_at_call 14; with_reducible refine (H14.out _).mono ?_; rintro e w1 ⟨rfl, h⟩; replace hb := below_from hb h; clear h)
      | (go_at_call 13; with_reducible refine (H13.out _).mono ?_; rintro e w1 ⟨rfl, h⟩; replace hb := below_from hb h; clear h)
      | (go_at_call 13; with_reducible refine (HB.out _).mono ?_; rintro e w1 ⟨rfl, h⟩; replace hb := below_from hb h; clear h)
      | (go_at_call 16; with_reducible refine (H16.out _).mono ?_; rintro e w1 ⟨rfl, h⟩; replace hb := below_from hb h; clear h)
      | (go_at_call 15; with_reducible refine (H15.out _ (HG.out.below hb)).mono ?_; rintro e w1 ⟨rfl, h⟩; replace hb := below_from hb h; clear h)
      | (go_at_call 15; with_reducible refine (HN.out _ (HG.out.below hb)).mono ?_; rintro e w1 ⟨rfl, h⟩; replace hb := below_from hb h; clear h)
      | (go_at_call 17; with_reducible refine (H17.out _).mono ?_; rintro e w1 ⟨rfl, h⟩; replace hb := below_from hb h; clear h)
      | (go_at_call 17; refine (HH.out (by trivial) _).mono ?_; rintro e w1 ⟨rfl, h⟩; replace hb := below_from hb h; clear h)
      | (go_at_call 16; refine (HM.out (by trivial) _).mono ?_; rintro e w1 ⟨rfl, h⟩; replace hb := below_from hb h; clear h))
  all_goals go_ret
  all_goals exact ⟨rfl, hb⟩
end Go.Proofs.YthdecdhikjmggaaDoor
