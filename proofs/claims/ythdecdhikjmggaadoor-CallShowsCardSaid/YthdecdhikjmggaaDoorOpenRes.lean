/- An answer that comes in, opened: its eight parts. -/
import Derived.Test.YthdecdhikjmggaaDoorFrame
import Derived.Test.YthdecdhikjmggaaDoorLawShows
import Derived.SliceStrings
namespace Go.Proofs.YthdecdhikjmggaaDoor
open Go.ChangeShapes Go.WideShapes Go.ChangeAt Go.RowKit

theorem array8 {α : Type} {cs : Array α} (h : cs.size = 8) : ∃ c0 c1 c2 c3 c4 c5 c6 c7, cs = #[c0, c1, c2, c3, c4, c5, c6, c7] := by
  obtain ⟨l⟩ := cs
  match l, h with
  | [c0, c1, c2, c3, c4, c5, c6, c7], _ => exact ⟨c0, c1, c2, c3, c4, c5, c6, c7, rfl⟩
theorem cells40 : Tryd.prog.cellsOf 40 = 8 := by kernel_rfl

set_option maxRecDepth 100000 in
theorem open_res {H : Type} {enc : TypeId × Value → H} {W : World} {b0 base : Nat} {sp : Nat → Bool} {held : Bool} {v : Value} {d : DataW H} {p : List MemPlace} (hv : Value.okWide Tryd.prog W .any b0 40 v) (h : DataW.Trod enc Tryd.prog W base sp held 40 v d p) :
    ∃ (err kind size place id : Int) (T : ByteArray) (names : List ByteArray) (A : Option Addr) (c : Nat) (last : Bool), v = .agg #[.int .i64 err, .int .i64 kind, .int .i64 size, .int .i64 place, .int .i64 id, .string T, .slice A names.length c, .bool last] ∧ StrRow W A names ∧
      (-9223372036854775808 ≤ err ∧ err ≤ 9223372036854775807) ∧ (-9223372036854775808 ≤ kind ∧ kind ≤ 9223372036854775807) ∧ (-9223372036854775808 ≤ size ∧ size ≤ 9223372036854775807) ∧ (-9223372036854775808 ≤ place ∧ place ≤ 9223372036854775807) ∧ (-9223372036854775808 ≤ id ∧ id ≤ 9223372036854775807) ∧ names.length ≤ 9223372036854775807 := by
  obtain ⟨cs, rfl, hsz⟩ := okWide_struct Tryd.underlying40 hv
  obtain ⟨c0, c1, c2, c3, c4, c5, c6, c7, rfl⟩ := array8 (hsz.trans cells40)
  obtain ⟨fuel, hf⟩ := h
  obtain ⟨xs, m, _, hx, _, hlen, hel⟩ := DataW.trod_struct Tryd.underlying40 hf
  match xs, hlen, hx, hel with
  | [x0, x1, x2, x3, x4, x5, x6, x7], _, hx, hel =>
    have h0 := hel 0 _ rfl
    have h1 := hel 1 _ rfl
    have h2 := hel 2 _ rfl
    have h3 := hel 3 _ rfl
    have h4 := hel 4 _ rfl
    have h5 := hel 5 _ rfl
    have h6 := hel 6 _ rfl
    have h7 := hel 7 _ rfl
    simp only [Value.cells] at h0 h1 h2 h3 h4 h5 h6 h7
    obtain ⟨err, e0, _, w0⟩ := DataW.trod_int Tryd.underlying37 (show DataW.trod _ Tryd.prog W _ _ _ m 37 [c0] = some x0 from h0)
    obtain ⟨kind, e1, _, w1⟩ := DataW.trod_int Tryd.underlying3 (show DataW.trod _ Tryd.prog W _ _ _ m 3 [c1] = some x1 from h1)
    obtain ⟨size, e2, _, w2⟩ := DataW.trod_int Tryd.underlying3 (show DataW.trod _ Tryd.prog W _ _ _ m 3 [c2] = some x2 from h2)
    obtain ⟨place, e3, _, w3⟩ := DataW.trod_int Tryd.underlying3 (show DataW.trod _ Tryd.prog W _ _ _ m 3 [c3] = some x3 from h3)
    obtain ⟨id, e4, _, w4⟩ := DataW.trod_int Tryd.underlying3 (show DataW.trod _ Tryd.prog W _ _ _ m 3 [c4] = some x4 from h4)
    obtain ⟨T, e5, _, _⟩ := DataW.trod_string Tryd.underlying9 (show DataW.trod _ Tryd.prog W _ _ _ m 9 [c5] = some x5 from h5)
    obtain ⟨last, e7, _⟩ := DataW.trod_bool Tryd.underlying4 (show DataW.trod _ Tryd.prog W _ _ _ m 4 [c7] = some x7 from h7)
    injection e0 with e0 _
    injection e1 with e1 _
    injection e2 with e2 _
    injection e3 with e3 _
    injection e4 with e4 _
    injection e5 with e5 _
    injection e7 with e7 _
    subst e0 e1 e2 e3 e4 e5 e7
    have hn : ∃ (names : List ByteArray) (A : Option Addr) (c : Nat), c6 = .slice A names.length c ∧ StrRow W A names ∧ names.length ≤ 9223372036854775807 := by
      rcases open_strings Tryd.underlying38 Tryd.underlying9 (by kernel_rfl) (show DataW.trod _ Tryd.prog W _ _ _ m 38 [c6] = some x6 from h6) with ⟨e6, _⟩ | ⟨a, len, cap, ss, e6, _, hlc, hcm, hss, _, hcell, _⟩
      · injection e6 with e6 _
        exact ⟨[], none, 0, e6, show ∀ k, _ → _ from fun k hk => absurd hk (Nat.not_lt_zero k), Nat.zero_le _⟩
      · injection e6 with e6 _
        have hle : len ≤ ss.length := by rw [hss]; split <;> omega
        have hlt : (ss.take len).length = len := by rw [List.length_take]; omega
        refine ⟨ss.take len, some a, cap, by rw [hlt]; exact e6, fun k hk => ⟨a, rfl, ?_⟩, by rw [hlt]; unfold maxLen at hcm; omega⟩
        rw [hlt] at hk
        have e : (ss.take len).getD k ByteArray.empty = ss.getD k ByteArray.empty := by
          rw [List.getD_eq_getElem?_getD, List.getD_eq_getElem?_getD, List.getElem?_take, if_pos hk]
        rw [e]
        exact hcell k (by omega)
    obtain ⟨names, A, c, rfl, hr, hl⟩ := hn
    exact ⟨err, kind, size, place, id, T, names, A, c, last, rfl, hr, bounds_i64 w0, bounds_i64 w1, bounds_i64 w2, bounds_i64 w3, bounds_i64 w4, hl⟩
end Go.Proofs.YthdecdhikjmggaaDoor
