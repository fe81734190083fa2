/- A call that comes in, opened: its six parts, and their sizes out of the row's weights. -/
import Derived.Test.YthdecdhikjmggaaDoorFrame
namespace Go.Proofs.YthdecdhikjmggaaDoor
open Go.ChangeShapes Go.WideShapes Go.ChangeAt Go.RowKit

theorem array6 {α : Type} {cs : Array α} (h : cs.size = 6) : ∃ c0 c1 c2 c3 c4 c5, cs = #[c0, c1, c2, c3, c4, c5] := by
  obtain ⟨l⟩ := cs
  match l, h with
  | [c0, c1, c2, c3, c4, c5], _ => exact ⟨c0, c1, c2, c3, c4, c5, rfl⟩
theorem cells24 : Tryd.prog.cellsOf 24 = 6 := by kernel_rfl
theorem cells3 : Tryd.prog.cellsOf 3 = 1 := by kernel_rfl
theorem cells9 : Tryd.prog.cellsOf 9 = 1 := by kernel_rfl

set_option maxRecDepth 100000 in
theorem open_op {H : Type} {enc : TypeId × Value → H} {W : World} {b0 base : Nat} {sp : Nat → Bool} {held : Bool} {v : Value} {d : DataW H} {p : List MemPlace} (hv : Value.okWide Tryd.prog W .any b0 24 v) (h : DataW.Trod enc Tryd.prog W base sp held 24 v d p) :
    ∃ (kind : Int) (P : ByteArray) (off n id : Int) (I : ByteArray), v = .agg #[.int .i64 kind, .string P, .int .i64 off, .int .i64 n, .int .i64 id, .string I] ∧
      d = .agg [.lit (.int .i64 kind), .lit (.string P.data.toList), .lit (.int .i64 off), .lit (.int .i64 n), .lit (.int .i64 id), .lit (.string I.data.toList)] ∧
      (-9223372036854775808 ≤ kind ∧ kind ≤ 9223372036854775807) ∧ (-9223372036854775808 ≤ off ∧ off ≤ 9223372036854775807) ∧ (-9223372036854775808 ≤ n ∧ n ≤ 9223372036854775807) ∧ (-9223372036854775808 ≤ id ∧ id ≤ 9223372036854775807) := by
  obtain ⟨cs, rfl, hsz⟩ := okWide_struct Tryd.underlying24 hv
  obtain ⟨c0, c1, c2, c3, c4, c5, rfl⟩ := array6 (hsz.trans cells24)
  obtain ⟨fuel, hf⟩ := h
  obtain ⟨xs, m, _, hx, _, hlen, hel⟩ := DataW.trod_struct Tryd.underlying24 hf
  match xs, hlen, hx, hel with
  | [x0, x1, x2, x3, x4, x5], _, hx, hel =>
    have h0 := hel 0 _ rfl
    have h1 := hel 1 _ rfl
    have h2 := hel 2 _ rfl
    have h3 := hel 3 _ rfl
    have h4 := hel 4 _ rfl
    have h5 := hel 5 _ rfl
    simp only [Value.cells, cells3, cells9] at h0 h1 h2 h3 h4 h5
    obtain ⟨kind, e0, y0, w0⟩ := DataW.trod_int Tryd.underlying3 (show DataW.trod _ Tryd.prog W _ _ _ m 3 [c0] = some x0 from h0)
    obtain ⟨P, e1, y1, _⟩ := DataW.trod_string Tryd.underlying9 (show DataW.trod _ Tryd.prog W _ _ _ m 9 [c1] = some x1 from h1)
    obtain ⟨off, e2, y2, w2⟩ := DataW.trod_int Tryd.underlying3 (show DataW.trod _ Tryd.prog W _ _ _ m 3 [c2] = some x2 from h2)
    obtain ⟨n, e3, y3, w3⟩ := DataW.trod_int Tryd.underlying3 (show DataW.trod _ Tryd.prog W _ _ _ m 3 [c3] = some x3 from h3)
    obtain ⟨id, e4, y4, w4⟩ := DataW.trod_int Tryd.underlying3 (show DataW.trod _ Tryd.prog W _ _ _ m 3 [c4] = some x4 from h4)
    obtain ⟨I, e5, y5, _⟩ := DataW.trod_string Tryd.underlying9 (show DataW.trod _ Tryd.prog W _ _ _ m 9 [c5] = some x5 from h5)
    injection e0 with e0 _
    injection e1 with e1 _
    injection e2 with e2 _
    injection e3 with e3 _
    injection e4 with e4 _
    injection e5 with e5 _
    subst e0 e1 e2 e3 e4 e5 y0 y1 y2 y3 y4 y5
    simp only [List.map_cons, List.map_nil, Prod.mk.injEq] at hx
    exact ⟨kind, P, off, n, id, I, rfl, hx.1, bounds_i64 w0, bounds_i64 w2, bounds_i64 w3, bounds_i64 w4⟩
end Go.Proofs.YthdecdhikjmggaaDoor
