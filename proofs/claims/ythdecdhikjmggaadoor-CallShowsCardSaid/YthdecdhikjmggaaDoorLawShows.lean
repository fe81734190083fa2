/- The law CallShows answers true. -/
import Derived.Test.YthdecdhikjmggaaDoorBack
import Derived.Test.YthdecdhikjmggaaDoorSpeaks
import Derived.Test.YthdecdhikjmggaaDoorRefShow
set_option linter.unusedSimpArgs false
set_option linter.unusedVariables false
namespace Go.Proofs.YthdecdhikjmggaaDoor
open Go.RowKit

theorem StrRow.below {w w' : World} {A : Option Addr} {ns : List ByteArray} (h : StrRow w A ns) {B : Nat} (hb : Below B w w') (hB : w.heap.size ≤ B) : StrRow w' A ns := fun k hk => by
  obtain ⟨ad, e, hc⟩ := h k hk
  exact ⟨ad, e, (hb.cell (Nat.lt_of_lt_of_le (World.block_lt_of_cell? w _ hc) hB)).trans hc⟩

theorem res_cells {w : World} {b : Nat} {err kind size place id : Int} {T : ByteArray} {v : Value} {last : Bool} (h : w.heap[b]? = some (.cells #[.int .i64 err, .int .i64 kind, .int .i64 size, .int .i64 place, .int .i64 id, .string T, v, .bool last] 40 (0, 0))) :
    w.cell? ⟨b, 0, none⟩ = some (.int .i64 err) ∧ w.cell? ⟨b, 1, none⟩ = some (.int .i64 kind) ∧ w.cell? ⟨b, 2, none⟩ = some (.int .i64 size) ∧ w.cell? ⟨b, 3, none⟩ = some (.int .i64 place) ∧ w.cell? ⟨b, 4, none⟩ = some (.int .i64 id) ∧ w.cell? ⟨b, 5, none⟩ = some (.string T) ∧ w.cell? ⟨b, 6, none⟩ = some v ∧ w.cell? ⟨b, 7, none⟩ = some (.bool last) ∧ b < w.heap.size := by
  refine ⟨?_, ?_, ?_, ?_, ?_, ?_, ?_, ?_, (Array.getElem?_eq_some_iff.1 h).1⟩
  all_goals (rw [Lib.cell_of_heap h]; rfl)

theorem block_after {w w1 : World} {cs : Array Value} {t : TypeId} (hb : Below (w.alloc (.cells cs t)).heap.size (w.alloc (.cells cs t)) w1) : w1.heap[w.heap.size]? = some (.cells cs t (0, 0)) := by
  rw [hb.block _ (by simp)]
  exact heap_alloc_new _ _

/-- What is answered, in words, is the document's, for any world. -/
def ShowSame (k err kind size place id : Int) (T : ByteArray) (names : List ByteArray) (A : Option Addr) (c : Nat) (last : Bool) (S : ByteArray) : Prop :=
  (∀ w : World, Glob w → StrRow w A names → Calls Tryd.prog 18 #[.int .i64 k, .agg #[.int .i64 err, .int .i64 kind, .int .i64 size, .int .i64 place, .int .i64 id, .string T, .slice A names.length c, .bool last]] w fun e w' => e = .returned (.string S) ∧ Below w.heap.size w w') ∧
  (∀ w : World, StrRow w A names → Calls Tryd.prog 19 #[.int .i64 k, .agg #[.int .i64 err, .int .i64 kind, .int .i64 size, .int .i64 place, .int .i64 id, .string T, .slice A names.length c, .bool last]] w fun e w' => e = .returned (.string S) ∧ Below w.heap.size w w')

theorem show_same (k err kind size place id : Int) (T : ByteArray) (names : List ByteArray) (A : Option Addr) (c : Nat) (last : Bool) (hf : ResFits ⟨err, kind, size, place, id, T.data.toList, names, last⟩ 1000000) : ∃ S, ShowSame k err kind size place id T names A c last S := by
  refine ⟨⟨(showL k ⟨err, kind, size, place, id, T.data.toList, names, last⟩).toArray⟩, fun w G hr => ?_, fun w hr => ?_⟩
  · have h := show_any k ⟨err, kind, size, place, id, T.data.toList, names, last⟩ A c w G hf hr
    unfold ShowEnds at h
    simp only [mk_data] at h
    exact h
  · have h := refshow_any k ⟨err, kind, size, place, id, T.data.toList, names, last⟩ A c w hf hr
    unfold ShowEnds at h
    simp only [mk_data] at h
    exact h

set_option maxHeartbeats 2000000 in
set_option maxRecDepth 100000 in
theorem shows_law (k err kind size place id : Int) (T : ByteArray) (names : List ByteArray) (A : Option Addr) (c : Nat) (last : Bool) (w : World) (G : Glob w) (hr : StrRow w A names)
    (b0 : -9223372036854775808 ≤ err ∧ err ≤ 9223372036854775807) (b1 : -9223372036854775808 ≤ kind ∧ kind ≤ 9223372036854775807) (b2 : -9223372036854775808 ≤ size ∧ size ≤ 9223372036854775807) (b3 : -9223372036854775808 ≤ place ∧ place ≤ 9223372036854775807) (b4 : -9223372036854775808 ≤ id ∧ id ≤ 9223372036854775807) (hnl : names.length ≤ 9223372036854775807) :
    Calls Tryd.prog 5 #[.int .i64 k, .agg #[.int .i64 err, .int .i64 kind, .int .i64 size, .int .i64 place, .int .i64 id, .string T, .slice A names.length c, .bool last]] w fun e w' => e = .returned (.bool true) ∧ Below w.heap.size w w' := by
  have HG : Hid (Glob w) := G
  have HRw : Hid (StrRow w A names) := hr
  clear G hr
  have HF : Hid (T.size ≤ 2000 → names.length ≤ 100 → (∀ x ∈ names, x.size ≤ 200) → ∃ S, ShowSame k err kind size place id T names A c last S) := fun h1 h2 h3 =>
    show_same k err kind size place id T names A c last ⟨b0, b1, b2, b3, b4, by show T.data.toList.length ≤ _; rw [size_data]; omega, by show names.length ≤ _; omega, fun x hx => Nat.le_trans (h3 x hx) (by decide)⟩
  clear b0 b1 b2 b3 b4
  go_enter Tryd.func5, Tryd.ntmps5
  go_wp2_with fail
  go_at_call 9
  refine (speaks_any _ (HG.out.alloc _)).mono ?_
  rintro e w1 ⟨rfl, hb1⟩
  have HO : Hid (w1.heap[w.heap.size]? = _) := block_after hb1
  obtain ⟨c0, c1, c2, c3, c4, c5, c6, c7, lt⟩ := res_cells HO.out
  have hb := below_from (below_al (Below.refl _ _) _) hb1
  have HR1 : Hid (StrRow w1 A names) := HRw.out.below hb (Nat.le_refl _)
  have G1 := HG.out.below hb
  clear hb1
  by_cases hT : 2000 < T.size
  · go_wp2_with fail
    go_ret
    exact ⟨rfl, hb⟩
  by_cases hN : 100 < names.length
  · go_wp2_with fail
    go_ret
    exact ⟨rfl, hb⟩
  go_wp2_with fail
  go_loop [22] (fun i => ∃ j : Nat, j ≤ names.length ∧ i = .int .i64 j ∧ ∀ x ∈ names.take j, x.size ≤ 200) (fun i => names.length - (intOf i).toNat)
  case atStart => exact ⟨0, by omega, rfl, by simp⟩
  case round =>
    obtain ⟨j, hj, rfl, hall⟩ := hrel
    by_cases hlt : j < names.length
    · obtain ⟨ad, rfl, hc⟩ := HR1.out j hlt
      obtain ⟨x, hx⟩ : ∃ x, names.getD j ByteArray.empty = x := ⟨_, rfl⟩
      rw [hx] at hc
      have htk : names.take (j + 1) = names.take j ++ [x] := by
        rw [List.take_succ_eq_append_getElem hlt, ← hx, List.getD_eq_getElem?_getD, List.getElem?_eq_getElem hlt]; rfl
      by_cases hx2 : 200 < x.size
      · clear htk hx hall
        go_wp2_with fail
        go_ret
        exact ⟨rfl, hb⟩
      · have HA : Hid (∀ y ∈ names.take (j + 1), y.size ≤ 200) := fun y hy => by
          rw [htk, List.mem_append, List.mem_singleton] at hy
          rcases hy with hy | rfl
          · exact hall y hy
          · omega
        clear htk hx hall
        go_wp2_with fail
        go_round
        case rel => exact ⟨j + 1, by omega, by go_num, HA.out⟩
        case measure => simp [intOf]; omega
    · obtain rfl : j = names.length := by omega
      rw [List.take_of_length_le (Nat.le_refl _)] at hall
      obtain ⟨S, hS⟩ := HF.out (by omega) (by omega) hall
      have HS : Hid (ShowSame k err kind size place id T names A c last S) := hS
      clear hlt hall hS
      go_wp2_with fail
      go_region_held3 (fun w' => w'.cell? ⟨w.heap.size, 0, none⟩ = some (.int .i64 err) ∧ w'.cell? ⟨w.heap.size, 1, none⟩ = some (.int .i64 kind) ∧ w'.cell? ⟨w.heap.size, 2, none⟩ = some (.int .i64 size) ∧ w'.cell? ⟨w.heap.size, 3, none⟩ = some (.int .i64 place) ∧ w'.cell? ⟨w.heap.size, 4, none⟩ = some (.int .i64 id) ∧ w'.cell? ⟨w.heap.size, 5, none⟩ = some (.string T) ∧ w'.cell? ⟨w.heap.size, 6, none⟩ = some (.slice A names.length c) ∧ w'.cell? ⟨w.heap.size, 7, none⟩ = some (.bool last) ∧ Below w1.heap.size w1 w')
        (first
          | exact ⟨c0, c1, c2, c3, c4, c5, c6, c7, (Below.refl w1.heap.size w1).drew⟩
          | exact ⟨((below_undrew hb1).cell (p := ⟨w.heap.size, 0, none⟩) lt).trans c0, ((below_undrew hb1).cell (p := ⟨w.heap.size, 1, none⟩) lt).trans c1, ((below_undrew hb1).cell (p := ⟨w.heap.size, 2, none⟩) lt).trans c2, ((below_undrew hb1).cell (p := ⟨w.heap.size, 3, none⟩) lt).trans c3, ((below_undrew hb1).cell (p := ⟨w.heap.size, 4, none⟩) lt).trans c4, ((below_undrew hb1).cell (p := ⟨w.heap.size, 5, none⟩) lt).trans c5, ((below_undrew hb1).cell (p := ⟨w.heap.size, 6, none⟩) lt).trans c6, ((below_undrew hb1).cell (p := ⟨w.heap.size, 7, none⟩) lt).trans c7, below_undrew hb1⟩
          | exact ⟨((below_from (below_undrew hb1) hb2).cell (p := ⟨w.heap.size, 0, none⟩) lt).trans c0, ((below_from (below_undrew hb1) hb2).cell (p := ⟨w.heap.size, 1, none⟩) lt).trans c1, ((below_from (below_undrew hb1) hb2).cell (p := ⟨w.heap.size, 2, none⟩) lt).trans c2, ((below_from (below_undrew hb1) hb2).cell (p := ⟨w.heap.size, 3, none⟩) lt).trans c3, ((below_from (below_undrew hb1) hb2).cell (p := ⟨w.heap.size, 4, none⟩) lt).trans c4, ((below_from (below_undrew hb1) hb2).cell (p := ⟨w.heap.size, 5, none⟩) lt).trans c5, ((below_from (below_undrew hb1) hb2).cell (p := ⟨w.heap.size, 6, none⟩) lt).trans c6, ((below_from (below_undrew hb1) hb2).cell (p := ⟨w.heap.size, 7, none⟩) lt).trans c7, below_from (below_undrew hb1) hb2⟩)
        (first
          | (go_at_call 18; refine (HS.out.1 _ (first_glob G1) (HR1.out.below (Below.refl w1.heap.size w1).drew (Nat.le_refl _))).mono ?_; rintro e w2 ⟨rfl, hb1⟩)
          | (go_at_call 19; refine (HS.out.2 _ (HR1.out.below (below_undrew hb1) (Nat.le_refl _))).mono ?_; rintro e w3 ⟨rfl, hb2⟩))
      go_wp2_with fail
      go_ret
      exact ⟨rfl, below_from hb (below_from (below_undrew hb1) hb2)⟩
end Go.Proofs.YthdecdhikjmggaaDoor
