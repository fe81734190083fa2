/- The law CallTexts answers true. -/
import Derived.Test.YthdecdhikjmggaaDoorFits
import Derived.Test.YthdecdhikjmggaaDoorRight
import Derived.Test.YthdecdhikjmggaaDoorSpeaks
import Derived.Test.YthdecdhikjmggaaDoorRefText
set_option linter.unusedSimpArgs false
set_option linter.unusedVariables false
namespace Go.Proofs.YthdecdhikjmggaaDoor
open Go.RowKit
/-- Right says of what can be told what the document says. -/
theorem right_only {o : Opx} (hf : IntsFit o) : rightL o = onlyL o := by
  rw [Bool.eq_iff_iff]
  unfold rightL
  rw [decide_eq_true_iff]
  refine ⟨fun h => ?_, fun h => ?_⟩
  · obtain ⟨h1, _, _, h⟩ := h
    cases hp : parseL (textL o) with
    | none =>
      rw [hp] at h
      rw [← h] at h1
      exact absurd h1 (by decide)
    | some q =>
      rw [hp] at h
      have : q = o := h
      subst this
      exact (parse_text hp).1
  · have hp := text_parse hf h
    have hb : 1 ≤ o.kind ∧ o.kind ≤ 9 := by
      unfold onlyL at h
      rw [Bool.and_eq_true] at h
      have h2 := h.2
      refine ⟨?_, ?_⟩
      all_goals (refine Classical.byContradiction fun hn => ?_; rw [if_neg (by omega), if_neg (by omega), if_neg (by omega), if_neg (by omega), if_neg (by omega)] at h2; cases h2)
    have h10 : ¬ 0 ≤ Lib.indexByte o.path 10 := by
      unfold onlyL at h
      rw [Bool.and_eq_true] at h
      rw [idx_mem]
      simpa using h.1
    exact ⟨hb.1, hb.2, h10, by rw [hp]; rfl⟩

attribute [local go_sem high] eqOp

theorem below_box {w w1 : World} {cs : Array Value} {t : TypeId} (hb : Below (w.alloc (.cells cs t)).heap.size (w.alloc (.cells cs t)) w1) : w1.heap[w.heap.size]? = some (.cells cs t (0, 0)) := by
  rw [hb.block _ (by simp)]
  exact heap_alloc_new _ _

set_option maxHeartbeats 2000000 in
set_option maxRecDepth 100000 in
theorem texts_long (kind off n id : Int) (P I : ByteArray) (w : World) (G : Glob w) (hP : P.size ≤ 140737488351232) (hI : I.size ≤ 140737488351232) (hl : 3000 < P.size + I.size) :
    Calls Tryd.prog 6 #[.agg #[.int .i64 kind, .string P, .int .i64 off, .int .i64 n, .int .i64 id, .string I]] w fun e w' => e = .returned (.bool true) ∧ Below w.heap.size w w' := by
  have HG : Hid (Glob w) := G
  clear G
  have h1 : IntKind.wrap .i64 ((P.size : Int) + (I.size : Int)) = (P.size : Int) + (I.size : Int) := IntWalk.i64_in _ (by omega)
  have h2 : ¬ ((P.size : Int) + (I.size : Int) ≤ 3000) := by omega
  go_enter Tryd.func6, Tryd.ntmps6
  go_wp2_with fail
  go_at_call 9
  refine (speaks_any _ (HG.out.alloc _)).mono ?_
  rintro e w1 ⟨rfl, hb1⟩
  have O1 := below_box hb1
  have c1 : w1.cell? ⟨w.heap.size, 1, none⟩ = some (.string P) := by rw [Lib.cell_of_heap O1]; rfl
  have c5 : w1.cell? ⟨w.heap.size, 5, none⟩ = some (.string I) := by rw [Lib.cell_of_heap O1]; rfl
  have hb := below_from (below_al (Below.refl _ _) _) hb1
  clear hb1
  go_wp2_with fail
  go_ret
  exact ⟨rfl, hb⟩

theorem opV_bytes (kind off n id : Int) (P I : ByteArray) : opV ⟨kind, P.data.toList, off, n, id, I.data.toList⟩ = .agg #[.int .i64 kind, .string P, .int .i64 off, .int .i64 n, .int .i64 id, .string I] := by
  unfold opV opC
  simp only [mk_data]
theorem box_cells {w : World} {b : Nat} {kind off n id : Int} {P I : ByteArray} (h : w.heap[b]? = some (.cells #[.int .i64 kind, .string P, .int .i64 off, .int .i64 n, .int .i64 id, .string I] 24 (0, 0))) :
    w.cell? ⟨b, 0, none⟩ = some (.int .i64 kind) ∧ w.cell? ⟨b, 1, none⟩ = some (.string P) ∧ w.cell? ⟨b, 2, none⟩ = some (.int .i64 off) ∧ w.cell? ⟨b, 3, none⟩ = some (.int .i64 n) ∧ w.cell? ⟨b, 4, none⟩ = some (.int .i64 id) ∧ w.cell? ⟨b, 5, none⟩ = some (.string I) ∧ b < w.heap.size := by
  refine ⟨?_, ?_, ?_, ?_, ?_, ?_, (Array.getElem?_eq_some_iff.1 h).1⟩
  all_goals (rw [Lib.cell_of_heap h]; rfl)

set_option maxHeartbeats 4000000 in
set_option maxRecDepth 100000 in
theorem texts_short (kind off n id : Int) (P I : ByteArray) (w : World) (G : Glob w) (hk : -9223372036854775808 ≤ kind ∧ kind ≤ 9223372036854775807) (ho : -9223372036854775808 ≤ off ∧ off ≤ 9223372036854775807) (hn : -9223372036854775808 ≤ n ∧ n ≤ 9223372036854775807) (hi : -9223372036854775808 ≤ id ∧ id ≤ 9223372036854775807) (hl : ¬ 3000 < P.size + I.size) :
    Calls Tryd.prog 6 #[.agg #[.int .i64 kind, .string P, .int .i64 off, .int .i64 n, .int .i64 id, .string I]] w fun e w' => e = .returned (.bool true) ∧ Below w.heap.size w w' := by
  have HG : Hid (Glob w) := G
  clear G
  have hf : OpFits ⟨kind, P.data.toList, off, n, id, I.data.toList⟩ 1000000 := ⟨hk, ho, hn, hi, by show P.data.toList.length ≤ _; rw [size_data]; omega, by show I.data.toList.length ≤ _; rw [size_data]; omega⟩
  have hf4 : OpFits ⟨kind, P.data.toList, off, n, id, I.data.toList⟩ 4000000000 := ⟨hf.kind, hf.off, hf.n, hf.id, Nat.le_trans hf.path (by decide), Nat.le_trans hf.image (by decide)⟩
  have hT := textL_length hf
  have hr := right_only (o := ⟨kind, P.data.toList, off, n, id, I.data.toList⟩) ⟨ho, hn, hi⟩
  have hback := text_parse (o := ⟨kind, P.data.toList, off, n, id, I.data.toList⟩) ⟨ho, hn, hi⟩
  obtain ⟨Tb, hTb⟩ : ∃ Tb : ByteArray, Tb = ⟨(textL ⟨kind, P.data.toList, off, n, id, I.data.toList⟩).toArray⟩ := ⟨_, rfl⟩
  have hTs : Tb.size ≤ 4000000000 := by rw [hTb, size_mk]; omega
  have hTd : Tb.data.toList = textL ⟨kind, P.data.toList, off, n, id, I.data.toList⟩ := by rw [hTb]
  obtain ⟨ok, hok⟩ : ∃ ok, onlyL ⟨kind, P.data.toList, off, n, id, I.data.toList⟩ = ok := ⟨_, rfl⟩
  have H20 : Hid (∀ w : World, Glob w → Calls Tryd.prog 20 #[.agg #[.int .i64 kind, .string P, .int .i64 off, .int .i64 n, .int .i64 id, .string I]] w fun e w' => e = .returned (.string Tb) ∧ Below w.heap.size w w') := fun w G => by
    have h := text_any _ w G hf4
    rw [opV_bytes] at h
    rw [hTb]; exact h
  have H12 : Hid (∀ w : World, Calls Tryd.prog 12 #[.agg #[.int .i64 kind, .string P, .int .i64 off, .int .i64 n, .int .i64 id, .string I]] w fun e w' => e = .returned (.string Tb) ∧ Below w.heap.size w w') := fun w => by
    have h := reftext_any _ w hf4
    rw [opV_bytes] at h
    rw [hTb]; exact h
  have H11 : Hid (∀ w : World, Calls Tryd.prog 11 #[.agg #[.int .i64 kind, .string P, .int .i64 off, .int .i64 n, .int .i64 id, .string I]] w fun e w' => e = .returned (.bool ok) ∧ Below w.heap.size w w') := fun w => by
    have h := only_walk kind off n id P.data.toList I.data.toList w hf4.path
    unfold OnlyEnds at h
    rw [hok, mk_data, mk_data] at h
    exact h
  have H21 : Hid (∀ w : World, Glob w → Calls Tryd.prog 21 #[.agg #[.int .i64 kind, .string P, .int .i64 off, .int .i64 n, .int .i64 id, .string I]] w fun e w' => e = .returned (.bool ok) ∧ Below w.heap.size w w') := fun w G => by
    have h := right_any _ w G hf
    rw [opV_bytes, hr, hok] at h
    exact h
  obtain ⟨q, hq⟩ : ∃ q, parseL (textL ⟨kind, P.data.toList, off, n, id, I.data.toList⟩) = q := ⟨_, rfl⟩
  obtain ⟨⟨k1, p1, o1, n1, i1, g1⟩, hqd⟩ : ∃ x, q.getD Opx.zero = x := ⟨_, rfl⟩
  obtain ⟨P1, hP1⟩ : ∃ P1 : ByteArray, P1 = ⟨p1.toArray⟩ := ⟨_, rfl⟩
  obtain ⟨I1, hI1⟩ : ∃ I1 : ByteArray, I1 = ⟨g1.toArray⟩ := ⟨_, rfl⟩
  obtain ⟨f1, hf1⟩ : ∃ f1, q.isSome = f1 := ⟨_, rfl⟩
  have H10 : Hid (∀ w : World, Glob w → Calls Tryd.prog 10 #[.string Tb] w fun e w' => e = .returned (.tuple #[.agg #[.int .i64 k1, .string P1, .int .i64 o1, .int .i64 n1, .int .i64 i1, .string I1], .bool f1]) ∧ Below w.heap.size w w') := fun w G => by
    have h := parse_any Tb w hTs G
    rw [hTd, hq] at h
    unfold parseV opV opC at h
    rw [hqd, hf1] at h
    rw [hP1, hI1]
    exact h
  have HE : Hid (ok = true → f1 = true ∧ k1 = kind ∧ P1 = P ∧ o1 = off ∧ n1 = n ∧ i1 = id ∧ I1 = I) := fun h => by
    have := hback (by rw [hok]; exact h)
    rw [hq] at this
    subst this
    have e : (⟨kind, P.data.toList, off, n, id, I.data.toList⟩ : Opx) = ⟨k1, p1, o1, n1, i1, g1⟩ := hqd
    injection e with e1 e2 e3 e4 e5 e6
    subst e1 e2 e3 e4 e5 e6
    rw [hP1, hI1, mk_data, mk_data]
    exact ⟨hf1.symm, rfl, rfl, rfl, rfl, rfl, rfl⟩
  have h2 : ((P.size : Int) + (I.size : Int) ≤ 3000) := by omega
  have h1 : IntKind.wrap .i64 ((P.size : Int) + (I.size : Int)) = (P.size : Int) + (I.size : Int) := IntWalk.i64_in _ (by omega)
  clear hf hf4 hT hr hback hTb hTs hTd hok hq hqd hP1 hI1 hf1 hk ho hn hi
  cases ok with
  | false =>
    clear HE
    go_enter Tryd.func6, Tryd.ntmps6
    go_wp2_with fail
    go_at_call 9
    refine (speaks_any _ (HG.out.alloc _)).mono ?_
    rintro e w1 ⟨rfl, hb1⟩
    have HO : Hid (w1.heap[w.heap.size]? = _) := below_box hb1
    obtain ⟨c0, c1, c2, c3, c4, c5, lt⟩ := box_cells HO.out
    have hb := below_from (below_al (Below.refl _ _) _) hb1
    clear hb1
    go_wp2_with (first
      | (go_at_call 20; refine (H20.out _ (HG.out.below hb)).mono ?_; rintro e w2 ⟨rfl, h⟩; replace HO : Hid (w2.heap[w.heap.size]? = _) := (h.block _ lt).trans HO.out; replace hb := below_from hb h; clear h; obtain ⟨c0, c1, c2, c3, c4, c5, lt⟩ := box_cells HO.out)
      | (go_at_call 11; refine (H11.out _).mono ?_; rintro e w3 ⟨rfl, h⟩; replace HO : Hid (w3.heap[w.heap.size]? = _) := (h.block _ lt).trans HO.out; replace hb := below_from hb h; clear h; obtain ⟨c0, c1, c2, c3, c4, c5, lt⟩ := box_cells HO.out)
      | (go_at_call 12; refine (H12.out _).mono ?_; rintro e w4 ⟨rfl, h⟩; replace HO : Hid (w4.heap[w.heap.size]? = _) := (h.block _ lt).trans HO.out; replace hb := below_from hb h; clear h; obtain ⟨c0, c1, c2, c3, c4, c5, lt⟩ := box_cells HO.out)
      | (go_at_call 21; refine (H21.out _ (HG.out.below hb)).mono ?_; rintro e w5 ⟨rfl, h⟩; replace HO : Hid (w5.heap[w.heap.size]? = _) := (h.block _ lt).trans HO.out; replace hb := below_from hb h; clear h; obtain ⟨c0, c1, c2, c3, c4, c5, lt⟩ := box_cells HO.out)
      | (go_at_call 10; refine (H10.out _ (HG.out.below hb)).mono ?_; rintro e w6 ⟨rfl, h⟩; replace HO : Hid (w6.heap[w.heap.size]? = _) := (h.block _ lt).trans HO.out; replace hb := below_from hb h; clear h; obtain ⟨c0, c1, c2, c3, c4, c5, lt⟩ := box_cells HO.out))
    go_ret
    exact ⟨rfl, below_al hb _⟩
  | true =>
    obtain ⟨rfl, rfl, rfl, rfl, rfl, rfl, rfl⟩ := HE.out (by trivial)
    clear HE
    go_enter Tryd.func6, Tryd.ntmps6
    go_wp2_with fail
    go_at_call 9
    refine (speaks_any _ (HG.out.alloc _)).mono ?_
    rintro e w1 ⟨rfl, hb1⟩
    have HO : Hid (w1.heap[w.heap.size]? = _) := below_box hb1
    obtain ⟨c0, c1, c2, c3, c4, c5, lt⟩ := box_cells HO.out
    have hb := below_from (below_al (Below.refl _ _) _) hb1
    clear hb1
    go_wp2_with (first
      | (go_at_call 20; refine (H20.out _ (HG.out.below hb)).mono ?_; rintro e w2 ⟨rfl, h⟩; replace HO : Hid (w2.heap[w.heap.size]? = _) := (h.block _ lt).trans HO.out; replace hb := below_from hb h; clear h; obtain ⟨c0, c1, c2, c3, c4, c5, lt⟩ := box_cells HO.out)
      | (go_at_call 11; refine (H11.out _).mono ?_; rintro e w3 ⟨rfl, h⟩; replace HO : Hid (w3.heap[w.heap.size]? = _) := (h.block _ lt).trans HO.out; replace hb := below_from hb h; clear h; obtain ⟨c0, c1, c2, c3, c4, c5, lt⟩ := box_cells HO.out)
      | (go_at_call 12; refine (H12.out _).mono ?_; rintro e w4 ⟨rfl, h⟩; replace HO : Hid (w4.heap[w.heap.size]? = _) := (h.block _ lt).trans HO.out; replace hb := below_from hb h; clear h; obtain ⟨c0, c1, c2, c3, c4, c5, lt⟩ := box_cells HO.out)
      | (go_at_call 21; refine (H21.out _ (HG.out.below hb)).mono ?_; rintro e w5 ⟨rfl, h⟩; replace HO : Hid (w5.heap[w.heap.size]? = _) := (h.block _ lt).trans HO.out; replace hb := below_from hb h; clear h; obtain ⟨c0, c1, c2, c3, c4, c5, lt⟩ := box_cells HO.out)
      | (go_at_call 10; refine (H10.out _ (HG.out.below hb)).mono ?_; rintro e w6 ⟨rfl, h⟩; replace HO : Hid (w6.heap[w.heap.size]? = _) := (h.block _ lt).trans HO.out; replace hb := below_from hb h; clear h; obtain ⟨c0, c1, c2, c3, c4, c5, lt⟩ := box_cells HO.out; have hne : ¬ w.heap.size = w6.heap.size := by omega))
    go_ret
    exact ⟨rfl, below_al hb _⟩
end Go.Proofs.YthdecdhikjmggaaDoor
