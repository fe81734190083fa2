/- The contract of call.Right. -/
import Derived.Test.YthdecdhikjmggaaDoorText
import Derived.Laws.StructEq
set_option linter.unusedSimpArgs false
set_option linter.unusedVariables false
namespace Go.Proofs.YthdecdhikjmggaaDoor
open Go.RowKit
section
variable {P : Program} {d : Nat} {xs ys : Array Value} {f : Field} {fs : List Field} {a b : Value} {r s : Bool} {w : World}
theorem eqf_last (hn : (f.name == "_") = false) (ha : (part f.type xs f.offset).run P w = .ok a w) (hb : (part f.type ys f.offset).run P w = .ok b w) (he : (Op.equalIn d f.type a b).run P w = .ok r w) : (Op.eqFields d xs ys [f]).run P w = .ok r w := by
  have hn' : f.name ≠ "_" := by simpa using hn
  simp only [Op.eqFields, if_pos hn', Sem.run_bind, ha, hb, he, Result.andThen_ok]
  cases r <;> simp
theorem eqf_cons (hn : (f.name == "_") = false) (ha : (part f.type xs f.offset).run P w = .ok a w) (hb : (part f.type ys f.offset).run P w = .ok b w) (he : (Op.equalIn d f.type a b).run P w = .ok r w) (hr : (Op.eqFields d xs ys fs).run P w = .ok s w) : (Op.eqFields d xs ys (f :: fs)).run P w = .ok (r && s) w := by
  have hn' : f.name ≠ "_" := by simpa using hn
  rw [Op.eqFields]
  simp only [if_pos hn', Sem.run_bind, ha, hb, he, Result.andThen_ok]
  cases r
  · simp
  · simpa using hr
theorem eqA_of {t : TypeId} {fs : Array Field} (hu : P.underlying t = some (.struct fs)) (hp : P.stoodInHeld t = false) (h : (Op.eqFields d xs ys fs.toList).run P w = .ok r w) : (Op.equalIn (d + 1) t (.agg xs) (.agg ys)).run P w = .ok r w := by
  have hf : P.fieldsOf t = fs := by simp [Program.fieldsOf, hu]
  rw [run_equalIn_struct (P := P) w d t xs ys (by rw [hf]; exact hu) hp, hf]
  exact h
end
theorem eqOp (d : Nat) (w : World) (k0 k1 o0 o1 n0 n1 i0 i1 : Int) (p0 p1 g0 g1 : ByteArray) :
    (Op.equalIn (d + 2) 24 (.agg #[.int .i64 k0, .string p0, .int .i64 o0, .int .i64 n0, .int .i64 i0, .string g0]) (.agg #[.int .i64 k1, .string p1, .int .i64 o1, .int .i64 n1, .int .i64 i1, .string g1])).run Tryd.prog w
      = .ok (k0 == k1 && (p0.toList == p1.toList && (o0 == o1 && (n0 == n1 && (i0 == i1 && g0.toList == g1.toList))))) w := by
  refine eqA_of Tryd.underlying24 (by kernel_rfl) ?_
  refine eqf_cons (by rfl) (by go_simp; rfl) (by go_simp; rfl) (by go_simp) ?_
  refine eqf_cons (by rfl) (by go_simp; rfl) (by go_simp; rfl) (by go_simp) ?_
  refine eqf_cons (by rfl) (by go_simp; rfl) (by go_simp; rfl) (by go_simp) ?_
  refine eqf_cons (by rfl) (by go_simp; rfl) (by go_simp; rfl) (by go_simp) ?_
  refine eqf_cons (by rfl) (by go_simp; rfl) (by go_simp; rfl) (by go_simp) ?_
  exact eqf_last (by rfl) (by go_simp; rfl) (by go_simp; rfl) (by go_simp)

theorem ret_bool {a b : Bool} (h : a = b) : Ending.returned (.bool a) = Ending.returned (.bool b) := by rw [h]
theorem opEq (k0 k1 o0 o1 n0 n1 i0 i1 : Int) (p0 p1 g0 g1 : List UInt8) :
    (k0 == k1 && (p0 == p1 && (o0 == o1 && (n0 == n1 && (i0 == i1 && g0 == g1))))) = decide ((⟨k0, p0, o0, n0, i0, g0⟩ : Opx) = ⟨k1, p1, o1, n1, i1, g1⟩) := by
  rw [Bool.eq_iff_iff]
  simp only [Bool.and_eq_true, beq_iff_eq, decide_eq_true_iff, Opx.mk.injEq]

theorem textL_length {o : Opx} (h : OpFits o 1000000) : (textL o).length ≤ 4000000 := by
  have a1 := itoa_length h.off.1 h.off.2
  have a2 := itoa_length h.n.1 h.n.2
  have a3 := itoa_length h.id.1 h.id.2
  have a4 := hexL_length o.image
  have a5 := h.path
  have a6 := h.image
  have b := nm_length o.kind.toNat
  have b4 := nm_length 4
  have b6 := nm_length 6
  have b8 := nm_length 8
  unfold textL
  repeat' split
  all_goals simp only [List.length_append, List.length_singleton, List.length_nil]; omega

attribute [local go_sem high] eqOp
set_option maxHeartbeats 2000000 in
set_option maxRecDepth 100000 in
theorem right_full (kind off n id : Int) (path image : List UInt8) (w : World) (G : Glob w) (h0 : ¬ kind < 1) (h9 : ¬ 9 < kind) (hnl : decide (0 ≤ Lib.indexByte path 10) = false) (hf : OpFits ⟨kind, path, off, n, id, image⟩ 1000000) :
    Calls Tryd.prog 21 #[opV ⟨kind, path, off, n, id, image⟩] w fun e w' => e = .returned (.bool (decide ((parseL (textL ⟨kind, path, off, n, id, image⟩)).getD Opx.zero = ⟨kind, path, off, n, id, image⟩))) ∧ Below w.heap.size w w' := by
  have HF : Hid (OpFits ⟨kind, path, off, n, id, image⟩ 4000000000) := ⟨hf.kind, hf.off, hf.n, hf.id, Nat.le_trans hf.path (by decide), Nat.le_trans hf.image (by decide)⟩
  have HF1 : Hid (OpFits ⟨kind, path, off, n, id, image⟩ 1000000) := hf
  have HG : Hid (Glob w) := G
  clear G hf
  show Calls Tryd.prog 21 #[.agg #[.int .i64 kind, .string ⟨path.toArray⟩, .int .i64 off, .int .i64 n, .int .i64 id, .string ⟨image.toArray⟩]] w _
  go_enter Tryd.func21, Tryd.ntmps21
  obtain ⟨T, hT⟩ : ∃ T, textL ⟨kind, path, off, n, id, image⟩ = T := ⟨_, rfl⟩
  obtain ⟨px, hpx⟩ : ∃ px, parseL T = px := ⟨_, rfl⟩
  have HT : Hid (textL ⟨kind, path, off, n, id, image⟩ = T) := hT
  have HP : Hid (parseL T = px) := hpx
  clear hT hpx
  rw [HT.out, HP.out]
  obtain ⟨⟨k1, p1, o1, n1, i1, g1⟩, hq⟩ : ∃ q, px.getD Opx.zero = q := ⟨_, rfl⟩
  rw [hq]
  have HQ : Hid (px.getD Opx.zero = ⟨k1, p1, o1, n1, i1, g1⟩) := hq
  clear hq
  have hTl : (⟨T.toArray⟩ : ByteArray).size ≤ 4000000000 := by
    have := textL_length HF1.out
    rw [HT.out] at this
    have e : (⟨T.toArray⟩ : ByteArray).size = T.length := by simp [ByteArray.size]
    omega
  have HTL : Hid ((⟨T.toArray⟩ : ByteArray).size ≤ 4000000000) := hTl
  clear hTl
  have O0 : OpAt (w.alloc (.cells #[.int .i64 kind, .string ⟨path.toArray⟩, .int .i64 off, .int .i64 n, .int .i64 id, .string ⟨image.toArray⟩] 24)) w.heap.size kind path off n id image := ⟨heap_alloc_new _ _⟩
  have HO : Hid (OpAt (w.alloc (.cells #[.int .i64 kind, .string ⟨path.toArray⟩, .int .i64 off, .int .i64 n, .int .i64 id, .string ⟨image.toArray⟩] 24)) w.heap.size kind path off n id image) := O0
  clear O0
  go_wp2_with (first
    | (go_at_call 33; refine (Tryd.strings_Contains_one _ _ _).mono ?_; rintro e w1 ⟨rfl, rfl⟩)
    | (go_at_call 20; refine (text_any ⟨kind, path, off, n, id, image⟩ _ (HG.out.alloc _) HF.out).mono ?_; rw [HT.out]; rintro e w1 ⟨rfl, hb1⟩)
    | (go_at_call 10; refine (parse_any ⟨T.toArray⟩ _ HTL.out ((HG.out.alloc _).below hb1)).mono ?_; rw [show (⟨T.toArray⟩ : ByteArray).data.toList = T from rfl, HP.out]; unfold parseV; rw [HQ.out]; unfold opV opC; rintro e w2 ⟨rfl, hb2⟩; have O2 := HO.out.below (below_from hb1 hb2) HO.out.lt; have c0 := O2.c0; have c1 := O2.c1; have c2 := O2.c2; have c3 := O2.c3; have c4 := O2.c4; have c5 := O2.c5; have hlt := O2.lt; have hne : ¬ w.heap.size = w2.heap.size := by omega))
  go_ret
  refine ⟨ret_bool (opEq _ _ _ _ _ _ _ _ _ _ _ _), ?_⟩
  have hb3 : Below w.heap.size w w2 := below_from (below_al (Below.refl _ _) _) (below_from hb1 hb2)
  have hB : w.heap.size ≤ w2.heap.size := hb3.size
  repeat (first | with_reducible exact hb3 | with_reducible refine Below.drew ?_ | with_reducible refine below_set ?_ _ _ _ hB | with_reducible refine below_al ?_ _)

theorem right_bad (kind off n id : Int) (path image : List UInt8) (w : World) (h : kind < 1 ∨ 9 < kind ∨ decide (0 ≤ Lib.indexByte path 10) = true) :
    Calls Tryd.prog 21 #[opV ⟨kind, path, off, n, id, image⟩] w fun e w' => e = .returned (.bool false) ∧ Below w.heap.size w w' := by
  show Calls Tryd.prog 21 #[.agg #[.int .i64 kind, .string ⟨path.toArray⟩, .int .i64 off, .int .i64 n, .int .i64 id, .string ⟨image.toArray⟩]] w _
  by_cases h1 : kind < 1
  · clear h
    go_enter Tryd.func21, Tryd.ntmps21
    go_wp2_with (go_at_call 33; refine (Tryd.strings_Contains_one _ _ _).mono ?_; rintro e w1 ⟨rfl, rfl⟩)
    go_ret
    exact ⟨rfl, below_al (Below.refl _ _) _⟩
  by_cases h2 : 9 < kind
  · clear h
    go_enter Tryd.func21, Tryd.ntmps21
    go_wp2_with (go_at_call 33; refine (Tryd.strings_Contains_one _ _ _).mono ?_; rintro e w1 ⟨rfl, rfl⟩)
    go_ret
    exact ⟨rfl, below_al (Below.refl _ _) _⟩
  have h3 : decide (0 ≤ Lib.indexByte path 10) = true := by
    rcases h with h | h | h
    · exact absurd h h1
    · exact absurd h h2
    · exact h
  clear h
  go_enter Tryd.func21, Tryd.ntmps21
  go_wp2_with (go_at_call 33; refine (Tryd.strings_Contains_one _ _ _).mono ?_; rintro e w1 ⟨rfl, rfl⟩)
  go_ret
  exact ⟨rfl, below_al (Below.refl _ _) _⟩

/-- Can a call be told in a line? -/
def rightL (o : Opx) : Bool := decide (1 ≤ o.kind ∧ o.kind ≤ 9 ∧ ¬ 0 ≤ Lib.indexByte o.path 10 ∧ (parseL (textL o)).getD Opx.zero = o)

theorem right_any (o : Opx) (w : World) (G : Glob w) (hf : OpFits o 1000000) :
    Calls Tryd.prog 21 #[opV o] w fun e w' => e = .returned (.bool (rightL o)) ∧ Below w.heap.size w w' := by
  obtain ⟨kind, path, off, n, id, image⟩ := o
  unfold rightL
  simp only
  by_cases hb : kind < 1 ∨ 9 < kind ∨ decide (0 ≤ Lib.indexByte path 10) = true
  · refine (right_bad kind off n id path image w hb).mono ?_
    rintro e w' ⟨rfl, hw⟩
    refine ⟨ret_bool ?_, hw⟩
    symm
    rw [decide_eq_false_iff_not]
    rintro ⟨a1, a2, a3, _⟩
    rcases hb with h | h | h
    · omega
    · omega
    · exact a3 (by simpa using h)
  · have h1 : ¬ kind < 1 := fun h => hb (.inl h)
    have h2 : ¬ 9 < kind := fun h => hb (.inr (.inl h))
    have h3 : decide (0 ≤ Lib.indexByte path 10) = false := by
      cases h : decide (0 ≤ Lib.indexByte path 10) with
      | false => rfl
      | true => exact absurd (.inr (.inr h)) hb
    refine (right_full kind off n id path image w G h1 h2 h3 hf).mono ?_
    rintro e w' ⟨rfl, hw⟩
    refine ⟨ret_bool ?_, hw⟩
    rw [decide_eq_decide]
    have h3' : ¬ 0 ≤ Lib.indexByte path 10 := by simpa using h3
    exact ⟨fun h => ⟨by omega, by omega, h3', h⟩, fun h => h.2.2.2⟩
end Go.Proofs.YthdecdhikjmggaaDoor
