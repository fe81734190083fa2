/- The law CallParses answers true. -/
import Derived.Test.YthdecdhikjmggaaDoorFits
import Derived.Test.YthdecdhikjmggaaDoorSpeaks
import Derived.Test.YthdecdhikjmggaaDoorRefText
set_option linter.unusedSimpArgs false
set_option linter.unusedVariables false
namespace Go.Proofs.YthdecdhikjmggaaDoor
open Go.RowKit

set_option maxHeartbeats 2000000 in
theorem parses_long (s : ByteArray) (w : World) (G : Glob w) (hs : 2000 < s.size) :
    Calls Tryd.prog 3 #[.string s] w fun e w' => e = .returned (.bool true) ∧ Below w.heap.size w w' := by
  have HG : Hid (Glob w) := G
  clear G
  go_enter Tryd.func3, Tryd.ntmps3
  go_wp2_with (go_at_call 9; refine (speaks_any _ HG.out).mono ?_; rintro e w1 ⟨rfl, hb⟩)
  go_ret
  exact ⟨rfl, hb⟩

set_option maxHeartbeats 2000000 in
set_option maxRecDepth 100000 in
theorem parses_none (s : ByteArray) (w : World) (G : Glob w) (hs : ¬ 2000 < s.size) (hp : parseL s.data.toList = none) :
    Calls Tryd.prog 3 #[.string s] w fun e w' => e = .returned (.bool true) ∧ Below w.heap.size w w' := by
  have HG : Hid (Glob w) := G
  clear G
  have HP : Hid (∀ w : World, Glob w → Calls Tryd.prog 10 #[.string s] w fun e w' => e = .returned (.tuple #[.agg #[.int .i64 0, .string ⟨#[]⟩, .int .i64 0, .int .i64 0, .int .i64 0, .string ⟨#[]⟩], .bool false]) ∧ Below w.heap.size w w') := fun w G => by
    have h := parse_any s w (by omega) G
    rw [hp] at h
    exact h
  clear hp
  go_enter Tryd.func3, Tryd.ntmps3
  go_wp2_with (first
    | (go_at_call 9; refine (speaks_any _ HG.out).mono ?_; rintro e w1 ⟨rfl, hb⟩)
    | (go_at_call 10; refine (HP.out _ (HG.out.below hb)).mono ?_; rintro e w2 ⟨rfl, h2⟩; replace hb := below_from hb h2; clear h2))
  go_ret
  exact ⟨rfl, below_al hb _⟩

set_option maxHeartbeats 2000000 in
set_option maxRecDepth 100000 in
theorem parses_some (s : ByteArray) (w : World) (G : Glob w) (hs : ¬ 2000 < s.size) (kind off n id : Int) (path image : List UInt8) (hp : parseL s.data.toList = some ⟨kind, path, off, n, id, image⟩) :
    Calls Tryd.prog 3 #[.string s] w fun e w' => e = .returned (.bool true) ∧ Below w.heap.size w w' := by
  have HG : Hid (Glob w) := G
  clear G
  obtain ⟨ho, ht⟩ := parse_text hp
  have hl := parse_fits (m := 2000) hp (by rw [size_data]; omega)
  obtain ⟨P, hP⟩ : ∃ P : ByteArray, P = ⟨path.toArray⟩ := ⟨_, rfl⟩
  obtain ⟨I, hI⟩ : ∃ I : ByteArray, I = ⟨image.toArray⟩ := ⟨_, rfl⟩
  have HP : Hid (∀ w : World, Glob w → Calls Tryd.prog 10 #[.string s] w fun e w' => e = .returned (.tuple #[.agg #[.int .i64 kind, .string P, .int .i64 off, .int .i64 n, .int .i64 id, .string I], .bool true]) ∧ Below w.heap.size w w') := fun w G => by
    have h := parse_any s w (by omega) G
    rw [hp] at h
    rw [hP, hI]
    exact h
  have HO : Hid (∀ w : World, Calls Tryd.prog 11 #[.agg #[.int .i64 kind, .string P, .int .i64 off, .int .i64 n, .int .i64 id, .string I]] w fun e w' => e = .returned (.bool true) ∧ Below w.heap.size w w') := fun w => by
    have h := only_walk kind off n id path image w (Nat.le_trans hl.path (by decide))
    unfold OnlyEnds at h
    rw [ho] at h
    rw [hP, hI]
    exact h
  have HT : Hid (∀ w : World, Calls Tryd.prog 12 #[.agg #[.int .i64 kind, .string P, .int .i64 off, .int .i64 n, .int .i64 id, .string I]] w fun e w' => e = .returned (.string s) ∧ Below w.heap.size w w') := fun w => by
    have h := reftext_any ⟨kind, path, off, n, id, image⟩ w ⟨hl.kind, hl.off, hl.n, hl.id, Nat.le_trans hl.path (by decide), Nat.le_trans hl.image (by decide)⟩
    rw [ht, mk_data] at h
    rw [hP, hI]
    exact h
  clear hp ho ht hl hP hI
  go_enter Tryd.func3, Tryd.ntmps3
  go_wp2_with (first
    | (go_at_call 9; refine (speaks_any _ HG.out).mono ?_; rintro e w1 ⟨rfl, hb⟩)
    | (go_at_call 10; refine (HP.out _ (HG.out.below hb)).mono ?_; rintro e w2 ⟨rfl, h2⟩; replace hb := below_from hb h2; clear h2)
    | (go_at_call 11; refine (HO.out _).mono ?_; rintro e w3 ⟨rfl, h3⟩; have k0 := h3.cell (p := ⟨w2.heap.size, 0, none⟩) (by simp); have k1 := h3.cell (p := ⟨w2.heap.size, 1, none⟩) (by simp); have k2 := h3.cell (p := ⟨w2.heap.size, 2, none⟩) (by simp); have k3 := h3.cell (p := ⟨w2.heap.size, 3, none⟩) (by simp); have k4 := h3.cell (p := ⟨w2.heap.size, 4, none⟩) (by simp); have k5 := h3.cell (p := ⟨w2.heap.size, 5, none⟩) (by simp); rw [Lib.cell_of_heap (heap_alloc_new _ _)] at k0 k1 k2 k3 k4 k5; replace hb := below_from (below_al hb _) h3; clear h3)
    | (go_at_call 12; refine (HT.out _).mono ?_; rintro e w4 ⟨rfl, h4⟩; replace hb := below_from hb h4; clear h4))
  go_ret
  exact ⟨rfl, hb⟩
end Go.Proofs.YthdecdhikjmggaaDoor
