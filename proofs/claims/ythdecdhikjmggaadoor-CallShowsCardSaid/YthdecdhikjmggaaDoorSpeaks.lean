/- The contract of speaks: the reference speaks. -/
import Derived.Test.YthdecdhikjmggaaDoorConst
set_option linter.unusedSimpArgs false
set_option linter.unusedVariables false
namespace Go.Proofs.YthdecdhikjmggaaDoor
open Go.RowKit

theorem parse_l1 (w : World) (G : Glob w) : Calls Tryd.prog 10 #[.string ⟨#[114, 101, 97, 100, 32, 48, 32, 57, 32, 47, 97, 32, 98]⟩] w fun e w' => e = .returned (.tuple #[.agg #[.int .i64 4, .string ⟨#[47, 97, 32, 98]⟩, .int .i64 0, .int .i64 9, .int .i64 0, .string ⟨#[]⟩], .bool true]) ∧ Below w.heap.size w w' := by
  have h := parse_any ⟨#[114, 101, 97, 100, 32, 48, 32, 57, 32, 47, 97, 32, 98]⟩ w (by decide) G
  rw [parse_c1] at h
  exact h
theorem parse_l2 (w : World) (G : Glob w) : Calls Tryd.prog 10 #[.string ⟨#[114, 101, 97, 100, 32, 48, 32, 47, 97, 32, 98]⟩] w fun e w' => e = .returned (.tuple #[.agg #[.int .i64 0, .string ⟨#[]⟩, .int .i64 0, .int .i64 0, .int .i64 0, .string ⟨#[]⟩], .bool false]) ∧ Below w.heap.size w w' := by
  have h := parse_any ⟨#[114, 101, 97, 100, 32, 48, 32, 47, 97, 32, 98]⟩ w (by decide) G
  rw [parse_c2] at h
  exact h
theorem text_l (w : World) (G : Glob w) : Calls Tryd.prog 20 #[.agg #[.int .i64 4, .string ⟨#[47, 97, 32, 98]⟩, .int .i64 0, .int .i64 9, .int .i64 0, .string ⟨#[]⟩]] w fun e w' => e = .returned (.string ⟨#[114, 101, 97, 100, 32, 48, 32, 57, 32, 47, 97, 32, 98]⟩) ∧ Below w.heap.size w w' := by
  have h := text_any ⟨4, [47, 97, 32, 98], 0, 9, 0, []⟩ w G ⟨by decide, by decide, by decide, by decide, by decide, by decide⟩
  rw [text_c] at h
  exact h
theorem show_l (w : World) (G : Glob w) (b c : Nat) (h : w.cell? ⟨b, 0, none⟩ = some (.string ⟨#[97]⟩)) : Calls Tryd.prog 18 #[.int .i64 6, .agg #[.int .i64 0, .int .i64 0, .int .i64 0, .int .i64 0, .int .i64 0, .string ⟨#[]⟩, .slice (some ⟨b, 0, none⟩) 1 c, .bool true]] w fun e w' => e = .returned (.string ⟨#[111, 107, 32, 101, 110, 100, 32, 54, 49]⟩) ∧ Below w.heap.size w w' := by
  have h := show_any 6 ⟨0, 0, 0, 0, 0, [], [⟨#[97]⟩], true⟩ (some ⟨b, 0, none⟩) c w G ⟨by decide, by decide, by decide, by decide, by decide, by decide, by decide, by decide⟩ (fun k hk => ⟨_, rfl, by
    obtain rfl : k = 0 := by simp at hk; exact hk
    exact h⟩)
  unfold ShowEnds at h
  rw [show_c] at h
  exact h

set_option maxHeartbeats 2000000 in
set_option maxRecDepth 100000 in
theorem speaks_any (w : World) (G : Glob w) : Calls Tryd.prog 9 #[] w fun e w' => e = .returned (.bool true) ∧ Below w.heap.size w w' := by
  have HG : Hid (Glob w) := G
  clear G
  go_enter Tryd.func9, Tryd.ntmps9
  go_wp2_with fail
  go_at_call 10
  refine (parse_l1 _ HG.out).mono ?_
  rintro e w1 ⟨rfl, hb1⟩
  have O1 : OpAt (w1.alloc (.cells #[.int .i64 4, .string ⟨#[47, 97, 32, 98]⟩, .int .i64 0, .int .i64 9, .int .i64 0, .string ⟨#[]⟩] 24)) w1.heap.size 4 [47, 97, 32, 98] 0 9 0 [] := ⟨heap_alloc_new _ _⟩
  have hbA : Below w.heap.size w (w1.alloc (.cells #[.int .i64 4, .string ⟨#[47, 97, 32, 98]⟩, .int .i64 0, .int .i64 9, .int .i64 0, .string ⟨#[]⟩] 24)) := below_al hb1 _
  have HGA := HG.out.below hbA
  go_wp2_with fail
  generalize w1.alloc (.cells #[.int .i64 4, .string ⟨#[47, 97, 32, 98]⟩, .int .i64 0, .int .i64 9, .int .i64 0, .string ⟨#[]⟩] 24) = W at O1 hbA HGA ⊢
  go_at_call 10
  refine (parse_l2 _ HGA).mono ?_
  rintro e w2 ⟨rfl, hb2⟩
  have O2 := O1.below hb2 O1.lt
  have hbB := below_from hbA hb2
  have HGB := HG.out.below hbB
  clear O1 hbA HGA hb2
  have lt := O2.lt
  have c0 := O2.c0
  have c1 := O2.c1
  have c2 := O2.c2
  have c3 := O2.c3
  have c4 := O2.c4
  have c5 := O2.c5
  clear O2
  go_wp2_with fail
  go_at_call 20
  refine (text_l _ (HGB.alloc _)).mono ?_
  rintro e w3 ⟨rfl, hb3⟩
  have hbC := below_from (below_al hbB _) hb3
  have HGC := HG.out.below hbC
  have hlt3 : w1.heap.size < w3.heap.size := Nat.lt_of_lt_of_le lt (Nat.le_trans (by simp) hb3.size)
  clear hb3 c0 c1 c2 c3 c4 c5
  go_wp2_with fail
  go_at_call 18
  refine (show_l _ (HGC.alloc _) _ _ (by rw [Lib.cell_of_heap (heap_alloc_new _ _)]; rfl)).mono ?_
  rintro e w4 ⟨rfl, hb4⟩
  go_wp2_with fail
  go_ret
  exact ⟨rfl, below_from (below_al hbC _) hb4⟩
end Go.Proofs.YthdecdhikjmggaaDoor
