/- How large what a line asks for can be. -/
import Derived.Test.YthdecdhikjmggaaDoorBack
namespace Go.Proofs.YthdecdhikjmggaaDoor
open Go.RowKit

theorem parse_ints {l : List UInt8} {o : Opx} (h : parseL l = some o) : IntsFit o := by
  have z : -9223372036854775808 ≤ (0 : Int) ∧ (0 : Int) ≤ 9223372036854775807 := by decide
  unfold parseL at h
  split at h
  · cases h
  split at h
  · cases h
  split at h
  · split at h
    · injection h with h; subst h; exact ⟨atoiNum_bounds _, atoiNum_bounds _, z⟩
    · cases h
  split at h
  · split at h
    · injection h with h; subst h; exact ⟨z, atoiNum_bounds _, atoiNum_bounds _⟩
    · cases h
  split at h
  · split at h
    · injection h with h; subst h; exact ⟨z, z, atoiNum_bounds _⟩
    · cases h
  split at h
  · split at h
    · injection h with h; subst h; exact ⟨z, z, z⟩
    · cases h
  injection h with h; subst h; exact ⟨z, z, z⟩

theorem only_kind {o : Opx} (h : onlyL o = true) : 1 ≤ o.kind ∧ o.kind ≤ 9 := by
  unfold onlyL at h
  rw [Bool.and_eq_true] at h
  have h2 := h.2
  refine ⟨?_, ?_⟩
  all_goals (refine Classical.byContradiction fun hn => ?_; rw [if_neg (by omega), if_neg (by omega), if_neg (by omega), if_neg (by omega), if_neg (by omega)] at h2; cases h2)

theorem hex_len (l : List UInt8) : l.length ≤ (hexL l).length := by
  unfold hexL
  split
  · rename_i h; subst h; simp
  · rw [twos_length]; omega

theorem only_long {o : Opx} (h : onlyL o = true) : o.path.length ≤ (textL o).length ∧ o.image.length ≤ (textL o).length := by
  obtain ⟨kind, path, off, n, id, image⟩ := o
  have hk := only_kind h
  simp only at hk ⊢
  unfold onlyL at h
  simp only [Bool.and_eq_true] at h
  have h := h.2
  unfold textL
  simp only
  rw [if_neg (by omega)]
  by_cases c1 : kind = 1 ∨ kind = 2 ∨ kind = 3 ∨ kind = 5
  · rw [if_pos c1] at h
    simp only [Bool.and_eq_true, beq_iff_eq] at h
    obtain ⟨_, _, _, rfl⟩ := h
    rw [if_neg (by omega), if_neg (by omega), if_neg (by omega), if_neg (by omega)]
    simp only [List.length_append, List.length_nil]
    omega
  rw [if_neg c1] at h
  by_cases c4 : kind = 4
  · rw [if_pos c4] at h
    simp only [Bool.and_eq_true, beq_iff_eq] at h
    obtain ⟨_, rfl⟩ := h
    rw [if_pos c4]
    simp only [List.length_append, List.length_nil]
    omega
  rw [if_neg c4] at h
  rw [if_neg c4]
  by_cases c6 : kind = 6
  · rw [if_pos c6] at h
    simp only [Bool.and_eq_true, beq_iff_eq] at h
    obtain ⟨rfl, _, rfl⟩ := h
    simp
  rw [if_neg c6] at h
  rw [if_neg c6]
  by_cases c7 : kind = 7 ∨ kind = 9
  · rw [if_pos c7] at h
    simp only [Bool.and_eq_true, beq_iff_eq] at h
    obtain ⟨rfl, _, _, rfl⟩ := h
    simp
  rw [if_neg c7] at h
  rw [if_neg c7]
  by_cases c8 : kind = 8
  · rw [if_pos c8] at h
    simp only [Bool.and_eq_true, beq_iff_eq] at h
    obtain ⟨rfl, _⟩ := h
    rw [if_pos c8]
    have := hex_len image
    simp only [List.length_append, List.length_nil]
    omega
  omega

theorem parse_fits {l : List UInt8} {o : Opx} {m : Nat} (h : parseL l = some o) (hl : l.length ≤ m) : OpFits o m := by
  obtain ⟨h1, h2⟩ := parse_text h
  have hk := only_kind h1
  have hi := parse_ints h
  have hs := only_long h1
  rw [h2] at hs
  exact ⟨by omega, hi.off, hi.n, hi.id, by omega, by omega⟩
end Go.Proofs.YthdecdhikjmggaaDoor
