/- The contracts of the reference's numbers, digits and bytes in words. -/
import Derived.Test.YthdecdhikjmggaaDoorText
set_option linter.unusedSimpArgs false
set_option linter.unusedVariables false
namespace Go.Proofs.YthdecdhikjmggaaDoor
open Go.RowKit

theorem lit_text (W : World) (c : Int) : (convert 68 9 (.slice (some ⟨W.heap.size, 0, none⟩) 1 1)).run Tryd.prog (W.alloc (.cells #[.int .u8 c] 5)) = .ok (.string ⟨#[UInt8.ofNat c.toNat]⟩) (W.alloc (.cells #[.int .u8 c] 5)) := by
  have h := run_convert_bytes_arg (P := Tryd.prog) (W.alloc (.cells #[.int .u8 c] 5)) 68 5 Tryd.underlying68 Tryd.underlying5 W.heap.size 0 1 1 [c] rfl (fun i hi => by
    obtain rfl : i = 0 := by omega
    rw [Lib.cell_of_heap (heap_alloc_new _ _)]; rfl) 9 Tryd.underlying9
  exact h

theorem ret_u8 {a b : Int} (h : a = b) : Ending.returned (.int .u8 a) = Ending.returned (.int .u8 b) := by rw [h]
theorem decDigits_big {u : Nat} (h : ¬ u < 10) : Lib.decDigits u = Lib.decDigits (u / 10) ++ [UInt8.ofNat (48 + u % 10)] := by
  rw [Lib.decDigits, dif_neg h]
theorem itoa_small {n : Int} (h0 : 0 ≤ n) (h1 : n < 10) : Lib.itoa n = [UInt8.ofNat (48 + n % 10).toNat] := by
  unfold Lib.itoa
  rw [if_neg (by omega), Lib.decDigits_one (by omega), show (48 + n % 10).toNat = 48 + n.toNat by omega]
theorem itoa_big {n : Int} (h : 10 ≤ n) : Lib.itoa n = Lib.itoa (n / 10) ++ [UInt8.ofNat (48 + n % 10).toNat] := by
  unfold Lib.itoa
  rw [if_neg (by omega), if_neg (by omega), decDigits_big (by omega), show (n / 10).toNat = n.toNat / 10 by omega, show (48 + n % 10).toNat = 48 + n.toNat % 10 by omega]
theorem tdiv_neg' (m : Nat) : (-(m : Int)).tdiv 10 = -((m / 10 : Nat) : Int) := by
  rw [Int.neg_tdiv]; rfl
theorem tmod_neg' (m : Nat) : (-(m : Int)).tmod 10 = -((m % 10 : Nat) : Int) := by
  rw [Int.neg_tmod]; rfl
theorem itoa_neg_small {n : Int} (h0 : n < 0) (h1 : -10 < n) : Lib.itoa n = 45 :: [UInt8.ofNat (48 - n.tmod 10).toNat] := by
  obtain ⟨m, rfl⟩ : ∃ m : Nat, n = -(m : Int) := ⟨n.natAbs, by omega⟩
  unfold Lib.itoa
  rw [if_pos (by omega), Lib.decDigits_one (by omega), tmod_neg', show (48 - -((m % 10 : Nat) : Int)).toNat = 48 + (-(m : Int)).natAbs by omega]
theorem itoa_neg {n : Int} (h : n ≤ -10) : Lib.itoa n = Lib.itoa (n.tdiv 10) ++ [UInt8.ofNat (48 - n.tmod 10).toNat] := by
  obtain ⟨m, rfl⟩ : ∃ m : Nat, n = -(m : Int) := ⟨n.natAbs, by omega⟩
  unfold Lib.itoa
  rw [tdiv_neg', tmod_neg', if_pos (by omega), if_pos (by omega), decDigits_big (by omega), show (48 - -((m % 10 : Nat) : Int)).toNat = 48 + (-(m : Int)).natAbs % 10 by omega, show (-((m / 10 : Nat) : Int)).natAbs = (-(m : Int)).natAbs / 10 by omega]
  rfl

def NumEnds (n : Int) (w : World) (e : Ending) (w' : World) : Prop := e = .returned (.string ⟨(Lib.itoa n).toArray⟩) ∧ Below w.heap.size w w'

theorem num_pos (n : Int) (w : World) (h0 : 0 ≤ n) (h1 : n < 10) : Calls Tryd.prog 16 #[.int .i64 n] w (NumEnds n w) := by
  have hl := lit_text
  go_enter Tryd.func16, Tryd.ntmps16
  go_wp2_with fail
  go_ret
  refine ⟨ret_str ?_, below_al (Below.refl _ _) _⟩
  rw [itoa_small h0 h1]

theorem tmod_bounds {n : Int} (h : n < 0) : -9 ≤ n.tmod 10 ∧ n.tmod 10 ≤ 0 := by
  obtain ⟨m, rfl⟩ : ∃ m : Nat, n = -(m : Int) := ⟨n.natAbs, by omega⟩
  rw [tmod_neg']; omega
theorem tdiv_bounds {n : Int} (h : n ≤ -10) : (n.tdiv 10).natAbs < n.natAbs ∧ n ≤ n.tdiv 10 ∧ n.tdiv 10 < 0 := by
  obtain ⟨m, rfl⟩ : ∃ m : Nat, n = -(m : Int) := ⟨n.natAbs, by omega⟩
  rw [tdiv_neg']; omega

theorem num_any (m : Nat) : ∀ (n : Int) (w : World), n.natAbs ≤ m → -9223372036854775808 ≤ n → n ≤ 9223372036854775807 → Calls Tryd.prog 16 #[.int .i64 n] w (NumEnds n w) := by
  induction m with
  | zero => intro n w h _ _; exact num_pos n w (by omega) (by omega)
  | succ m ih =>
    intro n w h hlo hhi
    have hl := lit_text
    by_cases hp : 0 ≤ n
    · by_cases h10 : n < 10
      · exact num_pos n w hp h10
      · have hz : ¬ 9223372036854775807 < (Lib.itoa (n / 10)).length + 1 := by
          have := itoa_length (n := n / 10) (by omega) (by omega)
          omega
        go_enter Tryd.func16, Tryd.ntmps16
        go_wp2_with (go_at_call 16; refine (ih (n / 10) _ (by omega) (by omega) (by omega)).mono ?_; rintro e w1 ⟨rfl, hb1⟩)
        go_ret
        refine ⟨ret_str ?_, below_from (below_al (Below.refl _ _) _) hb1⟩
        rw [itoa_big (n := n) (by omega)]
        exact cat _ [_]
    · have hm := tmod_bounds (n := n) (by omega)
      by_cases h10 : -10 < n
      · go_enter Tryd.func16, Tryd.ntmps16
        go_wp2_with fail
        go_ret
        refine ⟨ret_str ?_, below_al (Below.refl _ _) _⟩
        rw [itoa_neg_small (n := n) (by omega) h10]
        exact cat [45] [_]
      · have hd := tdiv_bounds (n := n) (by omega)
        have hz : ¬ 9223372036854775807 < (Lib.itoa (n.tdiv 10)).length + 1 := by
          have := itoa_length (n := n.tdiv 10) (by omega) (by omega)
          omega
        go_enter Tryd.func16, Tryd.ntmps16
        go_wp2_with (go_at_call 16; refine (ih (n.tdiv 10) _ (by omega) (by omega) (by omega)).mono ?_; rintro e w1 ⟨rfl, hb1⟩)
        go_ret
        refine ⟨ret_str ?_, below_from (below_al (Below.refl _ _) _) hb1⟩
        rw [itoa_neg (n := n) (by omega)]
        exact cat _ [_]

theorem num_in (n : Int) (w : World) (h0 : -9223372036854775808 ≤ n) (h1 : n ≤ 9223372036854775807) :
    Calls Tryd.prog 16 #[.int .i64 n] w fun e w' => e = .returned (.string ⟨(Lib.itoa n).toArray⟩) ∧ Below w.heap.size w w' := num_any n.natAbs n w (Nat.le_refl _) h0 h1

theorem digit_any (n : Nat) (w : World) (h : n < 16) :
    Calls Tryd.prog 42 #[.int .i64 n] w fun e w' => e = .returned (.int .u8 (dig n).toNat) ∧ w' = w := by
  have e : (dig n).toNat = if n < 10 then 48 + n else 87 + n := by unfold dig; rw [UInt8.toNat_ofNat']; split <;> omega
  rw [e]
  by_cases h1 : n < 10
  · rw [if_pos h1]
    clear e
    go_enter Tryd.func42, Tryd.ntmps42
    go_wp2_with fail
    go_ret
    exact ⟨ret_u8 (by omega), rfl⟩
  · rw [if_neg h1]
    clear e
    go_enter Tryd.func42, Tryd.ntmps42
    go_wp2_with fail
    go_ret
    exact ⟨ret_u8 (by omega), rfl⟩

theorem name_any (k : Nat) (w : World) (h : 1 ≤ k) (h9 : k ≤ 9) :
    Calls Tryd.prog 36 #[.int .i64 k] w fun e w' => e = .returned (.string ⟨(nm k).toArray⟩) ∧ w' = w := by
  obtain rfl | rfl | rfl | rfl | rfl | rfl | rfl | rfl | rfl : k = 1 ∨ k = 2 ∨ k = 3 ∨ k = 4 ∨ k = 5 ∨ k = 6 ∨ k = 7 ∨ k = 8 ∨ k = 9 := by omega
  all_goals
    go_enter Tryd.func36, Tryd.ntmps36
    go_wp2_with fail
    go_ret
    exact ⟨rfl, rfl⟩
end Go.Proofs.YthdecdhikjmggaaDoor
