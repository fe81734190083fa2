/- What is told is read as it, and back: no program here. -/
import Derived.Test.YthdecdhikjmggaaDoorText
import Derived.Test.YthdecdhikjmggaaDoorOnly
import Derived.Lib.IndexLaws
namespace Go.Proofs.YthdecdhikjmggaaDoor
open Go.RowKit

/- Bytes in words. -/
theorem ix_dig_fin : ∀ k : Fin 16, ix (dig k.val) = (k.val : Int) := by decide +kernel
theorem ix_dig {k : Nat} (h : k < 16) : ix (dig k) = (k : Int) := ix_dig_fin ⟨k, h⟩
theorem dig_ix_fin : ∀ c : Fin 256, 0 ≤ ix (UInt8.ofNat c.val) → dig (ix (UInt8.ofNat c.val)).toNat = UInt8.ofNat c.val := by decide +kernel
theorem dig_ix {c : UInt8} (h : 0 ≤ ix c) : dig (ix c).toNat = c := by
  have e : UInt8.ofNat (⟨c.toNat, c.toNat_lt⟩ : Fin 256).val = c := UInt8.ofNat_toNat
  have := dig_ix_fin ⟨c.toNat, c.toNat_lt⟩
  rw [e] at this
  exact this h
theorem val_two (c : UInt8) : valOf (dig (c.toNat / 16)) (dig (c.toNat % 16)) = c := by
  have h := c.toNat_lt
  unfold valOf
  rw [ix_dig (by omega), ix_dig (by omega), Int.toNat_natCast, Int.toNat_natCast, Nat.mul_comm, Nat.div_add_mod]
  exact UInt8.ofNat_toNat
theorem two_val {a b : UInt8} (ha : 0 ≤ ix a) (hb : 0 ≤ ix b) : two (valOf a b) = [a, b] := by
  have h1 := (ix_bounds a).2
  have h2 := (ix_bounds b).2
  have e : (valOf a b).toNat = (ix a).toNat * 16 + (ix b).toNat := by
    unfold valOf
    rw [UInt8.toNat_ofNat']
    omega
  unfold two
  rw [e, show ((ix a).toNat * 16 + (ix b).toNat) / 16 = (ix a).toNat by omega, show ((ix a).toNat * 16 + (ix b).toNat) % 16 = (ix b).toNat by omega, dig_ix ha, dig_ix hb]
theorem unhex_two : ∀ l : List UInt8, unhex (l.flatMap two) = some l
  | [] => rfl
  | c :: l => by
    have h := c.toNat_lt
    rw [List.flatMap_cons]
    show unhex (dig (c.toNat / 16) :: dig (c.toNat % 16) :: l.flatMap two) = _
    rw [unhex, unhex_two l, ix_dig (by omega), ix_dig (by omega), if_neg (by omega), val_two]
    rfl
theorem twos_length : ∀ l : List UInt8, (l.flatMap two).length = 2 * l.length
  | [] => rfl
  | c :: l => by rw [List.flatMap_cons, List.length_append, twos_length l, List.length_cons]; show 2 + _ = _; omega
theorem bytes_hex (l : List UInt8) : bytesL (hexL l) = (l, true) := by
  unfold hexL
  split
  · rename_i h; subst h; rfl
  · rename_i h
    have hn : l.flatMap two ≠ [45] := fun e => by have := twos_length l; rw [e] at this; simp at this; omega
    have hz : l.flatMap two ≠ [] := fun e => by
      have := twos_length l
      rw [e, List.length_nil] at this
      exact h (List.eq_nil_of_length_eq_zero (by omega))
    have he : (l.flatMap two).length % 2 = 0 := by rw [twos_length]; omega
    unfold bytesL
    rw [if_neg hn, unhex_two]
    simp only [he, hz, ne_eq, not_false_eq_true, decide_true, Bool.true_and, beq_self_eq_true]
theorem two_unhex : ∀ (l r : List UInt8), l.length % 2 = 0 → unhex l = some r → r.flatMap two = l
  | [], r, _, h => by
    simp [unhex] at h
    subst h
    rfl
  | [_], r, hl, h => by simp at hl
  | a :: b :: l, r, hl, h => by
    rw [unhex] at h
    split at h
    · cases h
    · rename_i hx
      rw [Option.map_eq_some_iff] at h
      obtain ⟨q, hq, rfl⟩ := h
      rw [List.flatMap_cons, two_unhex l q (by simp at hl; omega) hq, two_val (by omega) (by omega)]
      rfl
theorem hex_bytes (s : List UInt8) (h : (bytesL s).2 = true) : hexL (bytesL s).1 = s := by
  unfold bytesL at *
  split
  · rename_i e; rw [e]; rfl
  · rename_i e
    rw [if_neg e] at h
    cases hu : unhex s with
    | none => rw [hu] at h; cases h
    | some r =>
      rw [hu] at h
      simp at h
      have ht := two_unhex s r h.2 hu
      show hexL r = s
      unfold hexL
      rw [if_neg, ht]
      intro hr
      rw [hr] at ht
      exact h.1 ht.symm

/- Numbers in words. -/
theorem parse_snoc (c : UInt8) : ∀ (l : List UInt8) (acc u : Nat), Lib.parseUint10 acc l = .ok u → u ≤ 922337203685477580 → 48 ≤ c.toNat ∧ c.toNat ≤ 57 →
    Lib.parseUint10 acc (l ++ [c]) = .ok (u * 10 + (c.toNat - 48))
  | [], acc, u, h, hu, hc => by
    simp only [Lib.parseUint10] at h
    injection h with h
    subst h
    rw [List.nil_append, Lib.parseUint10, if_pos hc, if_neg (by omega), if_neg (by omega), Lib.parseUint10]
  | d :: l, acc, u, h, hu, hc => by
    rw [List.cons_append]
    simp only [Lib.parseUint10] at h ⊢
    split at h
    · rename_i hd
      rw [if_pos hd]
      split at h
      · cases h
      · rename_i h1
        rw [if_neg h1]
        split at h
        · cases h
        · rename_i h2
          rw [if_neg h2]
          exact parse_snoc c l _ u h hu hc
    · cases h
theorem digits_big {u : Nat} (h : ¬ u < 10) : Lib.decDigits u = Lib.decDigits (u / 10) ++ [UInt8.ofNat (48 + u % 10)] := by
  rw [Lib.decDigits, dif_neg h]
theorem parse_digits (u : Nat) (h : u ≤ 9223372036854775808) : Lib.parseUint10 0 (Lib.decDigits u) = .ok u := by
  induction u using Nat.strongRecOn with
  | ind u ih =>
    by_cases hs : u < 10
    · rw [Lib.decDigits_one hs]
      have e : (UInt8.ofNat (48 + u)).toNat = 48 + u := by rw [UInt8.toNat_ofNat']; omega
      rw [Lib.parseUint10, if_pos (by rw [e]; omega), if_neg (by omega), if_neg (by rw [e]; omega), Lib.parseUint10, e]
      congr 1
      omega
    · rw [digits_big hs]
      have e : (UInt8.ofNat (48 + u % 10)).toNat = 48 + u % 10 := by rw [UInt8.toNat_ofNat']; omega
      rw [parse_snoc _ _ 0 (u / 10) (ih (u / 10) (by omega) (by omega)) (by omega) (by rw [e]; omega), e]
      congr 1
      omega
theorem digits_are (u : Nat) : ∀ c ∈ Lib.decDigits u, 48 ≤ c.toNat ∧ c.toNat ≤ 57 := by
  induction u using Nat.strongRecOn with
  | ind u ih =>
    intro c hc
    rw [Lib.decDigits] at hc
    split at hc
    · rw [List.mem_singleton] at hc
      subst hc
      rw [UInt8.toNat_ofNat']
      omega
    · rw [List.mem_append, List.mem_singleton] at hc
      rcases hc with hc | rfl
      · exact ih (u / 10) (by omega) c hc
      · rw [UInt8.toNat_ofNat']
        omega
theorem digits_ne (u : Nat) : Lib.decDigits u ≠ [] := by
  rw [Lib.decDigits]
  split
  · simp
  · simp
theorem atoi_itoa (n : Int) (h0 : -9223372036854775808 ≤ n) (h1 : n ≤ 9223372036854775807) : Lib.atoiAll (Lib.itoa n) = .ok n := by
  unfold Lib.itoa
  split
  · rename_i hn
    unfold Lib.atoiAll
    simp only
    have e45 : (45 : UInt8).toNat = 45 := rfl
    rw [if_pos (.inr e45)]
    unfold Lib.parseMag
    rw [if_neg (digits_ne _), parse_digits _ (by omega)]
    simp only
    rw [if_neg (by omega), if_neg (by omega), if_pos e45]
    congr 1
    omega
  · rename_i hn
    obtain ⟨u, rfl⟩ : ∃ u : Nat, n = u := ⟨n.toNat, by omega⟩
    rw [Int.toNat_natCast]
    have hd := digits_are u
    have hp := parse_digits u (by omega)
    cases hl : Lib.decDigits u with
    | nil => exact absurd hl (digits_ne u)
    | cons c r =>
      rw [hl] at hd hp
      have hc := hd c List.mem_cons_self
      unfold Lib.atoiAll
      simp only
      rw [if_neg (show ¬ (c.toNat = 43 ∨ c.toNat = 45) by omega)]
      unfold Lib.parseMag
      rw [if_neg (by simp), hp]
      simp only
      rw [if_neg (by omega), if_neg (by omega), if_neg (by omega)]
theorem num_itoa {n : Int} (h0 : -9223372036854775808 ≤ n) (h1 : n ≤ 9223372036854775807) : isNum (Lib.itoa n) = true := by
  unfold isNum
  rw [atoi_itoa n h0 h1]
  simp
theorem numV_itoa {n : Int} (h0 : -9223372036854775808 ≤ n) (h1 : n ≤ 9223372036854775807) : atoiNum (Lib.itoa n) = n := by
  unfold atoiNum
  rw [atoi_itoa n h0 h1]
theorem itoa_num {l : List UInt8} (h : isNum l = true) : Lib.itoa (atoiNum l) = l := by
  unfold isNum at h
  unfold atoiNum
  rcases hl : Lib.atoiAll l with v | _ | _
  · rw [hl] at h; simpa using h
  · rw [hl] at h; cases h
  · rw [hl] at h; cases h
theorem itoa_are (n : Int) : ∀ c ∈ Lib.itoa n, c.toNat = 45 ∨ (48 ≤ c.toNat ∧ c.toNat ≤ 57) := by
  intro c hc
  unfold Lib.itoa at hc
  split at hc
  · rw [List.mem_cons] at hc
    rcases hc with rfl | hc
    · exact .inl rfl
    · exact .inr (digits_are _ c hc)
  · exact .inr (digits_are _ c hc)
theorem hex_are (l : List UInt8) : ∀ c ∈ hexL l, c.toNat = 45 ∨ 48 ≤ c.toNat := by
  intro c hc
  unfold hexL at hc
  split at hc
  · rw [List.mem_singleton] at hc; subst hc; exact .inl rfl
  · rw [List.mem_flatMap] at hc
    obtain ⟨x, _, hx⟩ := hc
    have hx' : c = dig (x.toNat / 16) ∨ c = dig (x.toNat % 16) := by simpa [two] using hx
    have := x.toNat_lt
    have hd : ∀ k : Nat, k < 16 → 48 ≤ (dig k).toNat := by
      intro k hk
      have := (by decide +kernel : ∀ k : Fin 16, 48 ≤ (dig k.val).toNat) ⟨k, hk⟩
      exact this
    rcases hx' with rfl | rfl
    · exact .inr (hd _ (by omega))
    · exact .inr (hd _ (by omega))
end Go.Proofs.YthdecdhikjmggaaDoor
