/- What any line asks for is told by it; what can be told is read as it: no program here. -/
import Derived.Test.YthdecdhikjmggaaDoorPlain
namespace Go.Proofs.YthdecdhikjmggaaDoor
open Go.RowKit

theorem idx_mem {l : List UInt8} {c : UInt8} : 0 ≤ Lib.indexByte l c ↔ c ∈ l := by
  have hge := Lib.indexByte_ge l c
  refine ⟨fun h => ?_, fun h => ?_⟩
  · obtain ⟨o, ho⟩ : ∃ o : Nat, Lib.indexByte l c = o := ⟨(Lib.indexByte l c).toNat, by omega⟩
    exact List.mem_of_getElem? (Lib.indexByte_some ho).1
  · refine Classical.byContradiction fun hn => ?_
    obtain ⟨k, hk⟩ := List.mem_iff_getElem?.1 h
    exact Lib.indexByte_none (by omega) k hk
theorem idx_none {l : List UInt8} {c : UInt8} (h : c ∉ l) : Lib.indexByte l c = -1 := by
  have h1 := Lib.indexByte_ge l c
  have h2 : ¬ 0 ≤ Lib.indexByte l c := fun e => h (idx_mem.1 e)
  omega
theorem idx_app {c : UInt8} : ∀ {a : List UInt8} (b : List UInt8), c ∉ a → Lib.indexByte (a ++ c :: b) c = (a.length : Int)
  | [], b, _ => by simp [Lib.indexByte]
  | x :: a, b, h => by
    have h1 : c ∉ a := fun e => h (List.mem_cons_of_mem _ e)
    have h2 : (x == c) = false := by rw [beq_eq_false_iff_ne]; intro e; exact h (e ▸ List.mem_cons_self)
    have h3 := idx_app b h1
    rw [List.cons_append, Lib.indexByte, h2, h3]
    simp only [Bool.false_eq_true, if_false]
    rw [if_neg, List.length_cons]
    · omega
    · rw [beq_iff_eq]; omega

theorem cut_app {a : List UInt8} (b : List UInt8) (h : (32 : UInt8) ∉ a) : Lib.cut (a ++ 32 :: b) [32] = (a, b, true) := by
  unfold Lib.cut
  rw [Lib.index_one, idx_app b h, if_pos (by omega), Int.toNat_natCast]
  simp
theorem cut_is {l a b : List UInt8} (h : Lib.cut l [32] = (a, b, true)) : l = a ++ 32 :: b ∧ (32 : UInt8) ∉ a := by
  by_cases hm : (32 : UInt8) ∈ l
  · obtain ⟨x, y, rfl, hx⟩ := List.eq_append_cons_of_mem hm
    rw [cut_app y hx] at h
    injection h with h1 h2
    injection h2 with h2 h3
    subst h1 h2
    exact ⟨rfl, hx⟩
  · unfold Lib.cut at h
    rw [Lib.index_one, idx_none hm, if_neg (by omega)] at h
    injection h with h1 h2
    injection h2 with h2 h3
    cases h3

/- Words. -/
theorem indexB_mk (l : List UInt8) : Lib.indexB ⟨l.toArray⟩ ⟨#[32]⟩ = Lib.indexByte l 32 := Lib.index_one l 32
theorem mk_data (s : ByteArray) : (⟨s.data.toList.toArray⟩ : ByteArray) = s := by simp
theorem extract_mk (l : List UInt8) (i j : Nat) : (⟨l.toArray⟩ : ByteArray).extract i j = ⟨((l.take j).drop i).toArray⟩ := by
  apply ByteArray.ext
  rw [ByteArray.data_extract]
  apply Array.toList_inj.1
  simp only [Array.toList_extract, List.extract, List.drop_take]
theorem split_none {l : List UInt8} (h : (32 : UInt8) ∉ l) (k : Nat) : Lib.splitB ⟨#[32]⟩ 0 k ⟨l.toArray⟩ = [⟨l.toArray⟩] :=
  Lib.splitB_miss _ _ _ _ (by rw [indexB_mk]; exact idx_none h)
theorem split_app {a : List UInt8} (b : List UInt8) (h : (32 : UInt8) ∉ a) (k : Nat) : Lib.splitB ⟨#[32]⟩ 0 (k + 1) ⟨(a ++ 32 :: b).toArray⟩ = ⟨a.toArray⟩ :: Lib.splitB ⟨#[32]⟩ 0 k ⟨b.toArray⟩ := by
  rw [Lib.splitB_hit _ _ _ _ a.length (by rw [indexB_mk]; exact idx_app b h), extract_mk, extract_mk]
  have e : (⟨(a ++ 32 :: b).toArray⟩ : ByteArray).size = (a ++ 32 :: b).length := by simp [ByteArray.size]
  have e1 : (⟨#[32]⟩ : ByteArray).size = 1 := rfl
  rw [e, e1, List.take_length, Nat.add_zero, List.take_left, List.drop_zero]
  congr 3
  rw [List.drop_append]
  simp
theorem mem_or (l : List UInt8) : (32 : UInt8) ∉ l ∨ ∃ a b, l = a ++ 32 :: b ∧ (32 : UInt8) ∉ a := by
  by_cases hm : (32 : UInt8) ∈ l
  · exact .inr (List.eq_append_cons_of_mem hm)
  · exact .inl hm
theorem size_mk (l : List UInt8) : (⟨l.toArray⟩ : ByteArray).size = l.length := by simp [ByteArray.size]

theorem words2 {a : List UInt8} (b : List UInt8) (h : (32 : UInt8) ∉ a) : wordsN 2 ⟨(a ++ 32 :: b).toArray⟩ = [⟨a.toArray⟩, ⟨b.toArray⟩] := by
  unfold wordsN
  rw [size_mk, List.length_append, List.length_cons, show min 2 (a.length + (b.length + 1) + 1) - 1 = 0 + 1 by omega, split_app b h, Lib.splitB_zero]
theorem words3 {a b : List UInt8} (c : List UInt8) (ha : (32 : UInt8) ∉ a) (hb : (32 : UInt8) ∉ b) : wordsN 3 ⟨(a ++ 32 :: (b ++ 32 :: c)).toArray⟩ = [⟨a.toArray⟩, ⟨b.toArray⟩, ⟨c.toArray⟩] := by
  unfold wordsN
  rw [size_mk, List.length_append, List.length_cons, List.length_append, List.length_cons, show min 3 (a.length + (b.length + (c.length + 1) + 1) + 1) - 1 = 1 + 1 by omega, split_app _ ha, split_app c hb, Lib.splitB_zero]
theorem words2_is {l : List UInt8} (h : (wordsN 2 ⟨l.toArray⟩).length = 2) : ∃ a b, l = a ++ 32 :: b ∧ (32 : UInt8) ∉ a := by
  rcases mem_or l with hm | hm
  · unfold wordsN at h
    rw [split_none hm] at h
    simp at h
  · exact hm
theorem words3_is {l : List UInt8} (h : (wordsN 3 ⟨l.toArray⟩).length = 3) : ∃ a b c, l = a ++ 32 :: (b ++ 32 :: c) ∧ (32 : UInt8) ∉ a ∧ (32 : UInt8) ∉ b := by
  rcases mem_or l with hm | ⟨a, r, rfl, ha⟩
  · unfold wordsN at h
    rw [split_none hm] at h
    simp at h
  · rcases mem_or r with hm | ⟨b, c, rfl, hb⟩
    · unfold wordsN at h
      rw [size_mk, List.length_append, List.length_cons, show min 3 (a.length + (r.length + 1) + 1) - 1 = (min 3 (a.length + (r.length + 1) + 1) - 2) + 1 by omega, split_app r ha, split_none hm] at h
      simp at h
    · exact ⟨a, b, c, rfl, ha, hb⟩

/- Kinds. -/
theorem kindTo_is (a : List UInt8) : ∀ k : Nat, kindTo a k = 0 ∨ (nm (kindTo a k) = a ∧ 0 < kindTo a k ∧ kindTo a k < k)
  | 0 => .inl rfl
  | k + 1 => by
    rw [kindTo]
    split
    · rename_i h; exact .inr ⟨h.2, h.1, by omega⟩
    · rcases kindTo_is a k with h | ⟨h1, h2, h3⟩
      · exact .inl h
      · exact .inr ⟨h1, h2, by omega⟩
theorem kindOf_is {a : List UInt8} (h : kindOf a ≠ 0) : nm (kindOf a) = a ∧ 1 ≤ kindOf a ∧ kindOf a ≤ 9 := by
  rcases kindTo_is a 10 with e | ⟨h1, h2, h3⟩
  · exact absurd e h
  · exact ⟨h1, h2, by unfold kindOf; omega⟩
theorem kind_fin : ∀ k : Fin 10, kindOf (nm k.val) = k.val := by decide +kernel
theorem kind_nm {k : Nat} (h : k < 10) : kindOf (nm k) = k := kind_fin ⟨k, h⟩
theorem nm_fin : ∀ k : Fin 10, (32 : UInt8) ∉ nm k.val ∧ (10 : UInt8) ∉ nm k.val := by decide +kernel
theorem nm_no {k : Nat} (h : k < 10) : (32 : UInt8) ∉ nm k ∧ (10 : UInt8) ∉ nm k := nm_fin ⟨k, h⟩
theorem itoa_no32 (n : Int) : (32 : UInt8) ∉ Lib.itoa n := fun h => by have := itoa_are n _ h; simp at this
theorem itoa_no10 (n : Int) : (10 : UInt8) ∉ Lib.itoa n := fun h => by have := itoa_are n _ h; simp at this
theorem hex_no10 (l : List UInt8) : (10 : UInt8) ∉ hexL l := fun h => by have := hex_are l _ h; simp at this

/-- A line of a kind and what follows. -/
theorem parse_line {k : Nat} (h0 : 1 ≤ k) (h : k < 10) (b : List UInt8) (hb : (10 : UInt8) ∉ b) : parseL (nm k ++ 32 :: b) =
    (if k = 4 then (if TwoNums 3 b then some ⟨4, (wordAt 3 b 2).data.toList, atoiNum (wordAt 3 b 0).data.toList, atoiNum (wordAt 3 b 1).data.toList, 0, []⟩ else none)
     else if k = 6 then (if TwoNums 2 b then some ⟨6, [], 0, atoiNum (wordAt 2 b 1).data.toList, atoiNum (wordAt 2 b 0).data.toList, []⟩ else none)
     else if k = 7 ∨ k = 9 then (if isNum b then some ⟨k, [], 0, 0, atoiNum b, []⟩ else none)
     else if k = 8 then (if (bytesL b).2 then some ⟨8, [], 0, 0, 0, (bytesL b).1⟩ else none)
     else some ⟨k, b, 0, 0, 0, []⟩) := by
  have hn := nm_no h
  have hi : Lib.indexByte (nm k ++ 32 :: b) 10 = -1 := idx_none (by
    rw [List.mem_append, List.mem_cons]
    rintro (e | e | e)
    · exact hn.2 e
    · cases e
    · exact hb e)
  unfold parseL
  rw [cut_app b hn.1, hi]
  simp only [kind_nm h]
  rw [if_neg (by simp), if_neg (by omega)]

theorem parse_text {l : List UInt8} {o : Opx} (h : parseL l = some o) : onlyL o = true ∧ textL o = l := by
  obtain ⟨a, b, f, hc⟩ : ∃ a b f, Lib.cut l [32] = (a, b, f) := ⟨_, _, _, rfl⟩
  cases f with
  | false => unfold parseL at h; rw [hc] at h; simp at h
  | true =>
    obtain ⟨rfl, ha⟩ := cut_is hc
    have h10 : (10 : UInt8) ∉ a ++ 32 :: b := fun e => by
      unfold parseL at h
      rw [if_pos (.inr (idx_mem.2 e))] at h
      cases h
    have hk0 : kindOf a ≠ 0 := fun e => by
      unfold parseL at h
      rw [hc] at h
      simp only [e] at h
      simp at h
    obtain ⟨hk, h1, h9⟩ := kindOf_is hk0
    generalize kindOf a = k at *
    subst hk
    have hb : (10 : UInt8) ∉ b := fun e => h10 (List.mem_append_right _ (List.mem_cons_of_mem _ e))
    have hb' : b.contains 10 = false := by simpa using hb
    rw [parse_line h1 (by omega) b hb] at h
    split at h
    · rename_i hk4
      subst hk4
      split at h
      · rename_i ht
        obtain ⟨x, y, z, rfl, hx, hy⟩ := words3_is ht.1
        have hn := ht.2
        unfold wordAt at h
        rw [words3 z hx hy] at h hn
        simp only [List.take, allNum, List.all_cons, List.all_nil, Bool.and_true, Bool.and_eq_true] at hn
        simp only [List.getD, List.getElem?_cons_zero, List.getElem?_cons_succ, Option.getD_some] at h
        injection h with h
        subst h
        have hz : z.contains 10 = false := by
          have : (10 : UInt8) ∉ z := fun e => hb (List.mem_append_right _ (List.mem_cons_of_mem _ (List.mem_append_right _ (List.mem_cons_of_mem _ e))))
          simpa using this
        have e0 := itoa_num hn.1
        have e1 := itoa_num hn.2
        refine ⟨?_, ?_⟩
        · simp [onlyL] at hz ⊢
          exact hz
        · unfold textL
          simp only
          rw [if_neg (by omega), if_pos (by trivial), e0, e1]
          simp
      · cases h
    split at h
    · rename_i hk6
      subst hk6
      split at h
      · rename_i ht
        obtain ⟨x, y, rfl, hx⟩ := words2_is ht.1
        have hn := ht.2
        unfold wordAt at h
        rw [words2 y hx] at h hn
        simp only [List.take, allNum, List.all_cons, List.all_nil, Bool.and_true, Bool.and_eq_true] at hn
        simp only [List.getD, List.getElem?_cons_zero, List.getElem?_cons_succ, Option.getD_some] at h
        injection h with h
        subst h
        have e0 := itoa_num hn.1
        have e1 := itoa_num hn.2
        refine ⟨by simp [onlyL], ?_⟩
        unfold textL
        simp only
        rw [if_neg (by omega), if_neg (by omega), if_pos (by trivial), e0, e1]
        simp
      · cases h
    split at h
    · rename_i hk7
      split at h
      · rename_i hn
        injection h with h
        subst h
        have e0 := itoa_num hn
        refine ⟨?_, ?_⟩
        · rcases hk7 with rfl | rfl <;> simp [onlyL]
        · unfold textL
          simp only
          rw [if_neg (by omega), if_neg (by omega), if_neg (by omega), if_pos (by omega), e0, Int.toNat_natCast]
          simp
      · cases h
    split at h
    · rename_i hk8
      subst hk8
      split at h
      · rename_i hn
        injection h with h
        subst h
        refine ⟨by simp [onlyL], ?_⟩
        unfold textL
        simp only
        rw [if_neg (by omega), if_neg (by omega), if_neg (by omega), if_neg (by omega), if_pos (by trivial), hex_bytes b hn]
        simp
      · cases h
    injection h with h
    subst h
    have hk : k = 1 ∨ k = 2 ∨ k = 3 ∨ k = 5 := by omega
    refine ⟨?_, ?_⟩
    · unfold onlyL
      simp only [hb']
      rw [if_pos (by omega)]
      rfl
    · unfold textL
      simp only
      rw [if_neg (by omega), if_neg (by omega), if_neg (by omega), if_neg (by omega), if_neg (by omega), Int.toNat_natCast]
      simp

structure IntsFit (o : Opx) : Prop where
  off : -9223372036854775808 ≤ o.off ∧ o.off ≤ 9223372036854775807
  n : -9223372036854775808 ≤ o.n ∧ o.n ≤ 9223372036854775807
  id : -9223372036854775808 ≤ o.id ∧ o.id ≤ 9223372036854775807

theorem text_parse {o : Opx} (hf : IntsFit o) (h : onlyL o = true) : parseL (textL o) = some o := by
  obtain ⟨kind, path, off, n, id, image⟩ := o
  obtain ⟨ho, hn, hi⟩ := hf
  simp only at ho hn hi
  unfold onlyL at h
  simp only [Bool.and_eq_true] at h
  obtain ⟨hp, h⟩ := h
  have hp10 : (10 : UInt8) ∉ path := by simpa using hp
  by_cases c1 : kind = 1 ∨ kind = 2 ∨ kind = 3 ∨ kind = 5
  · rw [if_pos c1] at h
    simp only [Bool.and_eq_true, beq_iff_eq] at h
    obtain ⟨rfl, rfl, rfl, rfl⟩ := h
    obtain ⟨k, rfl⟩ : ∃ k : Nat, kind = k := ⟨kind.toNat, by omega⟩
    have e : textL ⟨k, path, 0, 0, 0, []⟩ = nm k ++ 32 :: path := by
      unfold textL
      simp only
      rw [if_neg (by omega), if_neg (by omega), if_neg (by omega), if_neg (by omega), if_neg (by omega), Int.toNat_natCast]
      simp
    rw [e, parse_line (by omega) (by omega) path hp10, if_neg (by omega), if_neg (by omega), if_neg (by omega), if_neg (by omega)]
  rw [if_neg c1] at h
  by_cases c4 : kind = 4
  · rw [if_pos c4] at h
    simp only [Bool.and_eq_true, beq_iff_eq] at h
    obtain ⟨rfl, rfl⟩ := h
    subst c4
    have e : textL ⟨4, path, off, n, 0, []⟩ = nm 4 ++ 32 :: (Lib.itoa off ++ 32 :: (Lib.itoa n ++ 32 :: path)) := by
      unfold textL
      simp
    have hw := words3 path (itoa_no32 off) (itoa_no32 n)
    rw [e, parse_line (by omega) (by omega), if_pos rfl, if_pos]
    · unfold wordAt
      rw [hw]
      simp only [List.getD, List.getElem?_cons_zero, List.getElem?_cons_succ, Option.getD_some]
      rw [numV_itoa ho.1 ho.2, numV_itoa hn.1 hn.2]
    · unfold TwoNums
      rw [hw]
      simp [allNum, num_itoa ho.1 ho.2, num_itoa hn.1 hn.2]
    · simp only [List.mem_append, List.mem_cons, not_or]
      exact ⟨itoa_no10 _, by decide, itoa_no10 _, by decide, hp10⟩
  rw [if_neg c4] at h
  by_cases c6 : kind = 6
  · rw [if_pos c6] at h
    simp only [Bool.and_eq_true, beq_iff_eq] at h
    obtain ⟨rfl, rfl, rfl⟩ := h
    subst c6
    have e : textL ⟨6, [], 0, n, id, []⟩ = nm 6 ++ 32 :: (Lib.itoa id ++ 32 :: Lib.itoa n) := by
      unfold textL
      simp
    have hw := words2 (Lib.itoa n) (itoa_no32 id)
    rw [e, parse_line (by omega) (by omega), if_neg (by omega), if_pos rfl, if_pos]
    · unfold wordAt
      rw [hw]
      simp only [List.getD, List.getElem?_cons_zero, List.getElem?_cons_succ, Option.getD_some]
      rw [numV_itoa hi.1 hi.2, numV_itoa hn.1 hn.2]
    · unfold TwoNums
      rw [hw]
      simp [allNum, num_itoa hi.1 hi.2, num_itoa hn.1 hn.2]
    · simp only [List.mem_append, List.mem_cons, not_or]
      exact ⟨itoa_no10 _, by decide, itoa_no10 _⟩
  rw [if_neg c6] at h
  by_cases c7 : kind = 7 ∨ kind = 9
  · rw [if_pos c7] at h
    simp only [Bool.and_eq_true, beq_iff_eq] at h
    obtain ⟨rfl, rfl, rfl, rfl⟩ := h
    obtain ⟨k, rfl⟩ : ∃ k : Nat, kind = k := ⟨kind.toNat, by omega⟩
    have e : textL ⟨k, [], 0, 0, id, []⟩ = nm k ++ 32 :: Lib.itoa id := by
      unfold textL
      simp only
      rw [if_neg (by omega), if_neg (by omega), if_neg (by omega), if_pos (by omega), Int.toNat_natCast]
      simp
    rw [e, parse_line (by omega) (by omega) _ (itoa_no10 _), if_neg (by omega), if_neg (by omega), if_pos (by omega), if_pos (num_itoa hi.1 hi.2), numV_itoa hi.1 hi.2]
  rw [if_neg c7] at h
  by_cases c8 : kind = 8
  · rw [if_pos c8] at h
    simp only [Bool.and_eq_true, beq_iff_eq] at h
    obtain ⟨rfl, rfl, rfl, rfl⟩ := h
    subst c8
    have e : textL ⟨8, [], 0, 0, 0, image⟩ = nm 8 ++ 32 :: hexL image := by
      unfold textL
      simp
    have hb := bytes_hex image
    rw [e, parse_line (by omega) (by omega) _ (hex_no10 _), if_neg (by omega), if_neg (by omega), if_neg (by omega), if_pos rfl, hb]
    rfl
  rw [if_neg c8] at h
  cases h

end Go.Proofs.YthdecdhikjmggaaDoor
