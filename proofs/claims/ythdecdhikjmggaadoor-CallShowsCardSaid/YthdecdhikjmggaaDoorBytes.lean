/- The contract of call.Bytes: the bytes of words. -/
import Derived.Test.YthdecdhikjmggaaDoorHex
import Derived.Laws.MakeOwn
import Derived.Lib.ConvBytes
import Derived.Laws.BytesArg
import Derived.IntWalk
import Derived.WalkSmall
import Derived.Deep.AppendLies
namespace Go.Proofs.YthdecdhikjmggaaDoor
open Go.RowKit

/-- Which digit of 16 a byte is; -1: none. -/
def ix (c : UInt8) : Int := Lib.indexByte [48, 49, 50, 51, 52, 53, 54, 55, 56, 57, 97, 98, 99, 100, 101, 102] c
def valOf (a b : UInt8) : UInt8 := UInt8.ofNat ((ix a).toNat * 16 + (ix b).toNat)
/-- The bytes of pairs of digits, but for a last single one. -/
def unhex : List UInt8 → Option (List UInt8)
  | a :: b :: r => if ix a < 0 ∨ ix b < 0 then none else (unhex r).map (valOf a b :: ·)
  | _ => some []
/-- The bytes of words, and whether they are such. -/
def bytesL (l : List UInt8) : List UInt8 × Bool :=
  if l = [45] then ([], true) else match unhex l with
  | none => ([], false)
  | some r => (r, l ≠ [] && l.length % 2 == 0)

theorem ix_fin : ∀ c : Fin 256, -1 ≤ ix (UInt8.ofNat c.val) ∧ ix (UInt8.ofNat c.val) < 16 := by decide +kernel
theorem ix_bounds (c : UInt8) : -1 ≤ ix c ∧ ix c < 16 := by
  have h := ix_fin ⟨c.toNat, c.toNat_lt⟩
  simpa using h

theorem ix_any (c : UInt8) (w : World) : Calls Tryd.prog 37 #[.string ⟨#[48, 49, 50, 51, 52, 53, 54, 55, 56, 57, 97, 98, 99, 100, 101, 102]⟩, .int .u8 c.toNat] w fun e w' => e = .returned (.int .i64 (ix c)) ∧ w' = w := by
  refine (Tryd.strings_IndexByte _ _ w).mono ?_
  rintro e w' ⟨rfl, rfl⟩
  refine ⟨?_, rfl⟩
  unfold ix
  rw [Int.toNat_natCast, show c.toNat.toUInt8 = c from UInt8.ofNat_toNat]

theorem or_fin : ∀ p : Fin 256, bits .or .i64 ((p.val / 16 : Nat) * 16 : Int) ((p.val % 16 : Nat) : Int) = ((p.val / 16 : Nat) * 16 : Int) + ((p.val % 16 : Nat) : Int) := by decide +kernel
theorem or_at {a b : Int} (h0 : 0 ≤ a) (h1 : a < 16) (h2 : 0 ≤ b) (h3 : b < 16) : bits .or .i64 (a * 16) b = a * 16 + b := by
  have h := or_fin ⟨a.toNat * 16 + b.toNat, by omega⟩
  have e1 : (a.toNat * 16 + b.toNat) / 16 = a.toNat := by omega
  have e2 : (a.toNat * 16 + b.toNat) % 16 = b.toNat := by omega
  simp only [e1, e2] at h
  rwa [Int.toNat_of_nonneg h0, Int.toNat_of_nonneg h2] at h

theorem own_text {P : Program} {w : World} {base n : Nat} {e' src dst e : TypeId} {v : Value} {l : List UInt8} (hs : P.underlying src = some (.slice e)) (he : P.underlying e = some (.int .u8)) (hd : P.underlying dst = some .string)
    (h : w.ownsRow base e' 1 v n (Lib.byteCells l)) : (convert src dst v).run P w = .ok (.string ⟨l.toArray⟩) w := by
  have hl : (l.map fun b => (b.toNat : Int)).length = n := by have := h.1; simpa [Lib.byteCells] using this
  rcases h.2 with ⟨rfl, h0⟩ | ⟨g, cap, cur, rfl, _⟩
  · have hn := h.1
    obtain rfl : l = [] := List.eq_nil_of_length_eq_zero (by rw [← Lib.byteCells_length, hn, h0, Nat.zero_mul])
    exact run_convert_bytes_nil w src e hs he 0 0 dst hd
  · have hx : strOfNums (l.map fun b => (b.toNat : Int)) = ⟨l.toArray⟩ := by
      unfold strOfNums
      rw [List.map_map]
      congr 2
      conv => rhs; rw [← List.map_id l]
      exact List.map_congr_left fun c _ => by simp
    rw [← hx]
    refine run_convert_bytes_arg w src e hs he g 0 n cap (l.map fun b => (b.toNat : Int)) hl (fun i hi => ?_) dst hd
    have hc := h.cells (g := g) rfl i (.int .u8 ((l.map fun b => (b.toNat : Int)).getD i 0)) (by
      have hi' : i < l.length := by rw [List.length_map] at hl; omega
      simp [Lib.byteCells, List.getD_eq_getElem?_getD, List.getElem?_eq_getElem hi'])
    have ha : (⟨g, 0, none⟩ : Addr).add i = ⟨g, 0 + i, none⟩ := by unfold Addr.add; split <;> simp_all
    rwa [ha] at hc

theorem even_no {s : ByteArray} {n : Nat} (h : s.toList = []) : false = (decide (s.data.toList ≠ []) && n % 2 == 0) := by
  rw [ByteArray.toList_eq] at h; simp [h]
theorem even_yes {s : ByteArray} {n : Nat} (h : ¬ s.toList = []) : (!s.toList.isEmpty && (n : Int) % 2 == 0) = (decide (s.data.toList ≠ []) && n % 2 == 0) := by
  rw [ByteArray.toList_eq] at h ⊢
  have e : ((n : Int) % 2 == 0) = (n % 2 == 0) := by rw [Bool.eq_iff_iff, beq_iff_eq, beq_iff_eq]; omega
  rw [e]
  cases hl : s.data.toList with
  | nil => exact absurd hl h
  | cons a r => rfl

theorem ret_sb {a b : ByteArray} {x y : Bool} (h : a = b) (k : x = y) : Ending.returned (.tuple #[.string a, .bool x]) = Ending.returned (.tuple #[.string b, .bool y]) := by rw [h, k]

theorem valOf_num {a b : UInt8} (h0 : 0 ≤ ix a) (h1 : ix a < 16) (h2 : 0 ≤ ix b) (h3 : ix b < 16) : ((valOf a b).toNat : Int) = ix a * 16 + ix b := by
  unfold valOf
  rw [UInt8.toNat_ofNat']
  omega

theorem ownsRow_drewN {w : World} {base : Nat} {e : TypeId} {size n : Nat} {v : Value} {xs : List Value} (h : w.ownsRow base e size v n xs) (k : Nat) : (w.drewN k).ownsRow base e size v n xs := h

theorem unhex_step {s : ByteArray} {n : Nat} (h : n + 1 < s.size) : s.data.toList.drop n = s[n] :: s[n + 1] :: s.data.toList.drop (n + 2) := by
  rw [List.drop_eq_getElem_cons (by rw [size_data]; omega), List.drop_eq_getElem_cons (i := n + 1) (by rw [size_data]; omega)]
  rfl
theorem unhex_end {s : ByteArray} {n : Nat} (h : ¬ n + 1 < s.size) : unhex (s.data.toList.drop n) = some [] := by
  have hl : (s.data.toList.drop n).length ≤ 1 := by rw [List.length_drop, size_data]; omega
  match hd : s.data.toList.drop n, hl with
  | [], _ => rfl
  | [x], _ => rfl

set_option maxHeartbeats 1000000 in
set_option maxRecDepth 100000 in
theorem bytes_main (s : ByteArray) (w : World) (hs : s.size ≤ 70000000000000) (hm : s.data.toList ≠ [45]) :
    Calls Tryd.prog 13 #[.string s] w fun e w' => e = .returned (.tuple #[.string ⟨(bytesL s.data.toList).1.toArray⟩, .bool (bytesL s.data.toList).2]) ∧ Below w.heap.size w w' := by
  have hne : (s.toList == ([45] : List UInt8)) = false := by rw [ByteArray.toList_eq, beq_eq_false_iff_ne]; exact hm
  obtain ⟨i0, hi, hz0, hz1, hz2⟩ := info_parts infoByte
  go_enter Tryd.func13, Tryd.ntmps13
  go_wp2_with (at_make; refine wpList_make_own _ rfl _ _ 68 rfl w.heap.size 5 i0 (.int .u8 0) 1 Tryd.underlying68 hi hz0 hz1 .i64 .i64 _ (s.size / 2) rfl rfl (by omega) (by rw [hz2]; omega) (by unfold maxLen; omega) (Nat.le_refl _) ?_; intro w0 hown0 hgrow0)
  have hb0 : Below w.heap.size w w0 := (Below.refl _ _).grown hgrow0 (Nat.le_refl _) (by simp)
  clear hgrow0 hne
  go_loopw [4, 5] (fun v i wr => ∃ (n : Nat) (pre : List UInt8), n ≤ s.size ∧ Hid (2 * pre.length = n) ∧ i = .int .i64 n ∧ Hid (unhex s.data.toList = (unhex (s.data.toList.drop n)).map (pre ++ ·)) ∧ wr.ownsRow w.heap.size 5 1 v pre.length (Lib.byteCells pre) ∧ Below w.heap.size w wr) (fun _ i _ => s.size - (intOf i).toNat)
  case atStart => exact ⟨0, [], by omega, rfl, rfl, by simp [Hid], hown0, hb0⟩
  case round =>
    obtain ⟨n, pre, hn, HP, rfl, HU, hown, hb⟩ := hrel
    by_cases hlt : n + 1 < s.size
    · have ba := ix_bounds s[n]
      have bb := ix_bounds s[n + 1]
      by_cases hbad : ix s[n] < 0 ∨ ix s[n + 1] < 0
      · have HR : Hid (bytesL s.data.toList = ([], false)) := by
          have := HU.out
          rw [unhex_step hlt, unhex, if_pos hbad] at this
          show bytesL _ = _
          unfold bytesL
          rw [if_neg hm, this]; rfl
        have i1 : (n : Int) < s.size := by omega
        have i2 : (0 : Int) ≤ n := by omega
        have i3 : (n : Int) + 1 < s.size := by omega
        have i4 : (0 : Int) ≤ n + 1 := by omega
        have i5 : IntKind.i64.wrap ((n : Int) + 1) = (n : Int) + 1 := IntWalk.i64_in _ (by omega)
        have i6 : ((n : Int) + 1).toNat = n + 1 := by omega
        by_cases h1 : ix s[n] < 0
        · go_wp2_with fail
          go_quiet ((go_at_call 37; exact Calls.quiet_of_same (ix_any _ _)))
          go_wp2_with fail
          go_ret2
          exact ⟨by rw [HR.out]; rfl, below_drewN hb _⟩
        · have h2 : ix s[n + 1] < 0 := by omega
          go_wp2_with fail
          go_quiet ((go_at_call 37; exact Calls.quiet_of_same (ix_any _ _)))
          go_wp2_with fail
          go_ret2
          exact ⟨by rw [HR.out]; rfl, below_drewN hb _⟩
      · have h1 : ¬ ix s[n] < 0 := by omega
        have h2 : ¬ ix s[n + 1] < 0 := by omega
        have h3 : 0 ≤ ix s[n] := by omega
        have h4 : 0 ≤ ix s[n + 1] := by omega
        have h5 := or_at h3 ba.2 h4 bb.2
        have HN : Hid (unhex s.data.toList = (unhex (s.data.toList.drop (n + 2))).map ((pre ++ [valOf s[n] s[n + 1]]) ++ ·)) := by
          have := HU.out
          rw [unhex_step hlt, unhex, if_neg hbad, Option.map_map] at this
          show _ = _
          rw [this]
          congr 1
          funext x
          simp
        clear HU hbad
        have i1 : (n : Int) < s.size := by omega
        have i2 : (0 : Int) ≤ n := by omega
        have i3 : (n : Int) + 1 < s.size := by omega
        have i4 : (0 : Int) ≤ n + 1 := by omega
        have i5 : IntKind.i64.wrap ((n : Int) + 1) = (n : Int) + 1 := IntWalk.i64_in _ (by omega)
        have i6 : ((n : Int) + 1).toNat = n + 1 := by omega
        go_wp2_with fail
        go_quiet ((go_at_call 37; exact Calls.quiet_of_same (ix_any _ _)))
        go_wp2_with (at_builtin; refine wpList_append_own _ rfl _ _ 68 rfl w.heap.size 5 i0 (.int .u8 0) 1 1 Tryd.underlying68 hi hz0 hz1 hz2 rfl (by decide) _ _ _ rfl ((ownsRow_drewN hown _).alloc _) ⟨(wr.drewN nq).heap.size, 0, none⟩ 1 1 [.int .u8 (ix s[n] * 16 + ix s[n + 1])] rfl rfl ?c1 ?c2 ?c3 ?c4 ?c5 ?_)
        case c1 => exact World.news_of_block (cs := #[.int .u8 (ix s[n] * 16 + ix s[n + 1])]) (t := 5) (fr := (0, 0)) (heap_alloc_new _ _)
        case c2 => intro u hu; simp only [List.mem_singleton] at hu; subst hu; rfl
        case c3 => have := HP.out; unfold maxLen; omega
        case c4 => have := HP.out; omega
        case c5 => have := hb.size; simp; omega
        intro v' w2 hown' hgrow _
        have hb2 : Below w.heap.size w w2 := ((below_drewN hb nq).alloc (by have := hb.size; simpa using this) _).grown hgrow (by have := hb.size; simp; omega) (fun k hk => (hown.lt k hk).1)
        clear hgrow
        go_wp2_with fail
        go_roundw
        case rel => exact ⟨n + 2, pre ++ [valOf s[n] s[n + 1]], by omega, by have := HP.out; simp only [Hid, List.length_append, List.length_singleton]; omega, by go_num, HN, by have e := valOf_num h3 ba.2 h4 bb.2; rw [← e] at hown'; simpa [Lib.byteCells] using hown', hb2⟩
        case measure => simp [intOf]; omega
    · have HU2 : Hid (unhex s.data.toList = some pre) := by
        have := HU.out
        rw [unhex_end hlt] at this
        show _ = _
        rw [this]; simp
      clear HU
      have hcv := own_text (src := 68) (dst := 9) Tryd.underlying68 Tryd.underlying5 Tryd.underlying9 hown
      have HR : Hid (bytesL s.data.toList = (pre, s.data.toList ≠ [] && s.data.toList.length % 2 == 0)) := by
        show bytesL _ = _
        unfold bytesL
        rw [if_neg hm, HU2.out]
      go_wp2_with fail
      all_goals
        go_ret2
        refine ⟨?_, hb⟩
        rw [HR.out]
        refine ret_sb rfl ?_
        rw [size_data]
        first
          | exact even_no ‹_›
          | exact even_yes ‹_›

theorem bytes_any (s : ByteArray) (w : World) (hs : s.size ≤ 70000000000000) :
    Calls Tryd.prog 13 #[.string s] w fun e w' => e = .returned (.tuple #[.string ⟨(bytesL s.data.toList).1.toArray⟩, .bool (bytesL s.data.toList).2]) ∧ Below w.heap.size w w' := by
  by_cases hm : s.data.toList = [45]
  · have hne : (s.toList == ([45] : List UInt8)) = true := by rw [ByteArray.toList_eq, beq_iff_eq]; exact hm
    have HR : Hid (bytesL s.data.toList = ([], true)) := by
      show bytesL _ = _
      unfold bytesL; rw [if_pos hm]
    clear hm
    go_enter Tryd.func13, Tryd.ntmps13
    go_wp2_with fail
    go_ret2
    exact ⟨by rw [HR.out]; rfl, Below.refl _ _⟩
  · exact bytes_main s w hs hm
end Go.Proofs.YthdecdhikjmggaaDoor
