/- The contracts of call.names, call.numbers. -/
import Derived.Test.YthdecdhikjmggaaDoorBytes
import Derived.Test.YthdecdhikjmggaaDoorNum
import Derived.Test.YthdecdhikjmggaaDoorKit
namespace Go.Proofs.YthdecdhikjmggaaDoor
open Go.RowKit

def namesV : Value := .agg #[.string ⟨#[]⟩, .string ⟨#[108, 111, 111, 107, 117, 112]⟩, .string ⟨#[115, 116, 97, 116]⟩, .string ⟨#[114, 101, 97, 100, 108, 105, 110, 107]⟩, .string ⟨#[114, 101, 97, 100]⟩, .string ⟨#[111, 112, 101, 110]⟩, .string ⟨#[112, 97, 103, 101]⟩, .string ⟨#[99, 108, 111, 115, 101]⟩, .string ⟨#[97, 100, 100]⟩, .string ⟨#[114, 101, 109, 111, 118, 101]⟩]

theorem names_any (w : World) : Calls Tryd.prog 34 #[] w fun e w' => e = .returned namesV ∧ Below w.heap.size w w' := by
  go_enter Tryd.func34, Tryd.ntmps34
  go_wp2
  exact bodyPost_ret (v := namesV) (by simp [results, Tryd.results34, namesV, go_sem]) rfl ⟨rfl, (Below.refl _ _).alloc (Nat.le_refl _) _⟩

theorem info3 : (Tryd.prog.info? 3).map (fun i => (i.zero, i.size, i.bytes)) = some (some (.int .i64 0), 1, 8) := by kernel_rfl

/-- The words of a string, so many at most. -/
def wordsN (n : Nat) (s : ByteArray) : List ByteArray := Lib.splitB ⟨#[32]⟩ 0 (min n (s.size + 1) - 1) s
def numsOf (l : List ByteArray) : List Int := l.map fun x => atoiNum x.data.toList
def allNum (l : List ByteArray) : Bool := l.all fun x => isNum x.data.toList
def intCells (l : List Int) : List Value := l.map (Value.int .i64)

theorem splitB_size (sep : ByteArray) : ∀ (k : Nat) (s x : ByteArray), x ∈ Lib.splitB sep 0 k s → x.size ≤ s.size
  | 0, s, x, h => by
    rw [Lib.splitB_zero, List.mem_singleton] at h
    exact Nat.le_of_eq (by rw [h])
  | k + 1, s, x, h => by
    rcases Lib.indexB_cases s sep with hi | ⟨i, hi, hle⟩
    · rw [Lib.splitB_miss _ _ _ _ hi, List.mem_singleton] at h
      exact Nat.le_of_eq (by rw [h])
    · rw [Lib.splitB_hit _ _ _ _ i hi, List.mem_cons] at h
      rcases h with rfl | h
      · rw [ByteArray.size_extract]; omega
      · have := splitB_size sep k _ x h
        rw [ByteArray.size_extract] at this
        omega
theorem wordsN_size (n : Nat) (s : ByteArray) (k : Nat) : ((wordsN n s).getD k ByteArray.empty).size ≤ s.size := by
  rw [List.getD_eq_getElem?_getD]
  cases h : (wordsN n s)[k]? with
  | none => simp
  | some x => exact splitB_size _ _ _ _ (List.mem_of_getElem? h)

/-- What numbers answers. -/
def NumbersEnd (s : ByteArray) (m : Nat) (rest : Bool) (w : World) (e : Ending) (w' : World) : Prop :=
  Below w.heap.size w w' ∧
  ((e = .returned (.tuple #[.slice none 0 0, .string ⟨#[]⟩, .bool false]) ∧ ¬ ((wordsN (if rest then m + 1 else m) s).length = (if rest then m + 1 else m) ∧ allNum ((wordsN (if rest then m + 1 else m) s).take m) = true)) ∨
   (∃ v, (wordsN (if rest then m + 1 else m) s).length = (if rest then m + 1 else m) ∧ allNum ((wordsN (if rest then m + 1 else m) s).take m) = true ∧
      e = .returned (.tuple #[v, .string (if rest then (wordsN (m + 1) s).getD m ByteArray.empty else ⟨#[]⟩), .bool true]) ∧
      w'.ownsRow w.heap.size 3 1 v m (intCells (numsOf ((wordsN (if rest then m + 1 else m) s).take m)))))

theorem ret_vsb {v u : Value} {a b : ByteArray} {x : Bool} (h : v = u) (k : a = b) : Ending.returned (.tuple #[v, .string a, .bool x]) = Ending.returned (.tuple #[u, .string b, .bool x]) := by rw [h, k]

/-- A new row of strings, with room behind it or not. -/
def NewStrs (xs : List ByteArray) (w : World) (e : Ending) (w' : World) : Prop :=
  ∃ cap cells, e = .returned (.slice (some ⟨w.heap.size, 0, none⟩) xs.length cap) ∧ w' = w.alloc (.cells cells 9) ∧ xs.length ≤ cap ∧ cap ≤ 9223372036854775807 ∧ ∀ j, j < xs.length → cells[j]? = some (.string (xs.getD j ByteArray.empty))

theorem splitN_new (s : ByteArray) (n : Nat) (w : World) (hs : s.size ≤ 4000000000) (h1 : 1 ≤ n) (hn : n ≤ 9223372036854775807) (G : Glob w) :
    Calls Tryd.prog 51 #[.string s, .string ⟨#[32]⟩, .int .i64 n] w (NewStrs (wordsN n s) w) := by
  obtain ⟨mx, hmx⟩ := G.maxLen
  refine (Tryd.strings_SplitN s _ n mx _ (by omega) hmx (by decide) h1 hn).mono ?_
  rintro e w1 ⟨rfl, rfl⟩
  refine ⟨_, _, rfl, rfl, ?_, by omega, ?_⟩
  · have := Lib.splitB_length_le ⟨#[32]⟩ 0 (min n (s.size + 1) - 1) s
    show (Lib.splitB _ _ _ _).length ≤ _
    omega
  · intro j hj
    have hj' : j < (Lib.splitB ⟨#[32]⟩ 0 (min n (s.size + 1) - 1) s).length := hj
    unfold Lib.cellsOf wordsN
    rw [List.getElem?_toArray, List.getElem?_append_left (by simpa using hj'), List.getElem?_map, List.getElem?_eq_getElem hj', List.getD_eq_getElem?_getD, List.getElem?_eq_getElem hj']
    rfl

set_option maxHeartbeats 1000000 in
set_option maxRecDepth 100000 in
theorem numbers_rest (s : ByteArray) (m : Nat) (w : World) (hs : s.size ≤ 4000000000) (hm : m ≤ 1000) (G : Glob w) :
    Calls Tryd.prog 35 #[.string s, .int .i64 m, .bool true] w (NumbersEnd s m true w) := by
  obtain ⟨xs, hxs⟩ : ∃ xs, wordsN (m + 1) s = xs := ⟨_, rfl⟩
  have HX : Hid (wordsN (m + 1) s = xs) := hxs
  clear hxs
  by_cases hl : xs.length = m + 1
  · have hl1 : ((xs.length : Int) != (m : Int) + 1) = false := by rw [bne_eq_false_iff_eq]; omega
    have hl2 : (m : Int) ≤ (xs.length : Int) := by omega
    have HL : Hid (xs.length = m + 1) := hl
    have hl3 : m < xs.length := by omega
    clear hl
    go_enter Tryd.func35, Tryd.ntmps35
    go_wp2_with (go_at_call 51; refine (splitN_new s (m + 1) _ hs (by omega) (by omega) G).mono ?_; rw [HX.out]; rintro e w1 ⟨cap, cells, rfl, rfl, hcap, hcap2, hcells⟩)
    have G1 : Glob (w.alloc (Obj.cells cells 9)) := G.below ((Below.refl _ _).alloc (Nat.le_refl _) _)
    go_loopw [11, 31] (fun v i wr => ∃ (k : Nat), k ≤ m ∧ Hid (allNum (xs.take k) = true) ∧ i = .int .i64 k ∧ wr.ownsRow (w.heap.size + 1) 3 1 v k (intCells (numsOf (xs.take k))) ∧ Below (w.heap.size + 1) (w.alloc (Obj.cells cells 9)) wr) (fun _ i _ => m - (intOf i).toNat)
    case atStart => exact ⟨0, Nat.zero_le _, rfl, rfl, ⟨by simp [numsOf, intCells], .inl ⟨rfl, rfl⟩⟩, Below.refl _ _⟩
    case round =>
      obtain ⟨k, hk, HA, rfl, hown, hb⟩ := hrel
      by_cases hlt : k < m
      · obtain ⟨x, hx⟩ : ∃ x, xs.getD k ByteArray.empty = x := ⟨_, rfl⟩
        have hkx : k < xs.length := by omega
        have hck : wr.cell? ⟨w.heap.size, k, none⟩ = some (.string x) := by
          rw [hb.cell (p := ⟨w.heap.size, k, none⟩) (Nat.lt_succ_self _), Lib.cell_of_heap (heap_alloc_new _ _), hcells k hkx, hx]
        have htk : xs.take (k + 1) = xs.take k ++ [x] := by
          rw [List.take_succ_eq_append_getElem hkx, ← hx, List.getD_eq_getElem?_getD, List.getElem?_eq_getElem hkx]; rfl
        have HT : Hid (xs.take (k + 1) = xs.take k ++ [x]) := htk
        have hxs : x.size ≤ s.size := by
          rw [← hx, ← HX.out]
          exact wordsN_size _ _ _
        clear htk hx
        have Gr : Glob wr := G1.below (hb.mono (by simp))
        by_cases hn : isNum x.data.toList = true
        · have HA' : Hid (allNum (xs.take (k + 1)) = true) := by
            show allNum _ = true
            rw [HT.out]; unfold allNum; rw [List.all_append]; have := HA.out; unfold allNum at this; rw [this]; simp [hn]
          go_wp2_with (first
            | (go_at_call 15; refine (number_any x _ (by omega) Gr).mono ?_; rintro e w2 ⟨rfl, hb2⟩)
            | (at_builtin; refine app_one (B := w.heap.size + 1) (w0 := w.alloc (Obj.cells cells 9)) rfl _ _ 46 3 (.int .i64 0) 8 rfl Tryd.underlying46 info3 rfl (w.heap.size + 1) k _ (intCells (numsOf (xs.take k))) (.int .i64 (atoiNum x.data.toList)) rfl rfl rfl (own_stay hown hb2) (hb.trans (hb2.mono (Nat.le_trans (by simp) hb.size))) (Nat.le_refl _) (Nat.le_trans (Nat.le_trans (by simp) hb.size) hb2.size) (by omega) (by omega) ?_; intro v' w3 hown' hb3 _))
          go_roundw
          case rel =>
            refine ⟨k + 1, by omega, HA', by go_num, ?_, hb3⟩
            rw [HT.out]
            simpa [intCells, numsOf] using hown'
          case measure => simp [intOf]; omega
        · have hn' : isNum x.data.toList = false := by simpa using hn
          clear hn
          have HF : Hid (¬ allNum (xs.take m) = true) := fun h => by
            unfold allNum at h
            rw [List.all_eq_true] at h
            have hm2 : x ∈ xs.take m := by
              have h1 : x ∈ xs.take (k + 1) := by rw [HT.out]; simp
              exact (List.take_sublist_take_left (by omega) |>.subset) h1
            have := h x hm2
            rw [hn'] at this
            exact absurd this (by simp)
          go_wp2_with (go_at_call 15; refine (number_any x _ (by omega) Gr).mono ?_; rintro e w2 ⟨rfl, hb2⟩)
          go_ret3
          refine ⟨below_step ((Below.refl _ _).alloc (Nat.le_refl _) _) (by simp) (below_step (hb.mono (by simp)) (Nat.le_trans (by simp) hb.size) hb2), .inl ⟨rfl, fun h => HF.out ?_⟩⟩
          have := h.2
          rw [if_pos rfl, HX.out] at this
          exact this
      · obtain rfl : k = m := by omega
        obtain ⟨x, hx⟩ : ∃ x, xs.getD k ByteArray.empty = x := ⟨_, rfl⟩
        have hck : wr.cell? ⟨w.heap.size, k, none⟩ = some (.string x) := by
          rw [hb.cell (p := ⟨w.heap.size, k, none⟩) (Nat.lt_succ_self _), Lib.cell_of_heap (heap_alloc_new _ _), hcells k hl3, hx]
        have HXX : Hid (xs.getD k ByteArray.empty = x) := hx
        clear hx
        have j1 : (k : Int) < (xs.length : Int) := by omega
        have j2 : (0 : Int) ≤ k := by omega
        go_wp2_with fail
        go_quiet (fail)
        go_wp2_with fail
        go_ret3
        refine ⟨below_step ((Below.refl _ _).alloc (Nat.le_refl _) _) (by simp) (hb.mono (by simp) |> fun h => below_drewN h _), .inr ⟨_, ?_, ?_, ret_vsb rfl ?_, ?_⟩⟩
        · rw [if_pos rfl, HX.out]; exact HL.out
        · rw [if_pos rfl, HX.out]; exact HA.out
        · rw [if_pos rfl, HX.out, HXX.out]
        · rw [if_pos rfl, HX.out]
          exact own_weak (ownsRow_drewN hown _) (Nat.le_succ _)
  · have hl1 : ((xs.length : Int) != (m : Int) + 1) = true := by rw [bne_iff_ne]; omega
    have HN : Hid (¬ xs.length = m + 1) := hl
    clear hl
    go_enter Tryd.func35, Tryd.ntmps35
    go_wp2_with (go_at_call 51; refine (splitN_new s (m + 1) _ hs (by omega) (by omega) G).mono ?_; rw [HX.out]; rintro e w1 ⟨cap, cells, rfl, rfl, hcap, hcap2, hcells⟩)
    go_ret3
    exact ⟨(Below.refl _ _).alloc (Nat.le_refl _) _, .inl ⟨rfl, fun h => HN.out (by have := h.1; rw [if_pos rfl, HX.out] at this; exact this)⟩⟩

set_option maxHeartbeats 1000000 in
set_option maxRecDepth 100000 in
theorem numbers_bare (s : ByteArray) (m : Nat) (w : World) (hs : s.size ≤ 4000000000) (h1 : 1 ≤ m) (hm : m ≤ 1000) (G : Glob w) :
    Calls Tryd.prog 35 #[.string s, .int .i64 m, .bool false] w (NumbersEnd s m false w) := by
  obtain ⟨xs, hxs⟩ : ∃ xs, wordsN m s = xs := ⟨_, rfl⟩
  have HX : Hid (wordsN m s = xs) := hxs
  clear hxs
  by_cases hl : xs.length = m
  · have hl1 : ((xs.length : Int) != (m : Int)) = false := by rw [bne_eq_false_iff_eq]; omega
    have hl2 : (m : Int) ≤ (xs.length : Int) := by omega
    have HL : Hid (xs.length = m) := hl
    have hl3 : m ≤ xs.length := by omega
    clear hl
    go_enter Tryd.func35, Tryd.ntmps35
    go_wp2_with (go_at_call 51; refine (splitN_new s m _ hs (by omega) (by omega) G).mono ?_; rw [HX.out]; rintro e w1 ⟨cap, cells, rfl, rfl, hcap, hcap2, hcells⟩)
    have G1 : Glob (w.alloc (Obj.cells cells 9)) := G.below ((Below.refl _ _).alloc (Nat.le_refl _) _)
    go_loopw [11, 31] (fun v i wr => ∃ (k : Nat), k ≤ m ∧ Hid (allNum (xs.take k) = true) ∧ i = .int .i64 k ∧ wr.ownsRow (w.heap.size + 1) 3 1 v k (intCells (numsOf (xs.take k))) ∧ Below (w.heap.size + 1) (w.alloc (Obj.cells cells 9)) wr) (fun _ i _ => m - (intOf i).toNat)
    case atStart => exact ⟨0, Nat.zero_le _, rfl, rfl, ⟨by simp [numsOf, intCells], .inl ⟨rfl, rfl⟩⟩, Below.refl _ _⟩
    case round =>
      obtain ⟨k, hk, HA, rfl, hown, hb⟩ := hrel
      by_cases hlt : k < m
      · obtain ⟨x, hx⟩ : ∃ x, xs.getD k ByteArray.empty = x := ⟨_, rfl⟩
        have hkx : k < xs.length := by omega
        have hck : wr.cell? ⟨w.heap.size, k, none⟩ = some (.string x) := by
          rw [hb.cell (p := ⟨w.heap.size, k, none⟩) (Nat.lt_succ_self _), Lib.cell_of_heap (heap_alloc_new _ _), hcells k hkx, hx]
        have htk : xs.take (k + 1) = xs.take k ++ [x] := by
          rw [List.take_succ_eq_append_getElem hkx, ← hx, List.getD_eq_getElem?_getD, List.getElem?_eq_getElem hkx]; rfl
        have HT : Hid (xs.take (k + 1) = xs.take k ++ [x]) := htk
        have hxs : x.size ≤ s.size := by
          rw [← hx, ← HX.out]
          exact wordsN_size _ _ _
        clear htk hx
        have Gr : Glob wr := G1.below (hb.mono (by simp))
        by_cases hn : isNum x.data.toList = true
        · have HA' : Hid (allNum (xs.take (k + 1)) = true) := by
            show allNum _ = true
            rw [HT.out]; unfold allNum; rw [List.all_append]; have := HA.out; unfold allNum at this; rw [this]; simp [hn]
          go_wp2_with (first
            | (go_at_call 15; refine (number_any x _ (by omega) Gr).mono ?_; rintro e w2 ⟨rfl, hb2⟩)
            | (at_builtin; refine app_one (B := w.heap.size + 1) (w0 := w.alloc (Obj.cells cells 9)) rfl _ _ 46 3 (.int .i64 0) 8 rfl Tryd.underlying46 info3 rfl (w.heap.size + 1) k _ (intCells (numsOf (xs.take k))) (.int .i64 (atoiNum x.data.toList)) rfl rfl rfl (own_stay hown hb2) (hb.trans (hb2.mono (Nat.le_trans (by simp) hb.size))) (Nat.le_refl _) (Nat.le_trans (Nat.le_trans (by simp) hb.size) hb2.size) (by omega) (by omega) ?_; intro v' w3 hown' hb3 _))
          go_roundw
          case rel =>
            refine ⟨k + 1, by omega, HA', by go_num, ?_, hb3⟩
            rw [HT.out]
            simpa [intCells, numsOf] using hown'
          case measure => simp [intOf]; omega
        · have hn' : isNum x.data.toList = false := by simpa using hn
          clear hn
          have HF : Hid (¬ allNum (xs.take m) = true) := fun h => by
            unfold allNum at h
            rw [List.all_eq_true] at h
            have hm2 : x ∈ xs.take m := by
              have h1 : x ∈ xs.take (k + 1) := by rw [HT.out]; simp
              exact (List.take_sublist_take_left (by omega) |>.subset) h1
            have := h x hm2
            rw [hn'] at this
            exact absurd this (by simp)
          go_wp2_with (go_at_call 15; refine (number_any x _ (by omega) Gr).mono ?_; rintro e w2 ⟨rfl, hb2⟩)
          go_ret3
          refine ⟨below_step ((Below.refl _ _).alloc (Nat.le_refl _) _) (by simp) (below_step (hb.mono (by simp)) (Nat.le_trans (by simp) hb.size) hb2), .inl ⟨rfl, fun h => HF.out ?_⟩⟩
          have := h.2
          rw [if_neg (by simp), HX.out] at this
          exact this
      · obtain rfl : k = m := by omega
        go_wp2_with fail
        go_ret3
        refine ⟨below_step ((Below.refl _ _).alloc (Nat.le_refl _) _) (by simp) (hb.mono (by simp)), .inr ⟨_, ?_, ?_, ret_vsb rfl ?_, ?_⟩⟩
        · rw [if_neg (by simp), HX.out]; exact HL.out
        · rw [if_neg (by simp), HX.out]; exact HA.out
        · rw [if_neg (by simp)]
        · rw [if_neg (by simp), HX.out]
          exact own_weak hown (Nat.le_succ _)
  · have hl1 : ((xs.length : Int) != (m : Int)) = true := by rw [bne_iff_ne]; omega
    have HN : Hid (¬ xs.length = m) := hl
    clear hl
    go_enter Tryd.func35, Tryd.ntmps35
    go_wp2_with (go_at_call 51; refine (splitN_new s m _ hs (by omega) (by omega) G).mono ?_; rw [HX.out]; rintro e w1 ⟨cap, cells, rfl, rfl, hcap, hcap2, hcells⟩)
    go_ret3
    exact ⟨(Below.refl _ _).alloc (Nat.le_refl _) _, .inl ⟨rfl, fun h => HN.out (by have := h.1; rw [if_neg (by simp), HX.out] at this; exact this)⟩⟩

end Go.Proofs.YthdecdhikjmggaaDoor
