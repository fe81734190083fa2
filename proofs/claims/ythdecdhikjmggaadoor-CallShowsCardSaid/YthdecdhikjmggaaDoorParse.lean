/- The contract of call.Parse. -/
import Derived.Test.YthdecdhikjmggaaDoorParts
set_option linter.unusedSimpArgs false
set_option linter.unusedVariables false
namespace Go.Proofs.YthdecdhikjmggaaDoor
open Go.RowKit

/-- What kinds of calls are called. -/
def nm : Nat → List UInt8
  | 0 => []
  | 1 => [108, 111, 111, 107, 117, 112]
  | 2 => [115, 116, 97, 116]
  | 3 => [114, 101, 97, 100, 108, 105, 110, 107]
  | 4 => [114, 101, 97, 100]
  | 5 => [111, 112, 101, 110]
  | 6 => [112, 97, 103, 101]
  | 7 => [99, 108, 111, 115, 101]
  | 8 => [97, 100, 100]
  | 9 => [114, 101, 109, 111, 118, 101]
  | _ => []

theorem names_at (k : Nat) (h : k < 10) : ∀ w, (Instr.index 64 namesV (.int .i64 k)).run Tryd.prog w = .ok (.string ⟨(nm k).toArray⟩) w := by
  intro w
  obtain rfl | rfl | rfl | rfl | rfl | rfl | rfl | rfl | rfl | rfl : k = 0 ∨ k = 1 ∨ k = 2 ∨ k = 3 ∨ k = 4 ∨ k = 5 ∨ k = 6 ∨ k = 7 ∨ k = 8 ∨ k = 9 := by omega
  all_goals kernel_rfl

/-- The last kind below k that is called so; 0: none. -/
def kindTo (w : List UInt8) : Nat → Nat
  | 0 => 0
  | k + 1 => if 0 < k ∧ nm k = w then k else kindTo w k
def kindOf (w : List UInt8) : Nat := kindTo w 10

theorem Glob.alloc {w : World} (h : Glob w) (o : Obj) : Glob (w.alloc o) := h.below ((Below.refl _ _).alloc (Nat.le_refl _) _)
theorem Glob.drewN {w : World} (h : Glob w) (n : Nat) : Glob (w.drewN n) := h.below (below_drewN (Below.refl _ _) n)

theorem cut_any (s : ByteArray) (w : World) (hs : s.size ≤ 4000000000) (G : Glob w) (a b : List UInt8) (f : Bool) (h : Lib.cut s.data.toList [32] = (a, b, f)) :
    Calls Tryd.prog 32 #[.string s, .string ⟨#[32]⟩] w fun e w' => e = .returned (.tuple #[.string ⟨a.toArray⟩, .string ⟨b.toArray⟩, .bool f]) ∧ ∃ n, w' = w.drewN n := by
  obtain ⟨mx, hmx⟩ := G.maxLen
  have := Tryd.strings_Cut s ⟨#[32]⟩ mx w (by omega) hmx
  rw [show (⟨#[32]⟩ : ByteArray).data.toList = [32] from rfl, h] at this
  exact this

/-- A call's cells. -/
def opC (kind : Int) (path : List UInt8) (off n id : Int) (image : List UInt8) : Array Value :=
  #[.int .i64 kind, .string ⟨path.toArray⟩, .int .i64 off, .int .i64 n, .int .i64 id, .string ⟨image.toArray⟩]

/-- A call. -/
structure Opx where
  kind : Int
  path : List UInt8
  off : Int
  n : Int
  id : Int
  image : List UInt8
  deriving DecidableEq
def Opx.zero : Opx := ⟨0, [], 0, 0, 0, []⟩
/-- A call as a value. -/
def opV (o : Opx) : Value := .agg (opC o.kind o.path o.off o.n o.id o.image)

/-- Block b of a world holds a call. -/
structure OpAt (w : World) (b : Nat) (kind : Int) (path : List UInt8) (off n id : Int) (image : List UInt8) : Prop where
  at_ : w.heap[b]? = some (.cells (opC kind path off n id image) 24 (0, 0))
section
variable {w : World} {b : Nat} {kind off n id : Int} {path image : List UInt8}
theorem OpAt.c0 (h : OpAt w b kind path off n id image) : w.cell? ⟨b, 0, none⟩ = some (.int .i64 kind) := by rw [Lib.cell_of_heap h.at_]; rfl
theorem OpAt.c1 (h : OpAt w b kind path off n id image) : w.cell? ⟨b, 1, none⟩ = some (.string ⟨path.toArray⟩) := by rw [Lib.cell_of_heap h.at_]; rfl
theorem OpAt.c2 (h : OpAt w b kind path off n id image) : w.cell? ⟨b, 2, none⟩ = some (.int .i64 off) := by rw [Lib.cell_of_heap h.at_]; rfl
theorem OpAt.c3 (h : OpAt w b kind path off n id image) : w.cell? ⟨b, 3, none⟩ = some (.int .i64 n) := by rw [Lib.cell_of_heap h.at_]; rfl
theorem OpAt.c4 (h : OpAt w b kind path off n id image) : w.cell? ⟨b, 4, none⟩ = some (.int .i64 id) := by rw [Lib.cell_of_heap h.at_]; rfl
theorem OpAt.c5 (h : OpAt w b kind path off n id image) : w.cell? ⟨b, 5, none⟩ = some (.string ⟨image.toArray⟩) := by rw [Lib.cell_of_heap h.at_]; rfl
theorem OpAt.fz (h : OpAt w b kind path off n id image) (j : Nat) : w.frozen? ⟨b, j, none⟩ = false := Lib.frozen_of_heap h.at_ j
theorem setCell_at {w : World} {b j : Nat} {cs : Array Value} {T : TypeId} {fr : Nat × Nat} (h : w.heap[b]? = some (.cells cs T fr)) (v : Value) :
    (w.setCell ⟨b, j, none⟩ v).heap[b]? = some (.cells (cs.setIfInBounds j v) T fr) := by
  simp [World.setCell, Array.getElem?_modify, h]
theorem OpAt.drew (h : OpAt w b kind path off n id image) : OpAt w.drew b kind path off n id image := ⟨h.at_⟩
theorem OpAt.lt (h : OpAt w b kind path off n id image) : b < w.heap.size := (Array.getElem?_eq_some_iff.1 h.at_).1
theorem OpAt.below {w' : World} (h : OpAt w b kind path off n id image) {B : Nat} (hb : Below B w w') (hB : b < B) : OpAt w' b kind path off n id image := ⟨(hb.block b hB).trans h.at_⟩
theorem OpAt.s0 (h : OpAt w b kind path off n id image) (x : Int) : OpAt (w.setCell ⟨b, 0, none⟩ (.int .i64 x)) b x path off n id image := ⟨setCell_at h.at_ _⟩
theorem OpAt.s1 (h : OpAt w b kind path off n id image) (x : List UInt8) : OpAt (w.setCell ⟨b, 1, none⟩ (.string ⟨x.toArray⟩)) b kind x off n id image := ⟨setCell_at h.at_ _⟩
theorem OpAt.s2 (h : OpAt w b kind path off n id image) (x : Int) : OpAt (w.setCell ⟨b, 2, none⟩ (.int .i64 x)) b kind path x n id image := ⟨setCell_at h.at_ _⟩
theorem OpAt.s3 (h : OpAt w b kind path off n id image) (x : Int) : OpAt (w.setCell ⟨b, 3, none⟩ (.int .i64 x)) b kind path off x id image := ⟨setCell_at h.at_ _⟩
theorem OpAt.s4 (h : OpAt w b kind path off n id image) (x : Int) : OpAt (w.setCell ⟨b, 4, none⟩ (.int .i64 x)) b kind path off n x image := ⟨setCell_at h.at_ _⟩
theorem OpAt.s5 (h : OpAt w b kind path off n id image) (x : List UInt8) : OpAt (w.setCell ⟨b, 5, none⟩ (.string ⟨x.toArray⟩)) b kind path off n id x := ⟨setCell_at h.at_ _⟩
end

theorem kindTo_le (w : List UInt8) : ∀ k, kindTo w k ≤ k
  | 0 => Nat.le_refl _
  | k + 1 => by
    rw [kindTo]
    split
    · omega
    · exact Nat.le_succ_of_le (kindTo_le w k)

/-- Are there just so many words, and are the first two numbers? -/
def TwoNums (n : Nat) (b : List UInt8) : Prop := (wordsN n ⟨b.toArray⟩).length = n ∧ allNum ((wordsN n ⟨b.toArray⟩).take 2) = true
def wordAt (n : Nat) (b : List UInt8) (k : Nat) : ByteArray := (wordsN n ⟨b.toArray⟩).getD k ByteArray.empty

set_option maxHeartbeats 2000000 in
set_option maxRecDepth 100000 in
theorem parse_uncut (s : ByteArray) (w : World) (hs : s.size ≤ 4000000000) (G : Glob w) (a b : List UInt8) (hcut : Lib.cut s.data.toList [32] = (a, b, false)) :
    Calls Tryd.prog 10 #[.string s] w fun e w' => e = .returned (.tuple #[opV Opx.zero, .bool false]) ∧ Below w.heap.size w w' := by
  have HC : Hid (Lib.cut s.data.toList [32] = (a, b, false)) := hcut
  clear hcut
  go_enter Tryd.func10, Tryd.ntmps10
  go_wp2_with (go_at_call 32; refine (cut_any s _ hs (G.alloc _) a b false HC.out).mono ?_; rintro e w1 ⟨rfl, n1, rfl⟩)
  exact bodyPost_ret (v := .tuple #[opV Opx.zero, .bool false]) (by simp [results, Tryd.results10, opV, opC, Opx.zero, go_sem]) rfl ⟨rfl, by repeat (first | with_reducible exact hb | with_reducible exact Below.refl _ _ | with_reducible refine Below.drew ?_ | with_reducible refine below_set ?_ _ _ _ (Nat.le_refl _) | with_reducible refine below_drewN ?_ _ | with_reducible refine below_al ?_ _)⟩


set_option maxHeartbeats 2000000 in
set_option maxRecDepth 100000 in
theorem parse_feed (s : ByteArray) (w : World) (hs : s.size ≤ 4000000000) (G : Glob w) (a b : List UInt8) (hcut : Lib.cut s.data.toList [32] = (a, b, true)) (hnl : decide (0 ≤ Lib.indexByte s.data.toList 10) = true) :
    Calls Tryd.prog 10 #[.string s] w fun e w' => e = .returned (.tuple #[opV Opx.zero, .bool false]) ∧ Below w.heap.size w w' := by
  have HC : Hid (Lib.cut s.data.toList [32] = (a, b, true)) := hcut
  clear hcut
  go_enter Tryd.func10, Tryd.ntmps10
  go_wp2_with (first
    | (go_at_call 32; refine (cut_any s _ hs (G.alloc _) a b true HC.out).mono ?_; rintro e w1 ⟨rfl, n1, rfl⟩)
    | (go_at_call 33; refine (Tryd.strings_Contains_one _ _ _).mono ?_; rintro e w1 ⟨rfl, rfl⟩)
    | (go_at_call 34; refine (names_any _).mono ?_; rintro e w1 ⟨rfl, hb1⟩))
  exact bodyPost_ret (v := .tuple #[opV Opx.zero, .bool false]) (by simp [results, Tryd.results10, opV, opC, Opx.zero, go_sem]) rfl ⟨rfl, by repeat (first | with_reducible exact hb | with_reducible exact Below.refl _ _ | with_reducible refine Below.drew ?_ | with_reducible refine below_set ?_ _ _ _ (Nat.le_refl _) | with_reducible refine below_drewN ?_ _ | with_reducible refine below_al ?_ _)⟩


set_option maxHeartbeats 2000000 in
set_option maxRecDepth 100000 in
theorem parse_none (s : ByteArray) (w : World) (hs : s.size ≤ 4000000000) (G : Glob w) (a b : List UInt8) (hcut : Lib.cut s.data.toList [32] = (a, b, true)) (hnl : decide (0 ≤ Lib.indexByte s.data.toList 10) = false) (hk0 : kindOf a = 0) :
    Calls Tryd.prog 10 #[.string s] w fun e w' => e = .returned (.tuple #[opV Opx.zero, .bool false]) ∧ Below w.heap.size w w' := by
  have HC : Hid (Lib.cut s.data.toList [32] = (a, b, true)) := hcut
  clear hcut
  go_enter Tryd.func10, Tryd.ntmps10
  go_wp2_with (first
    | (go_at_call 32; refine (cut_any s _ hs (G.alloc _) a b true HC.out).mono ?_; rintro e w1 ⟨rfl, n1, rfl⟩)
    | (go_at_call 33; refine (Tryd.strings_Contains_one _ _ _).mono ?_; rintro e w1 ⟨rfl, rfl⟩)
    | (go_at_call 34; refine (names_any _).mono ?_; rintro e w1 ⟨rfl, hb1⟩))
  have O1 : OpAt w1 w.heap.size 0 [] 0 0 0 [] := ⟨(hb1.block w.heap.size (by simp)).trans (heap_alloc_new w _)⟩
  have hb2 : Below w.heap.size w w1 := below_step (below_drewN ((Below.refl _ _).alloc (Nat.le_refl _) _) _) (by simp) hb1
  clear hb1
  go_loopw [24] (fun i wr => ∃ k : Nat, k ≤ 10 ∧ i = .int .i64 k ∧ OpAt wr w.heap.size (kindTo a k) [] 0 0 0 [] ∧ Below w.heap.size w wr) (fun i _ => 10 - (intOf i).toNat)
  case atStart => exact ⟨0, by omega, rfl, O1, hb2⟩
  case round =>
    obtain ⟨k, hk, rfl, O, hb⟩ := hrel
    have c0 := O.c0
    have f0 := O.fz 0
    by_cases hlt : k < 10
    · have hix := names_at k hlt
      by_cases h1 : 0 < k ∧ nm k = a
      · have HK : Hid (kindTo a (k + 1) = k) := by show _ = _; rw [kindTo, if_pos h1]
        have h2 : 0 < k := h1.1
        have h3 : (nm k == a) = true := by rw [beq_iff_eq]; exact h1.2
        clear h1
        go_wp2_with fail
        go_roundw
        case rel => exact ⟨k + 1, by omega, by go_num, by rw [HK.out]; exact O.s0 _, hb.setCell (p := ⟨w.heap.size, 0, none⟩) (Nat.le_refl _) _⟩
        case measure => simp [intOf]; omega
      · have HK : Hid (kindTo a (k + 1) = kindTo a k) := by show _ = _; rw [kindTo, if_neg h1]
        by_cases h2 : 0 < k
        · have h3 : (nm k == a) = false := by rw [beq_eq_false_iff_ne]; exact fun h => h1 ⟨h2, h⟩
          clear h1
          go_wp2_with fail
          go_roundw
          case rel => exact ⟨k + 1, by omega, by go_num, by rw [HK.out]; exact O, hb⟩
          case measure => simp [intOf]; omega
        · clear h1
          go_wp2_with fail
          go_roundw
          case rel => exact ⟨k + 1, by omega, by go_num, by rw [HK.out]; exact O, hb⟩
          case measure => simp [intOf]; omega
    · obtain rfl : k = 10 := by omega
      clear hlt hk
      rw [show kindTo a 10 = kindOf a from rfl] at O c0
      rw [hk0] at O c0
      clear hk0
      have c1 := O.c1
      have c2 := O.c2
      have c3 := O.c3
      have c4 := O.c4
      have c5 := O.c5
      have f1 := O.fz 1
      have f2 := O.fz 2
      have f3 := O.fz 3
      have f4 := O.fz 4
      have f5 := O.fz 5
      go_wp2_with fail
      exact bodyPost_ret (v := .tuple #[opV Opx.zero, .bool false]) (by simp [results, Tryd.results10, opV, opC, Opx.zero, go_sem, c0, c1, c2, c3, c4, c5, f0, f1, f2, f3, f4, f5]) rfl ⟨rfl, by repeat (first | with_reducible exact hb | with_reducible exact Below.refl _ _ | with_reducible refine Below.drew ?_ | with_reducible refine below_set ?_ _ _ _ (Nat.le_refl _) | with_reducible refine below_drewN ?_ _ | with_reducible refine below_al ?_ _)⟩


set_option maxHeartbeats 2000000 in
set_option maxRecDepth 100000 in
theorem parse_path (s : ByteArray) (w : World) (hs : s.size ≤ 4000000000) (G : Glob w) (a b : List UInt8) (hcut : Lib.cut s.data.toList [32] = (a, b, true)) (hnl : decide (0 ≤ Lib.indexByte s.data.toList 10) = false) (hk1 : kindOf a = 1 ∨ kindOf a = 2 ∨ kindOf a = 3 ∨ kindOf a = 5) :
    Calls Tryd.prog 10 #[.string s] w fun e w' => e = .returned (.tuple #[opV ⟨kindOf a, b, 0, 0, 0, []⟩, .bool true]) ∧ Below w.heap.size w w' := by
  have HC : Hid (Lib.cut s.data.toList [32] = (a, b, true)) := hcut
  clear hcut
  go_enter Tryd.func10, Tryd.ntmps10
  go_wp2_with (first
    | (go_at_call 32; refine (cut_any s _ hs (G.alloc _) a b true HC.out).mono ?_; rintro e w1 ⟨rfl, n1, rfl⟩)
    | (go_at_call 33; refine (Tryd.strings_Contains_one _ _ _).mono ?_; rintro e w1 ⟨rfl, rfl⟩)
    | (go_at_call 34; refine (names_any _).mono ?_; rintro e w1 ⟨rfl, hb1⟩))
  have O1 : OpAt w1 w.heap.size 0 [] 0 0 0 [] := ⟨(hb1.block w.heap.size (by simp)).trans (heap_alloc_new w _)⟩
  have hb2 : Below w.heap.size w w1 := below_step (below_drewN ((Below.refl _ _).alloc (Nat.le_refl _) _) _) (by simp) hb1
  clear hb1
  go_loopw [24] (fun i wr => ∃ k : Nat, k ≤ 10 ∧ i = .int .i64 k ∧ OpAt wr w.heap.size (kindTo a k) [] 0 0 0 [] ∧ Below w.heap.size w wr) (fun i _ => 10 - (intOf i).toNat)
  case atStart => exact ⟨0, by omega, rfl, O1, hb2⟩
  case round =>
    obtain ⟨k, hk, rfl, O, hb⟩ := hrel
    have c0 := O.c0
    have f0 := O.fz 0
    by_cases hlt : k < 10
    · have hix := names_at k hlt
      by_cases h1 : 0 < k ∧ nm k = a
      · have HK : Hid (kindTo a (k + 1) = k) := by show _ = _; rw [kindTo, if_pos h1]
        have h2 : 0 < k := h1.1
        have h3 : (nm k == a) = true := by rw [beq_iff_eq]; exact h1.2
        clear h1
        go_wp2_with fail
        go_roundw
        case rel => exact ⟨k + 1, by omega, by go_num, by rw [HK.out]; exact O.s0 _, hb.setCell (p := ⟨w.heap.size, 0, none⟩) (Nat.le_refl _) _⟩
        case measure => simp [intOf]; omega
      · have HK : Hid (kindTo a (k + 1) = kindTo a k) := by show _ = _; rw [kindTo, if_neg h1]
        by_cases h2 : 0 < k
        · have h3 : (nm k == a) = false := by rw [beq_eq_false_iff_ne]; exact fun h => h1 ⟨h2, h⟩
          clear h1
          go_wp2_with fail
          go_roundw
          case rel => exact ⟨k + 1, by omega, by go_num, by rw [HK.out]; exact O, hb⟩
          case measure => simp [intOf]; omega
        · clear h1
          go_wp2_with fail
          go_roundw
          case rel => exact ⟨k + 1, by omega, by go_num, by rw [HK.out]; exact O, hb⟩
          case measure => simp [intOf]; omega
    · obtain rfl : k = 10 := by omega
      clear hlt hk
      rw [show kindTo a 10 = kindOf a from rfl] at O c0
      obtain ⟨K, hK⟩ : ∃ K, kindOf a = K := ⟨_, rfl⟩
      rw [hK] at hk1 O c0
      have HK : Hid (kindOf a = K) := hK
      clear hK
      have c1 := O.c1
      have c2 := O.c2
      have c3 := O.c3
      have c4 := O.c4
      have c5 := O.c5
      have f1 := O.fz 1
      have f2 := O.fz 2
      have f3 := O.fz 3
      have f4 := O.fz 4
      have f5 := O.fz 5
      obtain rfl | rfl | rfl | rfl := hk1
      all_goals
        go_wp2_with fail
        rw [HK.out]
        exact bodyPost_ret (v := .tuple #[opV ⟨_, b, 0, 0, 0, []⟩, .bool true]) (by simp [results, Tryd.results10, opV, opC, go_sem, c0, c1, c2, c3, c4, c5]) rfl ⟨rfl, by repeat (first | with_reducible exact hb | with_reducible exact Below.refl _ _ | with_reducible refine Below.drew ?_ | with_reducible refine below_set ?_ _ _ _ (Nat.le_refl _) | with_reducible refine below_drewN ?_ _ | with_reducible refine below_al ?_ _)⟩

set_option maxHeartbeats 2000000 in
set_option maxRecDepth 100000 in
theorem parse_id (s : ByteArray) (w : World) (hs : s.size ≤ 4000000000) (G : Glob w) (a b : List UInt8) (hcut : Lib.cut s.data.toList [32] = (a, b, true)) (hnl : decide (0 ≤ Lib.indexByte s.data.toList 10) = false) (hk1 : kindOf a = 7 ∨ kindOf a = 9) (hbs : b.length ≤ 140737488355328) :
    Calls Tryd.prog 10 #[.string s] w fun e w' => (isNum b = true ∧ e = .returned (.tuple #[opV ⟨kindOf a, [], 0, 0, atoiNum b, []⟩, .bool true]) ∨ isNum b = false ∧ e = .returned (.tuple #[opV Opx.zero, .bool false])) ∧ Below w.heap.size w w' := by
  have HC : Hid (Lib.cut s.data.toList [32] = (a, b, true)) := hcut
  clear hcut
  go_enter Tryd.func10, Tryd.ntmps10
  go_wp2_with (first
    | (go_at_call 32; refine (cut_any s _ hs (G.alloc _) a b true HC.out).mono ?_; rintro e w1 ⟨rfl, n1, rfl⟩)
    | (go_at_call 33; refine (Tryd.strings_Contains_one _ _ _).mono ?_; rintro e w1 ⟨rfl, rfl⟩)
    | (go_at_call 34; refine (names_any _).mono ?_; rintro e w1 ⟨rfl, hb1⟩))
  have O1 : OpAt w1 w.heap.size 0 [] 0 0 0 [] := ⟨(hb1.block w.heap.size (by simp)).trans (heap_alloc_new w _)⟩
  have hb2 : Below w.heap.size w w1 := below_step (below_drewN ((Below.refl _ _).alloc (Nat.le_refl _) _) _) (by simp) hb1
  clear hb1
  go_loopw [24] (fun i wr => ∃ k : Nat, k ≤ 10 ∧ i = .int .i64 k ∧ OpAt wr w.heap.size (kindTo a k) [] 0 0 0 [] ∧ Below w.heap.size w wr) (fun i _ => 10 - (intOf i).toNat)
  case atStart => exact ⟨0, by omega, rfl, O1, hb2⟩
  case round =>
    obtain ⟨k, hk, rfl, O, hb⟩ := hrel
    have c0 := O.c0
    have f0 := O.fz 0
    by_cases hlt : k < 10
    · have hix := names_at k hlt
      by_cases h1 : 0 < k ∧ nm k = a
      · have HK : Hid (kindTo a (k + 1) = k) := by show _ = _; rw [kindTo, if_pos h1]
        have h2 : 0 < k := h1.1
        have h3 : (nm k == a) = true := by rw [beq_iff_eq]; exact h1.2
        clear h1
        go_wp2_with fail
        go_roundw
        case rel => exact ⟨k + 1, by omega, by go_num, by rw [HK.out]; exact O.s0 _, hb.setCell (p := ⟨w.heap.size, 0, none⟩) (Nat.le_refl _) _⟩
        case measure => simp [intOf]; omega
      · have HK : Hid (kindTo a (k + 1) = kindTo a k) := by show _ = _; rw [kindTo, if_neg h1]
        by_cases h2 : 0 < k
        · have h3 : (nm k == a) = false := by rw [beq_eq_false_iff_ne]; exact fun h => h1 ⟨h2, h⟩
          clear h1
          go_wp2_with fail
          go_roundw
          case rel => exact ⟨k + 1, by omega, by go_num, by rw [HK.out]; exact O, hb⟩
          case measure => simp [intOf]; omega
        · clear h1
          go_wp2_with fail
          go_roundw
          case rel => exact ⟨k + 1, by omega, by go_num, by rw [HK.out]; exact O, hb⟩
          case measure => simp [intOf]; omega
    · obtain rfl : k = 10 := by omega
      clear hlt hk
      rw [show kindTo a 10 = kindOf a from rfl] at O c0
      obtain ⟨K, hK⟩ : ∃ K, kindOf a = K := ⟨_, rfl⟩
      rw [hK] at hk1 O c0
      have HK : Hid (kindOf a = K) := hK
      clear hK
      have c1 := O.c1
      have c2 := O.c2
      have c3 := O.c3
      have c4 := O.c4
      have c5 := O.c5
      have f1 := O.fz 1
      have f2 := O.fz 2
      have f3 := O.fz 3
      have f4 := O.fz 4
      have f5 := O.fz 5
      have Gr := G.below hb
      obtain ⟨q, hq⟩ : ∃ q, isNum b = q := ⟨_, rfl⟩
      have HQ : Hid (isNum b = q) := hq
      clear hq
      cases q
      case false =>
        obtain rfl | rfl := hk1
        all_goals
          go_wp2_with (go_at_call 15; refine (number_any ⟨b.toArray⟩ _ (by simpa [ByteArray.size] using hbs) Gr).mono ?_; rw [show (⟨b.toArray⟩ : ByteArray).data.toList = b from rfl, HQ.out]; rintro e w2 ⟨rfl, hb2⟩; have O2 := O.below hb2 O.lt; have d0 := O2.c0; have d1 := O2.c1; have d2 := O2.c2; have d3 := O2.c3; have d4 := O2.c4; have d5 := O2.c5; have g0 := O2.fz 0; have g1 := O2.fz 1; have g2 := O2.fz 2; have g3 := O2.fz 3; have g4 := O2.fz 4; have g5 := O2.fz 5)
          have hb3 := below_step hb hb.size hb2
          exact bodyPost_ret (v := .tuple #[opV Opx.zero, .bool false]) (by simp [results, Tryd.results10, opV, opC, go_sem, Opx.zero, d0, d1, d2, d3, d4, d5]) rfl ⟨.inr ⟨HQ.out, rfl⟩, by repeat (first | with_reducible exact hb3 | with_reducible exact Below.refl _ _ | with_reducible refine Below.drew ?_ | with_reducible refine below_set ?_ _ _ _ (Nat.le_refl _) | with_reducible refine below_drewN ?_ _ | with_reducible refine below_al ?_ _)⟩
      case true =>
        obtain rfl | rfl := hk1
        all_goals
          go_wp2_with (go_at_call 15; refine (number_any ⟨b.toArray⟩ _ (by simpa [ByteArray.size] using hbs) Gr).mono ?_; rw [show (⟨b.toArray⟩ : ByteArray).data.toList = b from rfl, HQ.out]; rintro e w2 ⟨rfl, hb2⟩; have O2 := O.below hb2 O.lt; have d0 := O2.c0; have d1 := O2.c1; have d2 := O2.c2; have d3 := O2.c3; have d4 := O2.c4; have d5 := O2.c5; have g0 := O2.fz 0; have g1 := O2.fz 1; have g2 := O2.fz 2; have g3 := O2.fz 3; have g4 := O2.fz 4; have g5 := O2.fz 5)
          have hb3 := below_step hb hb.size hb2
          rw [HK.out]
          exact bodyPost_ret (v := .tuple #[opV ⟨_, [], 0, 0, atoiNum b, []⟩, .bool true]) (by simp [results, Tryd.results10, opV, opC, go_sem, d0, d1, d2, d3, d4, d5]) rfl ⟨.inl ⟨HQ.out, rfl⟩, by repeat (first | with_reducible exact hb3 | with_reducible exact Below.refl _ _ | with_reducible refine Below.drew ?_ | with_reducible refine below_set ?_ _ _ _ (Nat.le_refl _) | with_reducible refine below_drewN ?_ _ | with_reducible refine below_al ?_ _)⟩

set_option maxHeartbeats 2000000 in
set_option maxRecDepth 100000 in
theorem parse_image (s : ByteArray) (w : World) (hs : s.size ≤ 4000000000) (G : Glob w) (a b : List UInt8) (hcut : Lib.cut s.data.toList [32] = (a, b, true)) (hnl : decide (0 ≤ Lib.indexByte s.data.toList 10) = false) (hk1 : kindOf a = 8) (hbs : b.length ≤ 70000000000000) :
    Calls Tryd.prog 10 #[.string s] w fun e w' => ((bytesL b).2 = true ∧ e = .returned (.tuple #[opV ⟨8, [], 0, 0, 0, (bytesL b).1⟩, .bool true]) ∨ (bytesL b).2 = false ∧ e = .returned (.tuple #[opV Opx.zero, .bool false])) ∧ Below w.heap.size w w' := by
  have HC : Hid (Lib.cut s.data.toList [32] = (a, b, true)) := hcut
  clear hcut
  go_enter Tryd.func10, Tryd.ntmps10
  go_wp2_with (first
    | (go_at_call 32; refine (cut_any s _ hs (G.alloc _) a b true HC.out).mono ?_; rintro e w1 ⟨rfl, n1, rfl⟩)
    | (go_at_call 33; refine (Tryd.strings_Contains_one _ _ _).mono ?_; rintro e w1 ⟨rfl, rfl⟩)
    | (go_at_call 34; refine (names_any _).mono ?_; rintro e w1 ⟨rfl, hb1⟩))
  have O1 : OpAt w1 w.heap.size 0 [] 0 0 0 [] := ⟨(hb1.block w.heap.size (by simp)).trans (heap_alloc_new w _)⟩
  have hb2 : Below w.heap.size w w1 := below_step (below_drewN ((Below.refl _ _).alloc (Nat.le_refl _) _) _) (by simp) hb1
  clear hb1
  go_loopw [24] (fun i wr => ∃ k : Nat, k ≤ 10 ∧ i = .int .i64 k ∧ OpAt wr w.heap.size (kindTo a k) [] 0 0 0 [] ∧ Below w.heap.size w wr) (fun i _ => 10 - (intOf i).toNat)
  case atStart => exact ⟨0, by omega, rfl, O1, hb2⟩
  case round =>
    obtain ⟨k, hk, rfl, O, hb⟩ := hrel
    have c0 := O.c0
    have f0 := O.fz 0
    by_cases hlt : k < 10
    · have hix := names_at k hlt
      by_cases h1 : 0 < k ∧ nm k = a
      · have HK : Hid (kindTo a (k + 1) = k) := by show _ = _; rw [kindTo, if_pos h1]
        have h2 : 0 < k := h1.1
        have h3 : (nm k == a) = true := by rw [beq_iff_eq]; exact h1.2
        clear h1
        go_wp2_with fail
        go_roundw
        case rel => exact ⟨k + 1, by omega, by go_num, by rw [HK.out]; exact O.s0 _, hb.setCell (p := ⟨w.heap.size, 0, none⟩) (Nat.le_refl _) _⟩
        case measure => simp [intOf]; omega
      · have HK : Hid (kindTo a (k + 1) = kindTo a k) := by show _ = _; rw [kindTo, if_neg h1]
        by_cases h2 : 0 < k
        · have h3 : (nm k == a) = false := by rw [beq_eq_false_iff_ne]; exact fun h => h1 ⟨h2, h⟩
          clear h1
          go_wp2_with fail
          go_roundw
          case rel => exact ⟨k + 1, by omega, by go_num, by rw [HK.out]; exact O, hb⟩
          case measure => simp [intOf]; omega
        · clear h1
          go_wp2_with fail
          go_roundw
          case rel => exact ⟨k + 1, by omega, by go_num, by rw [HK.out]; exact O, hb⟩
          case measure => simp [intOf]; omega
    · obtain rfl : k = 10 := by omega
      clear hlt hk
      rw [show kindTo a 10 = kindOf a from rfl] at O c0
      obtain ⟨K, hK⟩ : ∃ K, kindOf a = K := ⟨_, rfl⟩
      rw [hK] at hk1 O c0
      have HK : Hid (kindOf a = K) := hK
      clear hK
      have c1 := O.c1
      have c2 := O.c2
      have c3 := O.c3
      have c4 := O.c4
      have c5 := O.c5
      have f1 := O.fz 1
      have f2 := O.fz 2
      have f3 := O.fz 3
      have f4 := O.fz 4
      have f5 := O.fz 5
      have Gr := G.below hb
      obtain ⟨bs, q, hq⟩ : ∃ bs q, bytesL b = (bs, q) := ⟨_, _, rfl⟩
      have HQ : Hid (bytesL b = (bs, q)) := hq
      clear hq
      subst hk1
      cases q
      case false =>
        all_goals
          go_wp2_with (go_at_call 13; refine (bytes_any ⟨b.toArray⟩ _ (by simpa [ByteArray.size] using hbs)).mono ?_; rw [show (⟨b.toArray⟩ : ByteArray).data.toList = b from rfl, HQ.out]; rintro e w2 ⟨rfl, hb2⟩; have O2 := O.below hb2 O.lt; have d0 := O2.c0; have d1 := O2.c1; have d2 := O2.c2; have d3 := O2.c3; have d4 := O2.c4; have d5 := O2.c5; have g0 := O2.fz 0; have g1 := O2.fz 1; have g2 := O2.fz 2; have g3 := O2.fz 3; have g4 := O2.fz 4; have g5 := O2.fz 5)
          have hb3 := below_step hb hb.size hb2
          exact bodyPost_ret (v := .tuple #[opV Opx.zero, .bool false]) (by simp [results, Tryd.results10, opV, opC, go_sem, Opx.zero, d0, d1, d2, d3, d4, d5]) rfl ⟨.inr ⟨by rw [HQ.out], rfl⟩, by repeat (first | with_reducible exact hb3 | with_reducible exact Below.refl _ _ | with_reducible refine Below.drew ?_ | with_reducible refine below_set ?_ _ _ _ (Nat.le_refl _) | with_reducible refine below_drewN ?_ _ | with_reducible refine below_al ?_ _)⟩
      case true =>
        all_goals
          go_wp2_with (go_at_call 13; refine (bytes_any ⟨b.toArray⟩ _ (by simpa [ByteArray.size] using hbs)).mono ?_; rw [show (⟨b.toArray⟩ : ByteArray).data.toList = b from rfl, HQ.out]; rintro e w2 ⟨rfl, hb2⟩; have O2 := O.below hb2 O.lt; have d0 := O2.c0; have d1 := O2.c1; have d2 := O2.c2; have d3 := O2.c3; have d4 := O2.c4; have d5 := O2.c5; have g0 := O2.fz 0; have g1 := O2.fz 1; have g2 := O2.fz 2; have g3 := O2.fz 3; have g4 := O2.fz 4; have g5 := O2.fz 5)
          have hb3 := below_step hb hb.size hb2
          exact bodyPost_ret (v := .tuple #[opV ⟨8, [], 0, 0, 0, bs⟩, .bool true]) (by simp [results, Tryd.results10, opV, opC, go_sem, d0, d1, d2, d3, d4, d5]) rfl ⟨.inl ⟨by rw [HQ.out], by rw [HQ.out]⟩, by repeat (first | with_reducible exact hb3 | with_reducible exact Below.refl _ _ | with_reducible refine Below.drew ?_ | with_reducible refine below_set ?_ _ _ _ (Nat.le_refl _) | with_reducible refine below_drewN ?_ _ | with_reducible refine below_al ?_ _)⟩

set_option maxHeartbeats 2000000 in
set_option maxRecDepth 100000 in
theorem parse_read (s : ByteArray) (w : World) (hs : s.size ≤ 4000000000) (G : Glob w) (a b : List UInt8) (hcut : Lib.cut s.data.toList [32] = (a, b, true)) (hnl : decide (0 ≤ Lib.indexByte s.data.toList 10) = false) (hk1 : kindOf a = 4) (hbs : b.length ≤ 4000000000) :
    Calls Tryd.prog 10 #[.string s] w fun e w' => (TwoNums 3 b ∧ e = .returned (.tuple #[opV ⟨4, (wordAt 3 b 2).data.toList, atoiNum (wordAt 3 b 0).data.toList, atoiNum (wordAt 3 b 1).data.toList, 0, []⟩, .bool true]) ∨ ¬ TwoNums 3 b ∧ e = .returned (.tuple #[opV Opx.zero, .bool false])) ∧ Below w.heap.size w w' := by
  have HC : Hid (Lib.cut s.data.toList [32] = (a, b, true)) := hcut
  clear hcut
  go_enter Tryd.func10, Tryd.ntmps10
  go_wp2_with (first
    | (go_at_call 32; refine (cut_any s _ hs (G.alloc _) a b true HC.out).mono ?_; rintro e w1 ⟨rfl, n1, rfl⟩)
    | (go_at_call 33; refine (Tryd.strings_Contains_one _ _ _).mono ?_; rintro e w1 ⟨rfl, rfl⟩)
    | (go_at_call 34; refine (names_any _).mono ?_; rintro e w1 ⟨rfl, hb1⟩))
  have O1 : OpAt w1 w.heap.size 0 [] 0 0 0 [] := ⟨(hb1.block w.heap.size (by simp)).trans (heap_alloc_new w _)⟩
  have hb2 : Below w.heap.size w w1 := below_step (below_drewN ((Below.refl _ _).alloc (Nat.le_refl _) _) _) (by simp) hb1
  clear hb1
  go_loopw [24] (fun i wr => ∃ k : Nat, k ≤ 10 ∧ i = .int .i64 k ∧ OpAt wr w.heap.size (kindTo a k) [] 0 0 0 [] ∧ Below w.heap.size w wr) (fun i _ => 10 - (intOf i).toNat)
  case atStart => exact ⟨0, by omega, rfl, O1, hb2⟩
  case round =>
    obtain ⟨k, hk, rfl, O, hb⟩ := hrel
    have c0 := O.c0
    have f0 := O.fz 0
    by_cases hlt : k < 10
    · have hix := names_at k hlt
      by_cases h1 : 0 < k ∧ nm k = a
      · have HK : Hid (kindTo a (k + 1) = k) := by show _ = _; rw [kindTo, if_pos h1]
        have h2 : 0 < k := h1.1
        have h3 : (nm k == a) = true := by rw [beq_iff_eq]; exact h1.2
        clear h1
        go_wp2_with fail
        go_roundw
        case rel => exact ⟨k + 1, by omega, by go_num, by rw [HK.out]; exact O.s0 _, hb.setCell (p := ⟨w.heap.size, 0, none⟩) (Nat.le_refl _) _⟩
        case measure => simp [intOf]; omega
      · have HK : Hid (kindTo a (k + 1) = kindTo a k) := by show _ = _; rw [kindTo, if_neg h1]
        by_cases h2 : 0 < k
        · have h3 : (nm k == a) = false := by rw [beq_eq_false_iff_ne]; exact fun h => h1 ⟨h2, h⟩
          clear h1
          go_wp2_with fail
          go_roundw
          case rel => exact ⟨k + 1, by omega, by go_num, by rw [HK.out]; exact O, hb⟩
          case measure => simp [intOf]; omega
        · clear h1
          go_wp2_with fail
          go_roundw
          case rel => exact ⟨k + 1, by omega, by go_num, by rw [HK.out]; exact O, hb⟩
          case measure => simp [intOf]; omega
    · obtain rfl : k = 10 := by omega
      clear hlt hk
      rw [show kindTo a 10 = kindOf a from rfl] at O c0
      obtain ⟨K, hK⟩ : ∃ K, kindOf a = K := ⟨_, rfl⟩
      rw [hK] at hk1 O c0
      have HK : Hid (kindOf a = K) := hK
      clear hK
      have c1 := O.c1
      have c2 := O.c2
      have c3 := O.c3
      have c4 := O.c4
      have c5 := O.c5
      have f1 := O.fz 1
      have f2 := O.fz 2
      have f3 := O.fz 3
      have f4 := O.fz 4
      have f5 := O.fz 5
      have Gr := G.below hb
      have hbs2 : (⟨b.toArray⟩ : ByteArray).size ≤ 4000000000 := by simpa [ByteArray.size] using hbs
      subst hk1
      go_wp2_with fail
      refine (numbers_rest ⟨b.toArray⟩ 2 _ hbs2 (by omega) Gr).mono ?_
      rintro e w2 ⟨hb2, hno | ⟨v, hlen, hall, rfl, hown⟩⟩
      · obtain ⟨rfl, hno⟩ := hno
        have O2 := O.below hb2 O.lt
        have d0 := O2.c0
        have d1 := O2.c1
        have d2 := O2.c2
        have d3 := O2.c3
        have d4 := O2.c4
        have d5 := O2.c5
        have g0 := O2.fz 0
        have g1 := O2.fz 1
        have g2 := O2.fz 2
        have g3 := O2.fz 3
        have g4 := O2.fz 4
        have g5 := O2.fz 5
        have hb3 := below_step hb hb.size hb2
        have HNO : Hid (¬ _) := hno
        clear hno
        go_wp2_with fail
        exact bodyPost_ret (v := .tuple #[opV Opx.zero, .bool false]) (by simp [results, Tryd.results10, opV, opC, go_sem, Opx.zero, d0, d1, d2, d3, d4, d5]) rfl ⟨.inr ⟨HNO.out, rfl⟩, by repeat (first | with_reducible exact hb3 | with_reducible exact Below.refl _ _ | with_reducible refine Below.drew ?_ | with_reducible refine below_set ?_ _ _ _ (Nat.le_refl _) | with_reducible refine below_drewN ?_ _ | with_reducible refine below_al ?_ _)⟩
      · obtain ⟨g, cap, rfl, hg1, hg2⟩ := hown.form (by decide)
        obtain ⟨x0, x1, x2, hx⟩ : ∃ x0 x1 x2, wordsN 3 ⟨b.toArray⟩ = [x0, x1, x2] := by
          match hm : wordsN 3 ⟨b.toArray⟩, (show (wordsN 3 ⟨b.toArray⟩).length = 3 from hlen) with
          | [x0, x1, x2], _ => exact ⟨x0, x1, x2, rfl⟩
        obtain ⟨l2, rfl⟩ : ∃ l2 : List UInt8, x2 = ⟨l2.toArray⟩ := ⟨x2.data.toList, by simp⟩
        have hT : TwoNums 3 b := ⟨hlen, hall⟩
        have HT : Hid (TwoNums 3 b) := hT
        clear hT
        simp only [if_true, Bool.false_eq_true, if_false, Nat.reduceAdd, hx, List.getD_cons_succ, List.getD_cons_zero]
        simp only [if_true, Bool.false_eq_true, if_false, Nat.reduceAdd, hx, List.take_succ_cons, List.take_zero, numsOf, intCells, List.map_cons, List.map_nil] at hown
        have k0 : w2.cell? ⟨g, 0, none⟩ = some (.int .i64 (atoiNum x0.data.toList)) := by simpa [Addr.add] using hown.cells (g := g) rfl 0 _ rfl
        have k1 : w2.cell? ⟨g, 1, none⟩ = some (.int .i64 (atoiNum x1.data.toList)) := by simpa [Addr.add] using hown.cells (g := g) rfl 1 _ rfl
        have hlt := O.lt
        have n1 : ¬ g = w.heap.size := by omega
        have n2 : ¬ w.heap.size = g := by omega
        have HX : Hid (wordsN 3 ⟨b.toArray⟩ = [x0, x1, ⟨l2.toArray⟩]) := hx
        clear hx hown hlen hall
        have O2 := O.below hb2 O.lt
        have d0 := O2.c0
        have d1 := O2.c1
        have d2 := O2.c2
        have d3 := O2.c3
        have d4 := O2.c4
        have d5 := O2.c5
        have g0 := O2.fz 0
        have g1 := O2.fz 1
        have g2 := O2.fz 2
        have g3 := O2.fz 3
        have g4 := O2.fz 4
        have g5 := O2.fz 5
        go_wp2_with fail
        go_region
        go_wp2_with fail
        have hb3 := below_step hb hb.size hb2
        have O9 := (((((((((O2.s1 l2).s2 (atoiNum x0.data.toList)).s3 (atoiNum x1.data.toList)).s0 4).s1 l2).s2 (atoiNum x0.data.toList)).s3 (atoiNum x1.data.toList)).s4 0).s5 []).drew
        have W0 : wordAt 3 b 0 = x0 := by unfold wordAt; rw [HX.out]; rfl
        have W1 : wordAt 3 b 1 = x1 := by unfold wordAt; rw [HX.out]; rfl
        have W2 : wordAt 3 b 2 = ⟨l2.toArray⟩ := by unfold wordAt; rw [HX.out]; rfl
        rw [W0, W1, W2]
        exact bodyPost_ret (v := .tuple #[opV ⟨4, l2, atoiNum x0.data.toList, atoiNum x1.data.toList, 0, []⟩, .bool true]) (by simp [results, Tryd.results10, opV, opC, go_sem, O9.c0, O9.c1, O9.c2, O9.c3, O9.c4, O9.c5]) rfl ⟨.inl ⟨HT.out, rfl⟩, by repeat (first | with_reducible exact hb3 | with_reducible exact Below.refl _ _ | with_reducible refine Below.drew ?_ | with_reducible refine below_set ?_ _ _ _ (Nat.le_refl _) | with_reducible refine below_drewN ?_ _ | with_reducible refine below_al ?_ _)⟩

set_option maxHeartbeats 2000000 in
set_option maxRecDepth 100000 in
theorem parse_page (s : ByteArray) (w : World) (hs : s.size ≤ 4000000000) (G : Glob w) (a b : List UInt8) (hcut : Lib.cut s.data.toList [32] = (a, b, true)) (hnl : decide (0 ≤ Lib.indexByte s.data.toList 10) = false) (hk1 : kindOf a = 6) (hbs : b.length ≤ 4000000000) :
    Calls Tryd.prog 10 #[.string s] w fun e w' => (TwoNums 2 b ∧ e = .returned (.tuple #[opV ⟨6, [], 0, atoiNum (wordAt 2 b 1).data.toList, atoiNum (wordAt 2 b 0).data.toList, []⟩, .bool true]) ∨ ¬ TwoNums 2 b ∧ e = .returned (.tuple #[opV Opx.zero, .bool false])) ∧ Below w.heap.size w w' := by
  have HC : Hid (Lib.cut s.data.toList [32] = (a, b, true)) := hcut
  clear hcut
  go_enter Tryd.func10, Tryd.ntmps10
  go_wp2_with (first
    | (go_at_call 32; refine (cut_any s _ hs (G.alloc _) a b true HC.out).mono ?_; rintro e w1 ⟨rfl, n1, rfl⟩)
    | (go_at_call 33; refine (Tryd.strings_Contains_one _ _ _).mono ?_; rintro e w1 ⟨rfl, rfl⟩)
    | (go_at_call 34; refine (names_any _).mono ?_; rintro e w1 ⟨rfl, hb1⟩))
  have O1 : OpAt w1 w.heap.size 0 [] 0 0 0 [] := ⟨(hb1.block w.heap.size (by simp)).trans (heap_alloc_new w _)⟩
  have hb2 : Below w.heap.size w w1 := below_step (below_drewN ((Below.refl _ _).alloc (Nat.le_refl _) _) _) (by simp) hb1
  clear hb1
  go_loopw [24] (fun i wr => ∃ k : Nat, k ≤ 10 ∧ i = .int .i64 k ∧ OpAt wr w.heap.size (kindTo a k) [] 0 0 0 [] ∧ Below w.heap.size w wr) (fun i _ => 10 - (intOf i).toNat)
  case atStart => exact ⟨0, by omega, rfl, O1, hb2⟩
  case round =>
    obtain ⟨k, hk, rfl, O, hb⟩ := hrel
    have c0 := O.c0
    have f0 := O.fz 0
    by_cases hlt : k < 10
    · have hix := names_at k hlt
      by_cases h1 : 0 < k ∧ nm k = a
      · have HK : Hid (kindTo a (k + 1) = k) := by show _ = _; rw [kindTo, if_pos h1]
        have h2 : 0 < k := h1.1
        have h3 : (nm k == a) = true := by rw [beq_iff_eq]; exact h1.2
        clear h1
        go_wp2_with fail
        go_roundw
        case rel => exact ⟨k + 1, by omega, by go_num, by rw [HK.out]; exact O.s0 _, hb.setCell (p := ⟨w.heap.size, 0, none⟩) (Nat.le_refl _) _⟩
        case measure => simp [intOf]; omega
      · have HK : Hid (kindTo a (k + 1) = kindTo a k) := by show _ = _; rw [kindTo, if_neg h1]
        by_cases h2 : 0 < k
        · have h3 : (nm k == a) = false := by rw [beq_eq_false_iff_ne]; exact fun h => h1 ⟨h2, h⟩
          clear h1
          go_wp2_with fail
          go_roundw
          case rel => exact ⟨k + 1, by omega, by go_num, by rw [HK.out]; exact O, hb⟩
          case measure => simp [intOf]; omega
        · clear h1
          go_wp2_with fail
          go_roundw
          case rel => exact ⟨k + 1, by omega, by go_num, by rw [HK.out]; exact O, hb⟩
          case measure => simp [intOf]; omega
    · obtain rfl : k = 10 := by omega
      clear hlt hk
      rw [show kindTo a 10 = kindOf a from rfl] at O c0
      obtain ⟨K, hK⟩ : ∃ K, kindOf a = K := ⟨_, rfl⟩
      rw [hK] at hk1 O c0
      have HK : Hid (kindOf a = K) := hK
      clear hK
      have c1 := O.c1
      have c2 := O.c2
      have c3 := O.c3
      have c4 := O.c4
      have c5 := O.c5
      have f1 := O.fz 1
      have f2 := O.fz 2
      have f3 := O.fz 3
      have f4 := O.fz 4
      have f5 := O.fz 5
      have Gr := G.below hb
      have hbs2 : (⟨b.toArray⟩ : ByteArray).size ≤ 4000000000 := by simpa [ByteArray.size] using hbs
      subst hk1
      go_wp2_with fail
      refine (numbers_bare ⟨b.toArray⟩ 2 _ hbs2 (by omega) (by omega) Gr).mono ?_
      rintro e w2 ⟨hb2, hno | ⟨v, hlen, hall, rfl, hown⟩⟩
      · obtain ⟨rfl, hno⟩ := hno
        have O2 := O.below hb2 O.lt
        have d0 := O2.c0
        have d1 := O2.c1
        have d2 := O2.c2
        have d3 := O2.c3
        have d4 := O2.c4
        have d5 := O2.c5
        have g0 := O2.fz 0
        have g1 := O2.fz 1
        have g2 := O2.fz 2
        have g3 := O2.fz 3
        have g4 := O2.fz 4
        have g5 := O2.fz 5
        have hb3 := below_step hb hb.size hb2
        have HNO : Hid (¬ _) := hno
        clear hno
        go_wp2_with fail
        exact bodyPost_ret (v := .tuple #[opV Opx.zero, .bool false]) (by simp [results, Tryd.results10, opV, opC, go_sem, Opx.zero, d0, d1, d2, d3, d4, d5]) rfl ⟨.inr ⟨HNO.out, rfl⟩, by repeat (first | with_reducible exact hb3 | with_reducible exact Below.refl _ _ | with_reducible refine Below.drew ?_ | with_reducible refine below_set ?_ _ _ _ (Nat.le_refl _) | with_reducible refine below_drewN ?_ _ | with_reducible refine below_al ?_ _)⟩
      · obtain ⟨g, cap, rfl, hg1, hg2⟩ := hown.form (by decide)
        obtain ⟨x0, x1, hx⟩ : ∃ x0 x1, wordsN 2 ⟨b.toArray⟩ = [x0, x1] := by
          match hm : wordsN 2 ⟨b.toArray⟩, (show (wordsN 2 ⟨b.toArray⟩).length = 2 from hlen) with
          | [x0, x1], _ => exact ⟨x0, x1, rfl⟩
        have hT : TwoNums 2 b := ⟨hlen, hall⟩
        have HT : Hid (TwoNums 2 b) := hT
        clear hT
        simp only [if_true, Bool.false_eq_true, if_false, Nat.reduceAdd, hx, List.getD_cons_succ, List.getD_cons_zero]
        simp only [if_true, Bool.false_eq_true, if_false, Nat.reduceAdd, hx, List.take_succ_cons, List.take_zero, numsOf, intCells, List.map_cons, List.map_nil] at hown
        have k0 : w2.cell? ⟨g, 0, none⟩ = some (.int .i64 (atoiNum x0.data.toList)) := by simpa [Addr.add] using hown.cells (g := g) rfl 0 _ rfl
        have k1 : w2.cell? ⟨g, 1, none⟩ = some (.int .i64 (atoiNum x1.data.toList)) := by simpa [Addr.add] using hown.cells (g := g) rfl 1 _ rfl
        have hlt := O.lt
        have n1 : ¬ g = w.heap.size := by omega
        have n2 : ¬ w.heap.size = g := by omega
        have HX : Hid (wordsN 2 ⟨b.toArray⟩ = [x0, x1]) := hx
        clear hx hown hlen hall
        have O2 := O.below hb2 O.lt
        have d0 := O2.c0
        have d1 := O2.c1
        have d2 := O2.c2
        have d3 := O2.c3
        have d4 := O2.c4
        have d5 := O2.c5
        have g0 := O2.fz 0
        have g1 := O2.fz 1
        have g2 := O2.fz 2
        have g3 := O2.fz 3
        have g4 := O2.fz 4
        have g5 := O2.fz 5
        go_wp2_with fail
        go_region
        go_wp2_with fail
        have hb3 := below_step hb hb.size hb2
        have O9 := ((((((((O2.s4 (atoiNum x0.data.toList)).s3 (atoiNum x1.data.toList)).s0 6).s1 []).s2 0).s3 (atoiNum x1.data.toList)).s4 (atoiNum x0.data.toList)).s5 []).drew
        have W0 : wordAt 2 b 0 = x0 := by unfold wordAt; rw [HX.out]; rfl
        have W1 : wordAt 2 b 1 = x1 := by unfold wordAt; rw [HX.out]; rfl
        rw [W0, W1]
        exact bodyPost_ret (v := .tuple #[opV ⟨6, [], 0, atoiNum x1.data.toList, atoiNum x0.data.toList, []⟩, .bool true]) (by simp [results, Tryd.results10, opV, opC, go_sem, O9.c0, O9.c1, O9.c2, O9.c3, O9.c4, O9.c5]) rfl ⟨.inl ⟨HT.out, rfl⟩, by repeat (first | with_reducible exact hb3 | with_reducible exact Below.refl _ _ | with_reducible refine Below.drew ?_ | with_reducible refine below_set ?_ _ _ _ (Nat.le_refl _) | with_reducible refine below_drewN ?_ _ | with_reducible refine below_al ?_ _)⟩

instance (n : Nat) (b : List UInt8) : Decidable (TwoNums n b) := inferInstanceAs (Decidable (_ ∧ _))

/-- What a line asks for, if anything. -/
def parseL (l : List UInt8) : Option Opx :=
  if (Lib.cut l [32]).2.2 = false ∨ 0 ≤ Lib.indexByte l 10 then none
  else if kindOf (Lib.cut l [32]).1 = 0 then none
  else if kindOf (Lib.cut l [32]).1 = 4 then
    if TwoNums 3 (Lib.cut l [32]).2.1 then some ⟨4, (wordAt 3 (Lib.cut l [32]).2.1 2).data.toList, atoiNum (wordAt 3 (Lib.cut l [32]).2.1 0).data.toList, atoiNum (wordAt 3 (Lib.cut l [32]).2.1 1).data.toList, 0, []⟩ else none
  else if kindOf (Lib.cut l [32]).1 = 6 then
    if TwoNums 2 (Lib.cut l [32]).2.1 then some ⟨6, [], 0, atoiNum (wordAt 2 (Lib.cut l [32]).2.1 1).data.toList, atoiNum (wordAt 2 (Lib.cut l [32]).2.1 0).data.toList, []⟩ else none
  else if kindOf (Lib.cut l [32]).1 = 7 ∨ kindOf (Lib.cut l [32]).1 = 9 then
    if isNum (Lib.cut l [32]).2.1 then some ⟨kindOf (Lib.cut l [32]).1, [], 0, 0, atoiNum (Lib.cut l [32]).2.1, []⟩ else none
  else if kindOf (Lib.cut l [32]).1 = 8 then
    if (bytesL (Lib.cut l [32]).2.1).2 then some ⟨8, [], 0, 0, 0, (bytesL (Lib.cut l [32]).2.1).1⟩ else none
  else some ⟨kindOf (Lib.cut l [32]).1, (Lib.cut l [32]).2.1, 0, 0, 0, []⟩

/-- What Parse answers. -/
def parseV (o : Option Opx) : Value := .tuple #[opV (o.getD Opx.zero), .bool o.isSome]

theorem cut_length (l m : List UInt8) : (Lib.cut l m).2.1.length ≤ l.length := by
  unfold Lib.cut
  split
  · simp only [List.length_drop]; omega
  · simp

theorem kindOf_le (w : List UInt8) : kindOf w ≤ 9 := by
  have h : ∀ k, kindTo w (k + 1) ≤ k := by
    intro k
    induction k with
    | zero => rw [kindTo]; split <;> simp [kindTo]
    | succ k ih =>
      rw [kindTo]
      split
      · exact Nat.le_refl _
      · exact Nat.le_succ_of_le ih
  exact h 9

theorem parse_any (s : ByteArray) (w : World) (hs : s.size ≤ 4000000000) (G : Glob w) :
    Calls Tryd.prog 10 #[.string s] w fun e w' => e = .returned (parseV (parseL s.data.toList)) ∧ Below w.heap.size w w' := by
  obtain ⟨a, b, f, hcut⟩ : ∃ a b f, Lib.cut s.data.toList [32] = (a, b, f) := ⟨_, _, _, rfl⟩
  have hbl : b.length ≤ 4000000000 := by
    have := cut_length s.data.toList [32]
    rw [hcut, size_data] at this
    exact Nat.le_trans this hs
  unfold parseL
  simp only [hcut]
  cases f with
  | false =>
    rw [if_pos (.inl rfl)]
    exact parse_uncut s w hs G a b hcut
  | true =>
    by_cases hn : 0 ≤ Lib.indexByte s.data.toList 10
    · rw [if_pos (.inr hn)]
      exact parse_feed s w hs G a b hcut (by simpa using hn)
    · have hn' : decide (0 ≤ Lib.indexByte s.data.toList 10) = false := by simpa using hn
      rw [if_neg (by simp [hn])]
      by_cases k0 : kindOf a = 0
      · rw [if_pos k0]; exact parse_none s w hs G a b hcut hn' k0
      rw [if_neg k0]
      by_cases k4 : kindOf a = 4
      · rw [if_pos k4]
        refine (parse_read s w hs G a b hcut hn' k4 hbl).mono ?_
        rintro e w' ⟨⟨ht, rfl⟩ | ⟨ht, rfl⟩, hb⟩
        · rw [if_pos ht]; exact ⟨rfl, hb⟩
        · rw [if_neg ht]; exact ⟨rfl, hb⟩
      rw [if_neg k4]
      by_cases k6 : kindOf a = 6
      · rw [if_pos k6]
        refine (parse_page s w hs G a b hcut hn' k6 hbl).mono ?_
        rintro e w' ⟨⟨ht, rfl⟩ | ⟨ht, rfl⟩, hb⟩
        · rw [if_pos ht]; exact ⟨rfl, hb⟩
        · rw [if_neg ht]; exact ⟨rfl, hb⟩
      rw [if_neg k6]
      by_cases k7 : kindOf a = 7 ∨ kindOf a = 9
      · rw [if_pos k7]
        refine (parse_id s w hs G a b hcut hn' k7 (by omega)).mono ?_
        rintro e w' ⟨⟨ht, rfl⟩ | ⟨ht, rfl⟩, hb⟩
        · rw [if_pos ht]; exact ⟨rfl, hb⟩
        · rw [if_neg (by simp [ht])]; exact ⟨rfl, hb⟩
      rw [if_neg k7]
      by_cases k8 : kindOf a = 8
      · rw [if_pos k8]
        refine (parse_image s w hs G a b hcut hn' k8 (by omega)).mono ?_
        rintro e w' ⟨⟨ht, rfl⟩ | ⟨ht, rfl⟩, hb⟩
        · rw [if_pos ht]; exact ⟨rfl, hb⟩
        · rw [if_neg (by simp [ht])]; exact ⟨rfl, hb⟩
      rw [if_neg k8]
      refine (parse_path s w hs G a b hcut hn' ?_).mono fun e w' h => h
      have := kindOf_le a
      omega

end Go.Proofs.YthdecdhikjmggaaDoor
