/- The contract of the reference's Only. -/
import Derived.Test.YthdecdhikjmggaaDoorParse
set_option linter.unusedSimpArgs false
set_option linter.unusedVariables false
namespace Go.Proofs.YthdecdhikjmggaaDoor
open Go.RowKit

/-- Is nothing set but what its kind needs, and is there no line feed in its path? -/
def onlyL (o : Opx) : Bool :=
  !(o.path.contains 10) &&
  (if o.kind = 1 ∨ o.kind = 2 ∨ o.kind = 3 ∨ o.kind = 5 then o.off == 0 && (o.n == 0 && (o.id == 0 && o.image == []))
   else if o.kind = 4 then o.id == 0 && o.image == []
   else if o.kind = 6 then o.path == [] && (o.off == 0 && o.image == [])
   else if o.kind = 7 ∨ o.kind = 9 then o.path == [] && (o.off == 0 && (o.n == 0 && o.image == []))
   else if o.kind = 8 then o.path == [] && (o.off == 0 && (o.n == 0 && o.id == 0))
   else false)

theorem ret_b {a b : Bool} (h : a = b) : Ending.returned (.bool a) = Ending.returned (.bool b) := by rw [h]
def OnlyEnds (o : Opx) (w : World) (e : Ending) (w' : World) : Prop := e = .returned (.bool (onlyL o)) ∧ Below w.heap.size w w'

set_option maxHeartbeats 4000000 in
set_option maxRecDepth 100000 in
theorem only_walk (kind off n id : Int) (path image : List UInt8) (w : World) (hp : path.length ≤ 4000000000) :
    Calls Tryd.prog 11 #[.agg #[.int .i64 kind, .string ⟨path.toArray⟩, .int .i64 off, .int .i64 n, .int .i64 id, .string ⟨image.toArray⟩]] w (OnlyEnds ⟨kind, path, off, n, id, image⟩ w) := by
  have hps : (⟨path.toArray⟩ : ByteArray).size = path.length := by simp [ByteArray.size]
  obtain ⟨P, hP⟩ : ∃ P : ByteArray, P = ⟨path.toArray⟩ := ⟨_, rfl⟩
  have hPd : P.data.toList = path := by rw [hP]
  have HPD : Hid (P.data.toList = path) := hPd
  rw [← hP] at hps ⊢
  have HPS : Hid (P.size = path.length) := hps
  have hb0 : P.size ≤ 4000000000 := by omega
  clear hP hPd hps hp
  go_enter Tryd.func11, Tryd.ntmps11
  go_wp2_with fail
  have O0 : (w.alloc (.cells #[.int .i64 kind, .string P, .int .i64 off, .int .i64 n, .int .i64 id, .string ⟨image.toArray⟩] 24)).heap[w.heap.size]? = some (.cells #[.int .i64 kind, .string P, .int .i64 off, .int .i64 n, .int .i64 id, .string ⟨image.toArray⟩] 24 (0, 0)) := heap_alloc_new _ _
  have hbW : Below w.heap.size w (w.alloc (.cells #[.int .i64 kind, .string P, .int .i64 off, .int .i64 n, .int .i64 id, .string ⟨image.toArray⟩] 24)) := below_al (Below.refl _ _) _
  generalize w.alloc (.cells #[.int .i64 kind, .string P, .int .i64 off, .int .i64 n, .int .i64 id, .string ⟨image.toArray⟩] 24) = w1 at O0 hbW ⊢
  have c0 : w1.cell? ⟨w.heap.size, 0, none⟩ = some (.int .i64 kind) := by rw [Lib.cell_of_heap O0]; rfl
  have c1 : w1.cell? ⟨w.heap.size, 1, none⟩ = some (.string P) := by rw [Lib.cell_of_heap O0]; rfl
  have c2 : w1.cell? ⟨w.heap.size, 2, none⟩ = some (.int .i64 off) := by rw [Lib.cell_of_heap O0]; rfl
  have c3 : w1.cell? ⟨w.heap.size, 3, none⟩ = some (.int .i64 n) := by rw [Lib.cell_of_heap O0]; rfl
  have c4 : w1.cell? ⟨w.heap.size, 4, none⟩ = some (.int .i64 id) := by rw [Lib.cell_of_heap O0]; rfl
  have c5 : w1.cell? ⟨w.heap.size, 5, none⟩ = some (.string ⟨image.toArray⟩) := by rw [Lib.cell_of_heap O0]; rfl
  clear O0
  go_loop [3] (fun i => ∃ k : Nat, k ≤ P.size ∧ i = .int .i64 k ∧ Hid (∀ j (h : j < P.size), j < k → P[j] ≠ 10)) (fun i => P.size - (intOf i).toNat)
  case atStart => exact ⟨0, by omega, rfl, fun j _ hj => absurd hj (by omega)⟩
  case round =>
    obtain ⟨k, hk, rfl, HN⟩ := hrel
    by_cases hlt : k < P.size
    · by_cases hten : P[k] = 10
      · have h10 : ((P[k].toNat : Int) == 10) = true := by rw [hten]; rfl
        have HO : Hid (onlyL ⟨kind, path, off, n, id, image⟩ = false) := by
          show _ = _
          have : path.contains 10 = true := by
            rw [← HPD.out, List.contains_iff_mem, ← hten]
            exact Array.mem_toList_iff.2 (Array.getElem_mem hlt)
          unfold onlyL
          simp only [this]; rfl
        go_wp2_with fail
        go_ret
        exact ⟨by rw [HO.out]; rfl, hbW⟩
      · have h10 : ((P[k].toNat : Int) == 10) = false := by
          rw [beq_eq_false_iff_ne]; intro h; apply hten; apply UInt8.toNat_inj.1; simp; omega
        go_wp2_with fail
        go_round
        case rel =>
          refine ⟨k + 1, by omega, by go_num, fun j h hj => ?_⟩
          rcases Nat.lt_or_ge j k with h1 | h1
          · exact HN.out j h h1
          · obtain rfl : j = k := by omega
            exact hten
        case measure => simp [intOf]; omega
    · have hnc : ¬ (10 : UInt8) ∈ path := by
        intro h
        rw [← HPD.out] at h
        obtain ⟨j, hj, he⟩ := List.getElem_of_mem h
        rw [size_data] at hj
        exact HN.out j hj (by omega) he
      have HC : Hid (¬ (10 : UInt8) ∈ path) := hnc
      have hpe : (P.toList == ([] : List UInt8)) = (path == []) := by rw [ByteArray.toList_eq, HPD.out]
      clear hnc HN
      by_cases k1 : kind = 1
      · subst k1
        go_wp2_with fail
        all_goals (go_ret; refine ⟨ret_b ?_, hbW⟩; have hc : ¬ (10 : UInt8) ∈ path := HC.out; first | (simp [onlyL, hc]; done) | (simp [onlyL, hc, ‹¬ off = 0›]; done) | (simp [onlyL, hc, ‹¬ n = 0›]; done) | (simp [onlyL, hc, ‹¬ id = 0›]; done) | (simp [onlyL, hc, ‹¬ path = []›]; done))
      by_cases k2 : kind = 2
      · subst k2
        go_wp2_with fail
        all_goals (go_ret; refine ⟨ret_b ?_, hbW⟩; have hc : ¬ (10 : UInt8) ∈ path := HC.out; first | (simp [onlyL, hc]; done) | (simp [onlyL, hc, ‹¬ off = 0›]; done) | (simp [onlyL, hc, ‹¬ n = 0›]; done) | (simp [onlyL, hc, ‹¬ id = 0›]; done) | (simp [onlyL, hc, ‹¬ path = []›]; done))
      by_cases k3 : kind = 3
      · subst k3
        go_wp2_with fail
        all_goals (go_ret; refine ⟨ret_b ?_, hbW⟩; have hc : ¬ (10 : UInt8) ∈ path := HC.out; first | (simp [onlyL, hc]; done) | (simp [onlyL, hc, ‹¬ off = 0›]; done) | (simp [onlyL, hc, ‹¬ n = 0›]; done) | (simp [onlyL, hc, ‹¬ id = 0›]; done) | (simp [onlyL, hc, ‹¬ path = []›]; done))
      by_cases k5 : kind = 5
      · subst k5
        go_wp2_with fail
        all_goals (go_ret; refine ⟨ret_b ?_, hbW⟩; have hc : ¬ (10 : UInt8) ∈ path := HC.out; first | (simp [onlyL, hc]; done) | (simp [onlyL, hc, ‹¬ off = 0›]; done) | (simp [onlyL, hc, ‹¬ n = 0›]; done) | (simp [onlyL, hc, ‹¬ id = 0›]; done) | (simp [onlyL, hc, ‹¬ path = []›]; done))
      by_cases k4 : kind = 4
      · subst k4
        go_wp2_with fail
        all_goals (go_ret; refine ⟨ret_b ?_, hbW⟩; have hc : ¬ (10 : UInt8) ∈ path := HC.out; first | (simp [onlyL, hc]; done) | (simp [onlyL, hc, ‹¬ off = 0›]; done) | (simp [onlyL, hc, ‹¬ n = 0›]; done) | (simp [onlyL, hc, ‹¬ id = 0›]; done) | (simp [onlyL, hc, ‹¬ path = []›]; done))
      by_cases k6 : kind = 6
      · subst k6
        go_wp2_with fail
        all_goals (go_ret; refine ⟨ret_b ?_, hbW⟩; have hc : ¬ (10 : UInt8) ∈ path := HC.out; first | (simp [onlyL, hc]; done) | (simp [onlyL, hc, ‹¬ off = 0›]; done) | (simp [onlyL, hc, ‹¬ n = 0›]; done) | (simp [onlyL, hc, ‹¬ id = 0›]; done) | (simp [onlyL, hc, ‹¬ path = []›]; done))
      by_cases k7 : kind = 7
      · subst k7
        go_wp2_with fail
        all_goals (go_ret; refine ⟨ret_b ?_, hbW⟩; have hc : ¬ (10 : UInt8) ∈ path := HC.out; first | (simp [onlyL, hc]; done) | (simp [onlyL, hc, ‹¬ off = 0›]; done) | (simp [onlyL, hc, ‹¬ n = 0›]; done) | (simp [onlyL, hc, ‹¬ id = 0›]; done) | (simp [onlyL, hc, ‹¬ path = []›]; done))
      by_cases k9 : kind = 9
      · subst k9
        go_wp2_with fail
        all_goals (go_ret; refine ⟨ret_b ?_, hbW⟩; have hc : ¬ (10 : UInt8) ∈ path := HC.out; first | (simp [onlyL, hc]; done) | (simp [onlyL, hc, ‹¬ off = 0›]; done) | (simp [onlyL, hc, ‹¬ n = 0›]; done) | (simp [onlyL, hc, ‹¬ id = 0›]; done) | (simp [onlyL, hc, ‹¬ path = []›]; done))
      by_cases k8 : kind = 8
      · subst k8
        go_wp2_with fail
        all_goals (go_ret; refine ⟨ret_b ?_, hbW⟩; have hc : ¬ (10 : UInt8) ∈ path := HC.out; first | (simp [onlyL, hc]; done) | (simp [onlyL, hc, ‹¬ off = 0›]; done) | (simp [onlyL, hc, ‹¬ n = 0›]; done) | (simp [onlyL, hc, ‹¬ id = 0›]; done) | (simp [onlyL, hc, ‹¬ path = []›]; done))
      go_wp2_with fail
      all_goals (go_ret; refine ⟨ret_b ?_, hbW⟩; have hc : ¬ (10 : UInt8) ∈ path := HC.out; simp [onlyL, hc, k1, k2, k3, k4, k5, k6, k7, k8, k9])
end Go.Proofs.YthdecdhikjmggaaDoor
