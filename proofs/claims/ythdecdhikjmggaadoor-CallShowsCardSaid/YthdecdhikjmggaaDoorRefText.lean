/- The contract of the reference's Text. -/
import Derived.Test.YthdecdhikjmggaaDoorRefHex
import Derived.Deep.RegionHeld3
set_option linter.unusedSimpArgs false
set_option linter.unusedVariables false
namespace Go.Proofs.YthdecdhikjmggaaDoor
open Go.RowKit

set_option maxHeartbeats 2000000 in
set_option maxRecDepth 100000 in
theorem reftext_path (off n id : Int) (path image : List UInt8) (w : World) (k : Nat) (hk : k = 1 ∨ k = 2 ∨ k = 3 ∨ k = 5) (hp : path.length ≤ 4000000000) :
    Calls Tryd.prog 12 #[.agg #[.int .i64 k, .string ⟨path.toArray⟩, .int .i64 off, .int .i64 n, .int .i64 id, .string ⟨image.toArray⟩]] w fun e w' => e = .returned (.string ⟨(nm k ++ [32] ++ path).toArray⟩) ∧ Below w.heap.size w w' := by
  have hk1 : 1 ≤ k := by omega
  have hk10 : k < 10 := by omega
  have hnl : (nm k).length ≤ 8 := nm_length _
  have hns : ¬ 9223372036854775807 < (nm k).length + 1 := by omega
  go_enter Tryd.func12, Tryd.ntmps12
  go_wp2_with (go_at_call 36; refine (name_any k _ (by omega) (by omega)).mono ?_; rintro e w1 ⟨rfl, rfl⟩)
  have O1 : OpAt (w.alloc (.cells #[.int .i64 k, .string ⟨path.toArray⟩, .int .i64 off, .int .i64 n, .int .i64 id, .string ⟨image.toArray⟩] 24)) w.heap.size k path off n id image := ⟨heap_alloc_new _ _⟩
  have hbW : Below w.heap.size w (w.alloc (.cells #[.int .i64 k, .string ⟨path.toArray⟩, .int .i64 off, .int .i64 n, .int .i64 id, .string ⟨image.toArray⟩] 24)) := below_al (Below.refl _ _) _
  generalize w.alloc (.cells #[.int .i64 k, .string ⟨path.toArray⟩, .int .i64 off, .int .i64 n, .int .i64 id, .string ⟨image.toArray⟩] 24) = w1 at O1 hbW ⊢
  have d1 := O1.c1
  have k4 : ¬ (k : Int) = 4 := by omega
  have k6 : ¬ (k : Int) = 6 := by omega
  have k7 : ¬ (k : Int) = 7 := by omega
  have k8 : ¬ (k : Int) = 8 := by omega
  have k9 : ¬ (k : Int) = 9 := by omega
  have hpl : ¬ 9223372036854775807 < (nm k).length + 1 + path.length := by omega
  go_wp2_with fail
  go_ret
  exact ⟨ret_str (by show (⟨(nm k).toArray⟩ : ByteArray) ++ ⟨[32].toArray⟩ ++ ⟨path.toArray⟩ = _; rw [cat, cat]), hbW⟩

set_option maxHeartbeats 2000000 in
set_option maxRecDepth 100000 in
theorem reftext_id7 (off n id : Int) (path image : List UInt8) (w : World) (hid : -9223372036854775808 ≤ id ∧ id ≤ 9223372036854775807) (hp : path.length ≤ 4000000000) :
    Calls Tryd.prog 12 #[.agg #[.int .i64 7, .string ⟨path.toArray⟩, .int .i64 off, .int .i64 n, .int .i64 id, .string ⟨image.toArray⟩]] w fun e w' => e = .returned (.string ⟨(nm 7 ++ [32] ++ Lib.itoa id).toArray⟩) ∧ Below w.heap.size w w' := by
  have hnl : (nm 7).length ≤ 8 := nm_length _
  have hns : ¬ 9223372036854775807 < (nm 7).length + 1 := by omega
  go_enter Tryd.func12, Tryd.ntmps12
  go_wp2_with (go_at_call 36; refine (name_any 7 _ (by omega) (by omega)).mono ?_; rintro e w1 ⟨rfl, rfl⟩)
  have O1 : OpAt (w.alloc (.cells #[.int .i64 7, .string ⟨path.toArray⟩, .int .i64 off, .int .i64 n, .int .i64 id, .string ⟨image.toArray⟩] 24)) w.heap.size 7 path off n id image := ⟨heap_alloc_new _ _⟩
  have hbW : Below w.heap.size w (w.alloc (.cells #[.int .i64 7, .string ⟨path.toArray⟩, .int .i64 off, .int .i64 n, .int .i64 id, .string ⟨image.toArray⟩] 24)) := below_al (Below.refl _ _) _
  generalize w.alloc (.cells #[.int .i64 7, .string ⟨path.toArray⟩, .int .i64 off, .int .i64 n, .int .i64 id, .string ⟨image.toArray⟩] 24) = w1 at O1 hbW ⊢
  have d4 := O1.c4
  have hil := itoa_length hid.1 hid.2
  have hpl : ¬ 9223372036854775807 < (nm 7).length + 1 + (Lib.itoa id).length := by omega
  go_wp2_with (go_at_call 16; refine (num_in id _ hid.1 hid.2).mono ?_; rintro e w2 ⟨rfl, hb2⟩)
  go_ret
  exact ⟨ret_str (by show (⟨(nm _).toArray⟩ : ByteArray) ++ ⟨[32].toArray⟩ ++ ⟨(Lib.itoa id).toArray⟩ = _; rw [cat, cat]), below_step hbW hbW.size hb2⟩

set_option maxHeartbeats 2000000 in
set_option maxRecDepth 100000 in
theorem reftext_id9 (off n id : Int) (path image : List UInt8) (w : World) (hid : -9223372036854775808 ≤ id ∧ id ≤ 9223372036854775807) (hp : path.length ≤ 4000000000) :
    Calls Tryd.prog 12 #[.agg #[.int .i64 9, .string ⟨path.toArray⟩, .int .i64 off, .int .i64 n, .int .i64 id, .string ⟨image.toArray⟩]] w fun e w' => e = .returned (.string ⟨(nm 9 ++ [32] ++ Lib.itoa id).toArray⟩) ∧ Below w.heap.size w w' := by
  have hnl : (nm 9).length ≤ 8 := nm_length _
  have hns : ¬ 9223372036854775807 < (nm 9).length + 1 := by omega
  go_enter Tryd.func12, Tryd.ntmps12
  go_wp2_with (go_at_call 36; refine (name_any 9 _ (by omega) (by omega)).mono ?_; rintro e w1 ⟨rfl, rfl⟩)
  have O1 : OpAt (w.alloc (.cells #[.int .i64 9, .string ⟨path.toArray⟩, .int .i64 off, .int .i64 n, .int .i64 id, .string ⟨image.toArray⟩] 24)) w.heap.size 9 path off n id image := ⟨heap_alloc_new _ _⟩
  have hbW : Below w.heap.size w (w.alloc (.cells #[.int .i64 9, .string ⟨path.toArray⟩, .int .i64 off, .int .i64 n, .int .i64 id, .string ⟨image.toArray⟩] 24)) := below_al (Below.refl _ _) _
  generalize w.alloc (.cells #[.int .i64 9, .string ⟨path.toArray⟩, .int .i64 off, .int .i64 n, .int .i64 id, .string ⟨image.toArray⟩] 24) = w1 at O1 hbW ⊢
  have d4 := O1.c4
  have hil := itoa_length hid.1 hid.2
  have hpl : ¬ 9223372036854775807 < (nm 9).length + 1 + (Lib.itoa id).length := by omega
  go_wp2_with (go_at_call 16; refine (num_in id _ hid.1 hid.2).mono ?_; rintro e w2 ⟨rfl, hb2⟩)
  go_ret
  exact ⟨ret_str (by show (⟨(nm _).toArray⟩ : ByteArray) ++ ⟨[32].toArray⟩ ++ ⟨(Lib.itoa id).toArray⟩ = _; rw [cat, cat]), below_step hbW hbW.size hb2⟩

set_option maxHeartbeats 2000000 in
set_option maxRecDepth 100000 in
theorem reftext_image (off n id : Int) (path image : List UInt8) (w : World) (him : image.length ≤ 4000000000) (hp : path.length ≤ 4000000000) :
    Calls Tryd.prog 12 #[.agg #[.int .i64 8, .string ⟨path.toArray⟩, .int .i64 off, .int .i64 n, .int .i64 id, .string ⟨image.toArray⟩]] w fun e w' => e = .returned (.string ⟨(nm 8 ++ [32] ++ hexL image).toArray⟩) ∧ Below w.heap.size w w' := by
  have hnl : (nm 8).length ≤ 8 := nm_length _
  have hns : ¬ 9223372036854775807 < (nm 8).length + 1 := by omega
  go_enter Tryd.func12, Tryd.ntmps12
  go_wp2_with (go_at_call 36; refine (name_any 8 _ (by omega) (by omega)).mono ?_; rintro e w1 ⟨rfl, rfl⟩)
  have O1 : OpAt (w.alloc (.cells #[.int .i64 8, .string ⟨path.toArray⟩, .int .i64 off, .int .i64 n, .int .i64 id, .string ⟨image.toArray⟩] 24)) w.heap.size 8 path off n id image := ⟨heap_alloc_new _ _⟩
  have hbW : Below w.heap.size w (w.alloc (.cells #[.int .i64 8, .string ⟨path.toArray⟩, .int .i64 off, .int .i64 n, .int .i64 id, .string ⟨image.toArray⟩] 24)) := below_al (Below.refl _ _) _
  generalize w.alloc (.cells #[.int .i64 8, .string ⟨path.toArray⟩, .int .i64 off, .int .i64 n, .int .i64 id, .string ⟨image.toArray⟩] 24) = w1 at O1 hbW ⊢
  have d5 := O1.c5
  have hil := hexL_length image
  have hpl : ¬ 9223372036854775807 < (nm 8).length + 1 + (hexL image).length := by omega
  go_wp2_with (go_at_call 17; refine (refhex_any ⟨image.toArray⟩ _ (by simp [ByteArray.size]; omega)).mono ?_; rw [show (⟨image.toArray⟩ : ByteArray).data.toList = image from rfl]; rintro e w2 ⟨rfl, hb2⟩)
  go_ret
  exact ⟨ret_str (by show (⟨(nm 8).toArray⟩ : ByteArray) ++ ⟨[32].toArray⟩ ++ ⟨(hexL image).toArray⟩ = _; rw [cat, cat]), below_step hbW hbW.size hb2⟩

set_option maxHeartbeats 2000000 in
set_option maxRecDepth 100000 in
theorem reftext_page (off n id : Int) (path image : List UInt8) (w : World) (hid : -9223372036854775808 ≤ id ∧ id ≤ 9223372036854775807) (hn : -9223372036854775808 ≤ n ∧ n ≤ 9223372036854775807) (hp : path.length ≤ 4000000000) :
    Calls Tryd.prog 12 #[.agg #[.int .i64 6, .string ⟨path.toArray⟩, .int .i64 off, .int .i64 n, .int .i64 id, .string ⟨image.toArray⟩]] w fun e w' => e = .returned (.string ⟨(nm 6 ++ [32] ++ Lib.itoa id ++ [32] ++ Lib.itoa n).toArray⟩) ∧ Below w.heap.size w w' := by
  have hnl : (nm 6).length ≤ 8 := nm_length _
  have hns : ¬ 9223372036854775807 < (nm 6).length + 1 := by omega
  go_enter Tryd.func12, Tryd.ntmps12
  go_wp2_with (go_at_call 36; refine (name_any 6 _ (by omega) (by omega)).mono ?_; rintro e w1 ⟨rfl, rfl⟩)
  have O1 : OpAt (w.alloc (.cells #[.int .i64 6, .string ⟨path.toArray⟩, .int .i64 off, .int .i64 n, .int .i64 id, .string ⟨image.toArray⟩] 24)) w.heap.size 6 path off n id image := ⟨heap_alloc_new _ _⟩
  have hbW : Below w.heap.size w (w.alloc (.cells #[.int .i64 6, .string ⟨path.toArray⟩, .int .i64 off, .int .i64 n, .int .i64 id, .string ⟨image.toArray⟩] 24)) := below_al (Below.refl _ _) _
  generalize w.alloc (.cells #[.int .i64 6, .string ⟨path.toArray⟩, .int .i64 off, .int .i64 n, .int .i64 id, .string ⟨image.toArray⟩] 24) = w1 at O1 hbW ⊢
  have d4 := O1.c4
  have d3 := O1.c3
  have hl1 := itoa_length hid.1 hid.2
  have hl2 := itoa_length hn.1 hn.2
  have hz0 : ¬ 9223372036854775807 < (nm 6).length + 1 + (Lib.itoa id).length := by omega
  have hz1 : ¬ 9223372036854775807 < (nm 6).length + 1 + (Lib.itoa id).length + 1 := by omega
  have hz2 : ¬ 9223372036854775807 < (nm 6).length + 1 + (Lib.itoa id).length + 1 + (Lib.itoa n).length := by omega
  have hlt1 := O1.lt
  obtain ⟨W1, hW1⟩ : ∃ W1, W1 = w1 := ⟨_, rfl⟩
  subst hW1
  go_wp2_with fail
  go_region_held3 (fun w' => w'.cell? ⟨w.heap.size, 3, none⟩ = some (.int .i64 n) ∧ w'.cell? ⟨w.heap.size, 4, none⟩ = some (.int .i64 id) ∧ Below W1.heap.size W1 w')
    (first
      | exact ⟨d3, d4, (Below.refl W1.heap.size W1).drew⟩
      | exact ⟨((below_undrew hb1).cell (p := ⟨w.heap.size, 3, none⟩) hlt1).trans d3, ((below_undrew hb1).cell (p := ⟨w.heap.size, 4, none⟩) hlt1).trans d4, below_undrew hb1⟩
      | exact ⟨((below_from (below_undrew hb1) hb2).cell (p := ⟨w.heap.size, 3, none⟩) hlt1).trans d3, ((below_from (below_undrew hb1) hb2).cell (p := ⟨w.heap.size, 4, none⟩) hlt1).trans d4, below_from (below_undrew hb1) hb2⟩)
    (first
      | (go_at_call_of 16 (Value.int .i64 id); refine (num_in id _ hid.1 hid.2).mono ?_; rintro e w1 ⟨rfl, hb1⟩)
      | (go_at_call_of 16 (Value.int .i64 n); refine (num_in n _ hn.1 hn.2).mono ?_; rintro e w2 ⟨rfl, hb2⟩))
  go_wp2_with fail
  go_ret
  exact ⟨ret_str (by show (⟨(nm 6).toArray⟩ : ByteArray) ++ ⟨[32].toArray⟩ ++ ⟨(Lib.itoa id).toArray⟩ ++ ⟨[32].toArray⟩ ++ ⟨(Lib.itoa n).toArray⟩ = _; rw [cat, cat, cat, cat]), below_step hbW hbW.size (below_from (below_undrew hb1) hb2)⟩

set_option maxHeartbeats 2000000 in
set_option maxRecDepth 100000 in
theorem reftext_read (off n id : Int) (path image : List UInt8) (w : World) (hoff : -9223372036854775808 ≤ off ∧ off ≤ 9223372036854775807) (hn : -9223372036854775808 ≤ n ∧ n ≤ 9223372036854775807) (hp : path.length ≤ 4000000000) :
    Calls Tryd.prog 12 #[.agg #[.int .i64 4, .string ⟨path.toArray⟩, .int .i64 off, .int .i64 n, .int .i64 id, .string ⟨image.toArray⟩]] w fun e w' => e = .returned (.string ⟨(nm 4 ++ [32] ++ Lib.itoa off ++ [32] ++ Lib.itoa n ++ [32] ++ path).toArray⟩) ∧ Below w.heap.size w w' := by
  have hnl : (nm 4).length ≤ 8 := nm_length _
  have hns : ¬ 9223372036854775807 < (nm 4).length + 1 := by omega
  go_enter Tryd.func12, Tryd.ntmps12
  go_wp2_with (go_at_call 36; refine (name_any 4 _ (by omega) (by omega)).mono ?_; rintro e w1 ⟨rfl, rfl⟩)
  have O1 : OpAt (w.alloc (.cells #[.int .i64 4, .string ⟨path.toArray⟩, .int .i64 off, .int .i64 n, .int .i64 id, .string ⟨image.toArray⟩] 24)) w.heap.size 4 path off n id image := ⟨heap_alloc_new _ _⟩
  have hbW : Below w.heap.size w (w.alloc (.cells #[.int .i64 4, .string ⟨path.toArray⟩, .int .i64 off, .int .i64 n, .int .i64 id, .string ⟨image.toArray⟩] 24)) := below_al (Below.refl _ _) _
  generalize w.alloc (.cells #[.int .i64 4, .string ⟨path.toArray⟩, .int .i64 off, .int .i64 n, .int .i64 id, .string ⟨image.toArray⟩] 24) = w1 at O1 hbW ⊢
  have d1 := O1.c1
  have d2 := O1.c2
  have d3 := O1.c3
  have hl1 := itoa_length hoff.1 hoff.2
  have hl2 := itoa_length hn.1 hn.2
  have hz0 : ¬ 9223372036854775807 < (nm 4).length + 1 + (Lib.itoa off).length := by omega
  have hz1 : ¬ 9223372036854775807 < (nm 4).length + 1 + (Lib.itoa off).length + 1 := by omega
  have hz2 : ¬ 9223372036854775807 < (nm 4).length + 1 + (Lib.itoa off).length + 1 + (Lib.itoa n).length := by omega
  have hz3 : ¬ 9223372036854775807 < (nm 4).length + 1 + (Lib.itoa off).length + 1 + (Lib.itoa n).length + 1 := by omega
  have hz4 : ¬ 9223372036854775807 < (nm 4).length + 1 + (Lib.itoa off).length + 1 + (Lib.itoa n).length + 1 + path.length := by omega
  have hlt1 := O1.lt
  obtain ⟨W1, hW1⟩ : ∃ W1, W1 = w1 := ⟨_, rfl⟩
  subst hW1
  go_wp2_with fail
  go_region_held3 (fun w' => w'.cell? ⟨w.heap.size, 1, none⟩ = some (.string ⟨path.toArray⟩) ∧ w'.cell? ⟨w.heap.size, 2, none⟩ = some (.int .i64 off) ∧ w'.cell? ⟨w.heap.size, 3, none⟩ = some (.int .i64 n) ∧ Below W1.heap.size W1 w')
    (first
      | exact ⟨d1, d2, d3, (Below.refl W1.heap.size W1).drew⟩
      | exact ⟨((below_undrew hb1).cell (p := ⟨w.heap.size, 1, none⟩) hlt1).trans d1, ((below_undrew hb1).cell (p := ⟨w.heap.size, 2, none⟩) hlt1).trans d2, ((below_undrew hb1).cell (p := ⟨w.heap.size, 3, none⟩) hlt1).trans d3, below_undrew hb1⟩
      | exact ⟨((below_from (below_undrew hb1) hb2).cell (p := ⟨w.heap.size, 1, none⟩) hlt1).trans d1, ((below_from (below_undrew hb1) hb2).cell (p := ⟨w.heap.size, 2, none⟩) hlt1).trans d2, ((below_from (below_undrew hb1) hb2).cell (p := ⟨w.heap.size, 3, none⟩) hlt1).trans d3, below_from (below_undrew hb1) hb2⟩)
    (first
      | (go_at_call_of 16 (Value.int .i64 off); refine (num_in off _ hoff.1 hoff.2).mono ?_; rintro e w1 ⟨rfl, hb1⟩)
      | (go_at_call_of 16 (Value.int .i64 n); refine (num_in n _ hn.1 hn.2).mono ?_; rintro e w2 ⟨rfl, hb2⟩))
  go_wp2_with fail
  go_ret
  exact ⟨ret_str (by show (⟨(nm 4).toArray⟩ : ByteArray) ++ ⟨[32].toArray⟩ ++ ⟨(Lib.itoa off).toArray⟩ ++ ⟨[32].toArray⟩ ++ ⟨(Lib.itoa n).toArray⟩ ++ ⟨[32].toArray⟩ ++ ⟨path.toArray⟩ = _; rw [cat, cat, cat, cat, cat, cat]), below_step hbW hbW.size (below_from (below_undrew hb1) hb2)⟩

theorem reftext_none (kind off n id : Int) (path image : List UInt8) (w : World) (h : kind < 1 ∨ 9 < kind) :
    Calls Tryd.prog 12 #[.agg #[.int .i64 kind, .string ⟨path.toArray⟩, .int .i64 off, .int .i64 n, .int .i64 id, .string ⟨image.toArray⟩]] w fun e w' => e = .returned (.string ⟨#[]⟩) ∧ Below w.heap.size w w' := by
  by_cases h1 : kind < 1
  · clear h
    go_enter Tryd.func12, Tryd.ntmps12
    go_wp2_with fail
    go_ret
    exact ⟨rfl, below_al (Below.refl _ _) _⟩
  · have h2 : 9 < kind := by omega
    clear h
    go_enter Tryd.func12, Tryd.ntmps12
    go_wp2_with fail
    go_ret
    exact ⟨rfl, below_al (Below.refl _ _) _⟩

theorem reftext_any (o : Opx) (w : World) (h : OpFits o 4000000000) :
    Calls Tryd.prog 12 #[opV o] w fun e w' => e = .returned (.string ⟨(textL o).toArray⟩) ∧ Below w.heap.size w w' := by
  obtain ⟨kind, path, off, n, id, image⟩ := o
  obtain ⟨⟨_, _⟩, hoff, hn, hid, hp, him⟩ := h
  show Calls Tryd.prog 12 #[.agg #[.int .i64 kind, .string ⟨path.toArray⟩, .int .i64 off, .int .i64 n, .int .i64 id, .string ⟨image.toArray⟩]] w _
  unfold textL
  simp only at *
  by_cases h0 : kind < 1 ∨ 9 < kind
  · rw [if_pos h0]; exact reftext_none kind off n id path image w h0
  rw [if_neg h0]
  obtain ⟨k, rfl⟩ : ∃ k : Nat, kind = k := ⟨kind.toNat, by omega⟩
  by_cases h4 : (k : Int) = 4
  · rw [if_pos h4]
    obtain rfl : k = 4 := by omega
    exact reftext_read off n id path image w hoff hn hp
  rw [if_neg h4]
  by_cases h6 : (k : Int) = 6
  · rw [if_pos h6]
    obtain rfl : k = 6 := by omega
    exact reftext_page off n id path image w hid hn hp
  rw [if_neg h6]
  by_cases h7 : (k : Int) = 7 ∨ (k : Int) = 9
  · rw [if_pos h7]
    obtain rfl | rfl : k = 7 ∨ k = 9 := by omega
    · exact reftext_id7 off n id path image w hid hp
    · exact reftext_id9 off n id path image w hid hp
  rw [if_neg h7]
  by_cases h8 : (k : Int) = 8
  · rw [if_pos h8]
    obtain rfl : k = 8 := by omega
    exact reftext_image off n id path image w him hp
  rw [if_neg h8]
  exact reftext_path off n id path image w k (by omega) hp

end Go.Proofs.YthdecdhikjmggaaDoor
