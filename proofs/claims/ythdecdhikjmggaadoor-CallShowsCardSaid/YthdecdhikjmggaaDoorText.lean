/- The contract of call.Text. -/
import Derived.Test.YthdecdhikjmggaaDoorParse
import Derived.Deep.RegionHeld3
set_option linter.unusedSimpArgs false
set_option linter.unusedVariables false
namespace Go.Proofs.YthdecdhikjmggaaDoor
open Go.RowKit

/-- A call's numbers fit, and its texts are no longer than some bound. -/
structure OpFits (o : Opx) (m : Nat) : Prop where
  kind : -9223372036854775808 ≤ o.kind ∧ o.kind ≤ 9223372036854775807
  off : -9223372036854775808 ≤ o.off ∧ o.off ≤ 9223372036854775807
  n : -9223372036854775808 ≤ o.n ∧ o.n ≤ 9223372036854775807
  id : -9223372036854775808 ≤ o.id ∧ o.id ≤ 9223372036854775807
  path : o.path.length ≤ m
  image : o.image.length ≤ m

/-- What is asked for, in words. -/
def textL (o : Opx) : List UInt8 :=
  if o.kind < 1 ∨ 9 < o.kind then [] else
  if o.kind = 4 then nm 4 ++ [32] ++ Lib.itoa o.off ++ [32] ++ Lib.itoa o.n ++ [32] ++ o.path
  else if o.kind = 6 then nm 6 ++ [32] ++ Lib.itoa o.id ++ [32] ++ Lib.itoa o.n
  else if o.kind = 7 ∨ o.kind = 9 then nm o.kind.toNat ++ [32] ++ Lib.itoa o.id
  else if o.kind = 8 then nm 8 ++ [32] ++ hexL o.image
  else nm o.kind.toNat ++ [32] ++ o.path

theorem ret_str {a b : ByteArray} (h : a = b) : Ending.returned (.string a) = Ending.returned (.string b) := by rw [h]
theorem cat (a b : List UInt8) : (⟨a.toArray⟩ : ByteArray) ++ ⟨b.toArray⟩ = ⟨(a ++ b).toArray⟩ := by
  apply ByteArray.ext
  simp

theorem nm_length (k : Nat) : (nm k).length ≤ 8 := by
  unfold nm
  split <;> simp

theorem text_none (kind off n id : Int) (path image : List UInt8) (w : World) (h : kind < 1 ∨ 9 < kind) :
    Calls Tryd.prog 20 #[.agg #[.int .i64 kind, .string ⟨path.toArray⟩, .int .i64 off, .int .i64 n, .int .i64 id, .string ⟨image.toArray⟩]] w fun e w' => e = .returned (.string ⟨#[]⟩) ∧ Below w.heap.size w w' := by
  by_cases h1 : kind < 1
  · clear h
    go_enter Tryd.func20, Tryd.ntmps20
    go_wp2_with fail
    go_ret
    exact ⟨rfl, below_al (Below.refl _ _) _⟩
  · have h2 : 9 < kind := by omega
    clear h
    go_enter Tryd.func20, Tryd.ntmps20
    go_wp2_with fail
    go_ret
    exact ⟨rfl, below_al (Below.refl _ _) _⟩

theorem nDigits_le {u : Nat} (h : u < 10 ^ 20) : Lib.nDigits u ≤ 20 := by
  have h1 := Lib.nDigits_pos u
  have h2 := Lib.decDigits_length u
  rcases Nat.lt_or_ge 20 (Lib.nDigits u) with hd | hd
  · exfalso
    have : ∀ k u, Lib.nDigits u = k + 1 → 10 ^ k ≤ u ∨ u < 10 := by
      intro k
      induction k with
      | zero => intro u hu; omega
      | succ k ih =>
        intro u hu
        by_cases hs : u < 10
        · exact .inr hs
        · left
          rw [Lib.nDigits_big hs] at hu
          rcases ih (u / 10) (by omega) with h | h
          · have := Nat.mul_le_mul_right 10 h
            rw [← Nat.pow_succ] at this
            omega
          · rw [Lib.nDigits_small h] at hu
            obtain rfl : k = 0 := by omega
            omega
    rcases this (Lib.nDigits u - 1) u (by omega) with h3 | h3
    · have := Nat.pow_le_pow_right (n := 10) (by decide) (show 20 ≤ Lib.nDigits u - 1 by omega)
      omega
    · rw [Lib.nDigits_small h3] at hd; omega
  · exact hd
theorem itoa_length {n : Int} (h0 : -9223372036854775808 ≤ n) (h1 : n ≤ 9223372036854775807) : (Lib.itoa n).length ≤ 21 := by
  unfold Lib.itoa
  split
  · rw [List.length_cons, Lib.decDigits_length]
    have := nDigits_le (u := n.natAbs) (by omega)
    omega
  · rw [Lib.decDigits_length]
    have := nDigits_le (u := n.toNat) (by omega)
    omega
theorem hexL_length (l : List UInt8) : (hexL l).length ≤ 2 * l.length + 1 := by
  unfold hexL
  split
  · simp
  · rw [two_length]; omega
theorem first_glob {w : World} (h : Glob w) : Glob w.drew := h.below ((Below.refl _ _).drew)

set_option maxHeartbeats 2000000 in
set_option maxRecDepth 100000 in
theorem text_path (off n id : Int) (path image : List UInt8) (w : World) (G : Glob w) (k : Nat) (hk : k = 1 ∨ k = 2 ∨ k = 3 ∨ k = 5) (hp : path.length ≤ 4000000000) :
    Calls Tryd.prog 20 #[.agg #[.int .i64 k, .string ⟨path.toArray⟩, .int .i64 off, .int .i64 n, .int .i64 id, .string ⟨image.toArray⟩]] w fun e w' => e = .returned (.string ⟨(nm k ++ [32] ++ path).toArray⟩) ∧ Below w.heap.size w w' := by
  have hix := names_at k (by omega)
  have hk1 : 1 ≤ k := by omega
  have hk10 : k < 10 := by omega
  have hnl : (nm k).length ≤ 8 := nm_length _
  have hns : ¬ 9223372036854775807 < (nm k).length + 1 := by omega
  have HG : Hid (Glob w) := G
  clear G
  go_enter Tryd.func20, Tryd.ntmps20
  go_wp2_with fail
  have O0 : OpAt (w.alloc (.cells #[.int .i64 k, .string ⟨path.toArray⟩, .int .i64 off, .int .i64 n, .int .i64 id, .string ⟨image.toArray⟩] 24)) w.heap.size k path off n id image := ⟨heap_alloc_new _ _⟩
  have hb0 : Below w.heap.size w (w.alloc (.cells #[.int .i64 k, .string ⟨path.toArray⟩, .int .i64 off, .int .i64 n, .int .i64 id, .string ⟨image.toArray⟩] 24)) := below_al (Below.refl _ _) _
  generalize w.alloc (.cells #[.int .i64 k, .string ⟨path.toArray⟩, .int .i64 off, .int .i64 n, .int .i64 id, .string ⟨image.toArray⟩] 24) = W0 at O0 hb0 ⊢
  have hlt := O0.lt
  have c0 := O0.c0
  have B0 := Below.refl W0.heap.size W0
  go_region_held3 (fun w' => w'.cell? ⟨w.heap.size, 0, none⟩ = some (.int .i64 k) ∧ Below W0.heap.size W0 w')
    (first
      | exact ⟨c0, B0.drew⟩
      | exact ⟨((below_undrew hb1).cell (p := ⟨w.heap.size, 0, none⟩) hlt).trans c0, below_undrew hb1⟩
      | (go_split_ands; exact ⟨((below_from ‹_› hb1).cell (p := ⟨w.heap.size, 0, none⟩) hlt).trans c0, below_from ‹_› hb1⟩))
    ((go_at_call 34; refine (names_any _).mono ?_; rintro e w1 ⟨rfl, hb1⟩))
  clear hix
  obtain ⟨hS0, hS⟩ := ‹_ ∧ Below W0.heap.size W0 _›
  have O1 := O0.below hS hlt
  have hbW := below_step hb0 hb0.size hS
  have G1 := HG.out.below hbW
  have d1 := O1.c1
  have k4 : ¬ (k : Int) = 4 := by omega
  have k6 : ¬ (k : Int) = 6 := by omega
  have k7 : ¬ (k : Int) = 7 := by omega
  have k8 : ¬ (k : Int) = 8 := by omega
  have k9 : ¬ (k : Int) = 9 := by omega
  have hpl : ¬ 9223372036854775807 < (nm k).length + 1 + path.length := by omega
  go_wp2_with fail
  go_ret
  exact ⟨ret_str (by show (⟨(nm k).toArray⟩ : ByteArray) ++ ⟨[32].toArray⟩ ++ ⟨path.toArray⟩ = _; rw [cat, cat]), hbW⟩

set_option maxHeartbeats 2000000 in
set_option maxRecDepth 100000 in
theorem text_id (off n id : Int) (path image : List UInt8) (w : World) (G : Glob w) (k : Nat) (hk : k = 7 ∨ k = 9) (hid : -9223372036854775808 ≤ id ∧ id ≤ 9223372036854775807) (hp : path.length ≤ 4000000000) :
    Calls Tryd.prog 20 #[.agg #[.int .i64 k, .string ⟨path.toArray⟩, .int .i64 off, .int .i64 n, .int .i64 id, .string ⟨image.toArray⟩]] w fun e w' => e = .returned (.string ⟨(nm k ++ [32] ++ Lib.itoa id).toArray⟩) ∧ Below w.heap.size w w' := by
  have hix := names_at k (by omega)
  have hk1 : 1 ≤ k := by omega
  have hk10 : k < 10 := by omega
  have hnl : (nm k).length ≤ 8 := nm_length _
  have hns : ¬ 9223372036854775807 < (nm k).length + 1 := by omega
  have HG : Hid (Glob w) := G
  clear G
  go_enter Tryd.func20, Tryd.ntmps20
  go_wp2_with fail
  have O0 : OpAt (w.alloc (.cells #[.int .i64 k, .string ⟨path.toArray⟩, .int .i64 off, .int .i64 n, .int .i64 id, .string ⟨image.toArray⟩] 24)) w.heap.size k path off n id image := ⟨heap_alloc_new _ _⟩
  have hb0 : Below w.heap.size w (w.alloc (.cells #[.int .i64 k, .string ⟨path.toArray⟩, .int .i64 off, .int .i64 n, .int .i64 id, .string ⟨image.toArray⟩] 24)) := below_al (Below.refl _ _) _
  generalize w.alloc (.cells #[.int .i64 k, .string ⟨path.toArray⟩, .int .i64 off, .int .i64 n, .int .i64 id, .string ⟨image.toArray⟩] 24) = W0 at O0 hb0 ⊢
  have hlt := O0.lt
  have c0 := O0.c0
  have B0 := Below.refl W0.heap.size W0
  go_region_held3 (fun w' => w'.cell? ⟨w.heap.size, 0, none⟩ = some (.int .i64 k) ∧ Below W0.heap.size W0 w')
    (first
      | exact ⟨c0, B0.drew⟩
      | exact ⟨((below_undrew hb1).cell (p := ⟨w.heap.size, 0, none⟩) hlt).trans c0, below_undrew hb1⟩
      | (go_split_ands; exact ⟨((below_from ‹_› hb1).cell (p := ⟨w.heap.size, 0, none⟩) hlt).trans c0, below_from ‹_› hb1⟩))
    ((go_at_call 34; refine (names_any _).mono ?_; rintro e w1 ⟨rfl, hb1⟩))
  clear hix
  obtain ⟨hS0, hS⟩ := ‹_ ∧ Below W0.heap.size W0 _›
  have O1 := O0.below hS hlt
  have hbW := below_step hb0 hb0.size hS
  have G1 := HG.out.below hbW
  have d4 := O1.c4
  have k4 : ¬ (k : Int) = 4 := by omega
  have k6 : ¬ (k : Int) = 6 := by omega
  have hil := itoa_length hid.1 hid.2
  have hpl : ¬ 9223372036854775807 < (nm k).length + 1 + (Lib.itoa id).length := by omega
  obtain rfl | rfl := hk
  all_goals
    go_wp2_with (go_at_call 41; refine (itoa_any id hid.1 hid.2 _ G1).mono ?_; rintro e w2 ⟨rfl, hb2⟩)
    go_ret
    exact ⟨ret_str (by show (⟨(nm _).toArray⟩ : ByteArray) ++ ⟨[32].toArray⟩ ++ ⟨(Lib.itoa id).toArray⟩ = _; rw [cat, cat]), below_step hbW hbW.size hb2⟩

set_option maxHeartbeats 2000000 in
set_option maxRecDepth 100000 in
theorem text_image (off n id : Int) (path image : List UInt8) (w : World) (G : Glob w) (him : image.length ≤ 4000000000) (hp : path.length ≤ 4000000000) :
    Calls Tryd.prog 20 #[.agg #[.int .i64 8, .string ⟨path.toArray⟩, .int .i64 off, .int .i64 n, .int .i64 id, .string ⟨image.toArray⟩]] w fun e w' => e = .returned (.string ⟨(nm 8 ++ [32] ++ hexL image).toArray⟩) ∧ Below w.heap.size w w' := by
  have hix : ∀ w, (Instr.index 64 namesV (.int .i64 8)).run Tryd.prog w = .ok (.string ⟨(nm 8).toArray⟩) w := fun w => by kernel_rfl
  have hnl : (nm 8).length ≤ 8 := nm_length _
  have hns : ¬ 9223372036854775807 < (nm 8).length + 1 := by omega
  have HG : Hid (Glob w) := G
  clear G
  go_enter Tryd.func20, Tryd.ntmps20
  go_wp2_with fail
  have O0 : OpAt (w.alloc (.cells #[.int .i64 8, .string ⟨path.toArray⟩, .int .i64 off, .int .i64 n, .int .i64 id, .string ⟨image.toArray⟩] 24)) w.heap.size 8 path off n id image := ⟨heap_alloc_new _ _⟩
  have hb0 : Below w.heap.size w (w.alloc (.cells #[.int .i64 8, .string ⟨path.toArray⟩, .int .i64 off, .int .i64 n, .int .i64 id, .string ⟨image.toArray⟩] 24)) := below_al (Below.refl _ _) _
  generalize w.alloc (.cells #[.int .i64 8, .string ⟨path.toArray⟩, .int .i64 off, .int .i64 n, .int .i64 id, .string ⟨image.toArray⟩] 24) = W0 at O0 hb0 ⊢
  have hlt := O0.lt
  have c0 := O0.c0
  have B0 := Below.refl W0.heap.size W0
  go_region_held3 (fun w' => w'.cell? ⟨w.heap.size, 0, none⟩ = some (.int .i64 8) ∧ Below W0.heap.size W0 w')
    (first
      | exact ⟨c0, B0.drew⟩
      | exact ⟨((below_undrew hb1).cell (p := ⟨w.heap.size, 0, none⟩) hlt).trans c0, below_undrew hb1⟩
      | (go_split_ands; exact ⟨((below_from ‹_› hb1).cell (p := ⟨w.heap.size, 0, none⟩) hlt).trans c0, below_from ‹_› hb1⟩))
    ((go_at_call 34; refine (names_any _).mono ?_; rintro e w1 ⟨rfl, hb1⟩))
  clear hix
  obtain ⟨hS0, hS⟩ := ‹_ ∧ Below W0.heap.size W0 _›
  have O1 := O0.below hS hlt
  have hbW := below_step hb0 hb0.size hS
  have G1 := HG.out.below hbW
  have d5 := O1.c5
  have hil := hexL_length image
  have hpl : ¬ 9223372036854775807 < (nm 8).length + 1 + (hexL image).length := by omega
  go_wp2_with (go_at_call 14; refine (hex_any ⟨image.toArray⟩ _ (by simp [ByteArray.size]; omega)).mono ?_; rw [show (⟨image.toArray⟩ : ByteArray).data.toList = image from rfl]; rintro e w2 ⟨rfl, hb2⟩)
  go_ret
  exact ⟨ret_str (by show (⟨(nm 8).toArray⟩ : ByteArray) ++ ⟨[32].toArray⟩ ++ ⟨(hexL image).toArray⟩ = _; rw [cat, cat]), below_step hbW hbW.size hb2⟩

set_option maxHeartbeats 2000000 in
set_option maxRecDepth 100000 in
theorem text_page (off n id : Int) (path image : List UInt8) (w : World) (G : Glob w) (hid : -9223372036854775808 ≤ id ∧ id ≤ 9223372036854775807) (hn : -9223372036854775808 ≤ n ∧ n ≤ 9223372036854775807) (hp : path.length ≤ 4000000000) :
    Calls Tryd.prog 20 #[.agg #[.int .i64 6, .string ⟨path.toArray⟩, .int .i64 off, .int .i64 n, .int .i64 id, .string ⟨image.toArray⟩]] w fun e w' => e = .returned (.string ⟨(nm 6 ++ [32] ++ Lib.itoa id ++ [32] ++ Lib.itoa n).toArray⟩) ∧ Below w.heap.size w w' := by
  have hix : ∀ w, (Instr.index 64 namesV (.int .i64 6)).run Tryd.prog w = .ok (.string ⟨(nm 6).toArray⟩) w := fun w => by kernel_rfl
  have hnl : (nm 6).length ≤ 8 := nm_length _
  have hns : ¬ 9223372036854775807 < (nm 6).length + 1 := by omega
  have HG : Hid (Glob w) := G
  clear G
  go_enter Tryd.func20, Tryd.ntmps20
  go_wp2_with fail
  have O0 : OpAt (w.alloc (.cells #[.int .i64 6, .string ⟨path.toArray⟩, .int .i64 off, .int .i64 n, .int .i64 id, .string ⟨image.toArray⟩] 24)) w.heap.size 6 path off n id image := ⟨heap_alloc_new _ _⟩
  have hb0 : Below w.heap.size w (w.alloc (.cells #[.int .i64 6, .string ⟨path.toArray⟩, .int .i64 off, .int .i64 n, .int .i64 id, .string ⟨image.toArray⟩] 24)) := below_al (Below.refl _ _) _
  generalize w.alloc (.cells #[.int .i64 6, .string ⟨path.toArray⟩, .int .i64 off, .int .i64 n, .int .i64 id, .string ⟨image.toArray⟩] 24) = W0 at O0 hb0 ⊢
  have hlt := O0.lt
  have c0 := O0.c0
  have B0 := Below.refl W0.heap.size W0
  go_region_held3 (fun w' => w'.cell? ⟨w.heap.size, 0, none⟩ = some (.int .i64 6) ∧ Below W0.heap.size W0 w')
    (first
      | exact ⟨c0, B0.drew⟩
      | exact ⟨((below_undrew hb1).cell (p := ⟨w.heap.size, 0, none⟩) hlt).trans c0, below_undrew hb1⟩
      | (go_split_ands; exact ⟨((below_from ‹_› hb1).cell (p := ⟨w.heap.size, 0, none⟩) hlt).trans c0, below_from ‹_› hb1⟩))
    ((go_at_call 34; refine (names_any _).mono ?_; rintro e w1 ⟨rfl, hb1⟩))
  clear hix
  obtain ⟨hS0, hS⟩ := ‹_ ∧ Below W0.heap.size W0 _›
  have O1 := O0.below hS hlt
  have hbW := below_step hb0 hb0.size hS
  have G1 := HG.out.below hbW
  have d4 := O1.c4
  have d3 := O1.c3
  have hl1 := itoa_length hid.1 hid.2
  have hl2 := itoa_length hn.1 hn.2
  have hz0 : ¬ 9223372036854775807 < (nm 6).length + 1 + (Lib.itoa id).length := by omega
  have hz1 : ¬ 9223372036854775807 < (nm 6).length + 1 + (Lib.itoa id).length + 1 := by omega
  have hz2 : ¬ 9223372036854775807 < (nm 6).length + 1 + (Lib.itoa id).length + 1 + (Lib.itoa n).length := by omega
  have hlt1 := O1.lt
  obtain ⟨W1, hW1⟩ : ∃ W1, W1 = w1 := ⟨_, rfl⟩
  subst hW1
  go_wp2_with fail
  go_region_held3 (fun w' => w'.cell? ⟨w.heap.size, 3, none⟩ = some (.int .i64 n) ∧ w'.cell? ⟨w.heap.size, 4, none⟩ = some (.int .i64 id) ∧ Below W1.heap.size W1 w')
    (first
      | exact ⟨d3, d4, (Below.refl W1.heap.size W1).drew⟩
      | exact ⟨((below_undrew hb1).cell (p := ⟨w.heap.size, 3, none⟩) hlt1).trans d3, ((below_undrew hb1).cell (p := ⟨w.heap.size, 4, none⟩) hlt1).trans d4, below_undrew hb1⟩
      | exact ⟨((below_from (below_undrew hb1) hb2).cell (p := ⟨w.heap.size, 3, none⟩) hlt1).trans d3, ((below_from (below_undrew hb1) hb2).cell (p := ⟨w.heap.size, 4, none⟩) hlt1).trans d4, below_from (below_undrew hb1) hb2⟩)
    (first
      | (go_at_call_of 41 (Value.int .i64 id); refine (itoa_any id hid.1 hid.2 _ (first_glob G1)).mono ?_; rintro e w1 ⟨rfl, hb1⟩)
      | (go_at_call_of 41 (Value.int .i64 n); refine (itoa_any n hn.1 hn.2 _ (G1.below (below_undrew hb1))).mono ?_; rintro e w2 ⟨rfl, hb2⟩))
  go_wp2_with fail
  go_ret
  exact ⟨ret_str (by show (⟨(nm 6).toArray⟩ : ByteArray) ++ ⟨[32].toArray⟩ ++ ⟨(Lib.itoa id).toArray⟩ ++ ⟨[32].toArray⟩ ++ ⟨(Lib.itoa n).toArray⟩ = _; rw [cat, cat, cat, cat]), below_step hbW hbW.size (below_from (below_undrew hb1) hb2)⟩

set_option maxHeartbeats 2000000 in
set_option maxRecDepth 100000 in
theorem text_read (off n id : Int) (path image : List UInt8) (w : World) (G : Glob w) (hoff : -9223372036854775808 ≤ off ∧ off ≤ 9223372036854775807) (hn : -9223372036854775808 ≤ n ∧ n ≤ 9223372036854775807) (hp : path.length ≤ 4000000000) :
    Calls Tryd.prog 20 #[.agg #[.int .i64 4, .string ⟨path.toArray⟩, .int .i64 off, .int .i64 n, .int .i64 id, .string ⟨image.toArray⟩]] w fun e w' => e = .returned (.string ⟨(nm 4 ++ [32] ++ Lib.itoa off ++ [32] ++ Lib.itoa n ++ [32] ++ path).toArray⟩) ∧ Below w.heap.size w w' := by
  have hix : ∀ w, (Instr.index 64 namesV (.int .i64 4)).run Tryd.prog w = .ok (.string ⟨(nm 4).toArray⟩) w := fun w => by kernel_rfl
  have hnl : (nm 4).length ≤ 8 := nm_length _
  have hns : ¬ 9223372036854775807 < (nm 4).length + 1 := by omega
  have HG : Hid (Glob w) := G
  clear G
  go_enter Tryd.func20, Tryd.ntmps20
  go_wp2_with fail
  have O0 : OpAt (w.alloc (.cells #[.int .i64 4, .string ⟨path.toArray⟩, .int .i64 off, .int .i64 n, .int .i64 id, .string ⟨image.toArray⟩] 24)) w.heap.size 4 path off n id image := ⟨heap_alloc_new _ _⟩
  have hb0 : Below w.heap.size w (w.alloc (.cells #[.int .i64 4, .string ⟨path.toArray⟩, .int .i64 off, .int .i64 n, .int .i64 id, .string ⟨image.toArray⟩] 24)) := below_al (Below.refl _ _) _
  generalize w.alloc (.cells #[.int .i64 4, .string ⟨path.toArray⟩, .int .i64 off, .int .i64 n, .int .i64 id, .string ⟨image.toArray⟩] 24) = W0 at O0 hb0 ⊢
  have hlt := O0.lt
  have c0 := O0.c0
  have B0 := Below.refl W0.heap.size W0
  go_region_held3 (fun w' => w'.cell? ⟨w.heap.size, 0, none⟩ = some (.int .i64 4) ∧ Below W0.heap.size W0 w')
    (first
      | exact ⟨c0, B0.drew⟩
      | exact ⟨((below_undrew hb1).cell (p := ⟨w.heap.size, 0, none⟩) hlt).trans c0, below_undrew hb1⟩
      | (go_split_ands; exact ⟨((below_from ‹_› hb1).cell (p := ⟨w.heap.size, 0, none⟩) hlt).trans c0, below_from ‹_› hb1⟩))
    ((go_at_call 34; refine (names_any _).mono ?_; rintro e w1 ⟨rfl, hb1⟩))
  clear hix
  obtain ⟨hS0, hS⟩ := ‹_ ∧ Below W0.heap.size W0 _›
  have O1 := O0.below hS hlt
  have hbW := below_step hb0 hb0.size hS
  have G1 := HG.out.below hbW
  have d1 := O1.c1
  have d2 := O1.c2
  have d3 := O1.c3
  have hl1 := itoa_length hoff.1 hoff.2
  have hl2 := itoa_length hn.1 hn.2
  have hz0 : ¬ 9223372036854775807 < (nm 4).length + 1 + (Lib.itoa off).length := by omega
  have hz1 : ¬ 9223372036854775807 < (nm 4).length + 1 + (Lib.itoa off).length + 1 := by omega
  have hz2 : ¬ 9223372036854775807 < (nm 4).length + 1 + (Lib.itoa off).length + 1 + (Lib.itoa n).length := by omega
  have hz3 : ¬ 9223372036854775807 < (nm 4).length + 1 + (Lib.itoa off).length + 1 + (Lib.itoa n).length + 1 := by omega
  have hz4 : ¬ 9223372036854775807 < (nm 4).length + 1 + (Lib.itoa off).length + 1 + (Lib.itoa n).length + 1 + path.length := by omega
  have hlt1 := O1.lt
  obtain ⟨W1, hW1⟩ : ∃ W1, W1 = w1 := ⟨_, rfl⟩
  subst hW1
  go_wp2_with fail
  go_region_held3 (fun w' => w'.cell? ⟨w.heap.size, 1, none⟩ = some (.string ⟨path.toArray⟩) ∧ w'.cell? ⟨w.heap.size, 2, none⟩ = some (.int .i64 off) ∧ w'.cell? ⟨w.heap.size, 3, none⟩ = some (.int .i64 n) ∧ Below W1.heap.size W1 w')
    (first
      | exact ⟨d1, d2, d3, (Below.refl W1.heap.size W1).drew⟩
      | exact ⟨((below_undrew hb1).cell (p := ⟨w.heap.size, 1, none⟩) hlt1).trans d1, ((below_undrew hb1).cell (p := ⟨w.heap.size, 2, none⟩) hlt1).trans d2, ((below_undrew hb1).cell (p := ⟨w.heap.size, 3, none⟩) hlt1).trans d3, below_undrew hb1⟩
      | exact ⟨((below_from (below_undrew hb1) hb2).cell (p := ⟨w.heap.size, 1, none⟩) hlt1).trans d1, ((below_from (below_undrew hb1) hb2).cell (p := ⟨w.heap.size, 2, none⟩) hlt1).trans d2, ((below_from (below_undrew hb1) hb2).cell (p := ⟨w.heap.size, 3, none⟩) hlt1).trans d3, below_from (below_undrew hb1) hb2⟩)
    (first
      | (go_at_call_of 41 (Value.int .i64 off); refine (itoa_any off hoff.1 hoff.2 _ (first_glob G1)).mono ?_; rintro e w1 ⟨rfl, hb1⟩)
      | (go_at_call_of 41 (Value.int .i64 n); refine (itoa_any n hn.1 hn.2 _ (G1.below (below_undrew hb1))).mono ?_; rintro e w2 ⟨rfl, hb2⟩))
  go_wp2_with fail
  go_ret
  exact ⟨ret_str (by show (⟨(nm 4).toArray⟩ : ByteArray) ++ ⟨[32].toArray⟩ ++ ⟨(Lib.itoa off).toArray⟩ ++ ⟨[32].toArray⟩ ++ ⟨(Lib.itoa n).toArray⟩ ++ ⟨[32].toArray⟩ ++ ⟨path.toArray⟩ = _; rw [cat, cat, cat, cat, cat, cat]), below_step hbW hbW.size (below_from (below_undrew hb1) hb2)⟩

theorem text_any (o : Opx) (w : World) (G : Glob w) (h : OpFits o 4000000000) :
    Calls Tryd.prog 20 #[opV o] w fun e w' => e = .returned (.string ⟨(textL o).toArray⟩) ∧ Below w.heap.size w w' := by
  obtain ⟨kind, path, off, n, id, image⟩ := o
  obtain ⟨⟨_, _⟩, hoff, hn, hid, hp, him⟩ := h
  show Calls Tryd.prog 20 #[.agg #[.int .i64 kind, .string ⟨path.toArray⟩, .int .i64 off, .int .i64 n, .int .i64 id, .string ⟨image.toArray⟩]] w _
  unfold textL
  simp only at *
  by_cases h0 : kind < 1 ∨ 9 < kind
  · rw [if_pos h0]; exact text_none kind off n id path image w h0
  rw [if_neg h0]
  obtain ⟨k, rfl⟩ : ∃ k : Nat, kind = k := ⟨kind.toNat, by omega⟩
  by_cases h4 : (k : Int) = 4
  · rw [if_pos h4]
    obtain rfl : k = 4 := by omega
    exact text_read off n id path image w G hoff hn hp
  rw [if_neg h4]
  by_cases h6 : (k : Int) = 6
  · rw [if_pos h6]
    obtain rfl : k = 6 := by omega
    exact text_page off n id path image w G hid hn hp
  rw [if_neg h6]
  by_cases h7 : (k : Int) = 7 ∨ (k : Int) = 9
  · rw [if_pos h7]
    exact text_id off n id path image w G k (by omega) hid hp
  rw [if_neg h7]
  by_cases h8 : (k : Int) = 8
  · rw [if_pos h8]
    obtain rfl : k = 8 := by omega
    exact text_image off n id path image w G him hp
  rw [if_neg h8]
  exact text_path off n id path image w G k (by omega) hp

end Go.Proofs.YthdecdhikjmggaaDoor
