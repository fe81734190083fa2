/- The contract of the reference's Show. -/
import Derived.Test.YthdecdhikjmggaaDoorShow
import Derived.Test.YthdecdhikjmggaaDoorRefText
set_option linter.unusedSimpArgs false
set_option linter.unusedVariables false
namespace Go.Proofs.YthdecdhikjmggaaDoor
open Go.RowKit

theorem refshow_err (k err kind size place id : Int) (text : List UInt8) (names : List ByteArray) (last : Bool) (A : Option Addr) (c : Nat) (w : World) (he : err ≠ 0) (hf : ResFits ⟨err, kind, size, place, id, text, names, last⟩ 1000000) :
    Calls Tryd.prog 19 #[.int .i64 k, .agg #[.int .i64 err, .int .i64 kind, .int .i64 size, .int .i64 place, .int .i64 id, .string ⟨text.toArray⟩, .slice A names.length c, .bool last]] w (ShowEnds k ⟨err, kind, size, place, id, text, names, last⟩ w) := by
  have he1 := hf.err
  simp only at he1
  have hl := itoa_length he1.1 he1.2
  have hne : (err != 0) = true := by rw [bne_iff_ne]; exact he
  have hz : ¬ 9223372036854775807 < 6 + (Lib.itoa err).length := by omega
  have HR : Hid (showL k ⟨err, kind, size, place, id, text, names, last⟩ = [101, 114, 114, 111, 114, 32] ++ Lib.itoa err) := by
    show _ = _
    unfold showL; rw [if_pos he]
  clear hf he
  go_enter Tryd.func19, Tryd.ntmps19
  go_wp2_with (go_at_call 16; refine (num_in err _ he1.1 he1.2).mono ?_; rintro e w1 ⟨rfl, hb1⟩)
  go_ret
  exact ⟨ret_str (by rw [HR.out]; exact cat [101, 114, 114, 111, 114, 32] _), below_from (below_al (Below.refl _ _) _) hb1⟩

set_option maxHeartbeats 2000000 in
set_option maxRecDepth 100000 in
theorem refshow_1 (kind size place id : Int) (text : List UInt8) (names : List ByteArray) (last : Bool) (A : Option Addr) (c : Nat) (w : World) (hf : ResFits ⟨0, kind, size, place, id, text, names, last⟩ 1000000) :
    Calls Tryd.prog 19 #[.int .i64 1, .agg #[.int .i64 0, .int .i64 kind, .int .i64 size, .int .i64 place, .int .i64 id, .string ⟨text.toArray⟩, .slice A names.length c, .bool last]] w (ShowEnds 1 ⟨0, kind, size, place, id, text, names, last⟩ w) := by
  obtain ⟨_, hkind, hsize, hplace, hid, htext, hmany, hnames⟩ := hf
  simp only at hkind hsize hplace hid htext hmany hnames
  have hl1 := itoa_length hkind.1 hkind.2
  have hl2 := itoa_length hplace.1 hplace.2
  have z1 : ¬ 9223372036854775807 < 3 + (Lib.itoa kind).length := by omega
  have z2 : ¬ 9223372036854775807 < 3 + (Lib.itoa kind).length + 1 := by omega
  have z3 : ¬ 9223372036854775807 < 3 + (Lib.itoa kind).length + 1 + (Lib.itoa place).length := by omega
  have HR : Hid (showL 1 ⟨0, kind, size, place, id, text, names, last⟩ = okL ++ ([32] ++ Lib.itoa kind ++ [32] ++ Lib.itoa place)) := by
    show _ = _
    simp [showL]
  clear hnames
  go_enter Tryd.func19, Tryd.ntmps19
  go_wp2_with fail
  have O0 : (w.alloc (.cells #[.int .i64 0, .int .i64 kind, .int .i64 size, .int .i64 place, .int .i64 id, .string ⟨text.toArray⟩, .slice A names.length c, .bool last] 40)).heap[w.heap.size]? = some (.cells #[.int .i64 0, .int .i64 kind, .int .i64 size, .int .i64 place, .int .i64 id, .string ⟨text.toArray⟩, .slice A names.length c, .bool last] 40 (0, 0)) := heap_alloc_new _ _
  have hbW : Below w.heap.size w (w.alloc (.cells #[.int .i64 0, .int .i64 kind, .int .i64 size, .int .i64 place, .int .i64 id, .string ⟨text.toArray⟩, .slice A names.length c, .bool last] 40)) := below_al (Below.refl _ _) _
  generalize w.alloc (.cells #[.int .i64 0, .int .i64 kind, .int .i64 size, .int .i64 place, .int .i64 id, .string ⟨text.toArray⟩, .slice A names.length c, .bool last] 40) = W1 at O0 hbW ⊢
  have hlt1 : w.heap.size < W1.heap.size := (Array.getElem?_eq_some_iff.1 O0).1
  have d1 : W1.cell? ⟨w.heap.size, 1, none⟩ = some (.int .i64 kind) := by rw [Lib.cell_of_heap O0]; rfl
  have d3 : W1.cell? ⟨w.heap.size, 3, none⟩ = some (.int .i64 place) := by rw [Lib.cell_of_heap O0]; rfl
  clear O0
  go_region_held3 (fun w' => w'.cell? ⟨w.heap.size, 1, none⟩ = some (.int .i64 kind) ∧ w'.cell? ⟨w.heap.size, 3, none⟩ = some (.int .i64 place) ∧ Below W1.heap.size W1 w')
    (first
      | exact ⟨d1, d3, (Below.refl W1.heap.size W1).drew⟩
      | exact ⟨((below_undrew hb1).cell (p := ⟨w.heap.size, 1, none⟩) hlt1).trans d1, ((below_undrew hb1).cell (p := ⟨w.heap.size, 3, none⟩) hlt1).trans d3, below_undrew hb1⟩
      | exact ⟨((below_from (below_undrew hb1) hb2).cell (p := ⟨w.heap.size, 1, none⟩) hlt1).trans d1, ((below_from (below_undrew hb1) hb2).cell (p := ⟨w.heap.size, 3, none⟩) hlt1).trans d3, below_from (below_undrew hb1) hb2⟩)
    (first
      | (go_at_call_of 16 (Value.int .i64 kind); refine (num_in kind _ hkind.1 hkind.2).mono ?_; rintro e w1 ⟨rfl, hb1⟩)
      | (go_at_call_of 16 (Value.int .i64 place); refine (num_in place _ hplace.1 hplace.2).mono ?_; rintro e w2 ⟨rfl, hb2⟩))
  go_wp2_with fail
  go_ret
  refine ⟨ret_str ?_, below_step hbW hbW.size (below_from (below_undrew hb1) hb2)⟩
  rw [HR.out]
  show (⟨[111, 107, 32].toArray⟩ : ByteArray) ++ ⟨(Lib.itoa kind).toArray⟩ ++ ⟨[32].toArray⟩ ++ ⟨(Lib.itoa place).toArray⟩ = _
  rw [cat, cat, cat]
  simp [okL]

set_option maxHeartbeats 2000000 in
set_option maxRecDepth 100000 in
theorem refshow_2 (kind size place id : Int) (text : List UInt8) (names : List ByteArray) (last : Bool) (A : Option Addr) (c : Nat) (w : World) (hf : ResFits ⟨0, kind, size, place, id, text, names, last⟩ 1000000) :
    Calls Tryd.prog 19 #[.int .i64 2, .agg #[.int .i64 0, .int .i64 kind, .int .i64 size, .int .i64 place, .int .i64 id, .string ⟨text.toArray⟩, .slice A names.length c, .bool last]] w (ShowEnds 2 ⟨0, kind, size, place, id, text, names, last⟩ w) := by
  obtain ⟨_, hkind, hsize, hplace, hid, htext, hmany, hnames⟩ := hf
  simp only at hkind hsize hplace hid htext hmany hnames
  have hl1 := itoa_length hkind.1 hkind.2
  have hl2 := itoa_length hsize.1 hsize.2
  have z1 : ¬ 9223372036854775807 < 3 + (Lib.itoa kind).length := by omega
  have z2 : ¬ 9223372036854775807 < 3 + (Lib.itoa kind).length + 1 := by omega
  have z3 : ¬ 9223372036854775807 < 3 + (Lib.itoa kind).length + 1 + (Lib.itoa size).length := by omega
  have HR : Hid (showL 2 ⟨0, kind, size, place, id, text, names, last⟩ = okL ++ ([32] ++ Lib.itoa kind ++ [32] ++ Lib.itoa size)) := by
    show _ = _
    simp [showL]
  clear hnames
  go_enter Tryd.func19, Tryd.ntmps19
  go_wp2_with fail
  have O0 : (w.alloc (.cells #[.int .i64 0, .int .i64 kind, .int .i64 size, .int .i64 place, .int .i64 id, .string ⟨text.toArray⟩, .slice A names.length c, .bool last] 40)).heap[w.heap.size]? = some (.cells #[.int .i64 0, .int .i64 kind, .int .i64 size, .int .i64 place, .int .i64 id, .string ⟨text.toArray⟩, .slice A names.length c, .bool last] 40 (0, 0)) := heap_alloc_new _ _
  have hbW : Below w.heap.size w (w.alloc (.cells #[.int .i64 0, .int .i64 kind, .int .i64 size, .int .i64 place, .int .i64 id, .string ⟨text.toArray⟩, .slice A names.length c, .bool last] 40)) := below_al (Below.refl _ _) _
  generalize w.alloc (.cells #[.int .i64 0, .int .i64 kind, .int .i64 size, .int .i64 place, .int .i64 id, .string ⟨text.toArray⟩, .slice A names.length c, .bool last] 40) = W1 at O0 hbW ⊢
  have hlt1 : w.heap.size < W1.heap.size := (Array.getElem?_eq_some_iff.1 O0).1
  have d1 : W1.cell? ⟨w.heap.size, 1, none⟩ = some (.int .i64 kind) := by rw [Lib.cell_of_heap O0]; rfl
  have d2 : W1.cell? ⟨w.heap.size, 2, none⟩ = some (.int .i64 size) := by rw [Lib.cell_of_heap O0]; rfl
  clear O0
  go_region_held3 (fun w' => w'.cell? ⟨w.heap.size, 1, none⟩ = some (.int .i64 kind) ∧ w'.cell? ⟨w.heap.size, 2, none⟩ = some (.int .i64 size) ∧ Below W1.heap.size W1 w')
    (first
      | exact ⟨d1, d2, (Below.refl W1.heap.size W1).drew⟩
      | exact ⟨((below_undrew hb1).cell (p := ⟨w.heap.size, 1, none⟩) hlt1).trans d1, ((below_undrew hb1).cell (p := ⟨w.heap.size, 2, none⟩) hlt1).trans d2, below_undrew hb1⟩
      | exact ⟨((below_from (below_undrew hb1) hb2).cell (p := ⟨w.heap.size, 1, none⟩) hlt1).trans d1, ((below_from (below_undrew hb1) hb2).cell (p := ⟨w.heap.size, 2, none⟩) hlt1).trans d2, below_from (below_undrew hb1) hb2⟩)
    (first
      | (go_at_call_of 16 (Value.int .i64 kind); refine (num_in kind _ hkind.1 hkind.2).mono ?_; rintro e w1 ⟨rfl, hb1⟩)
      | (go_at_call_of 16 (Value.int .i64 size); refine (num_in size _ hsize.1 hsize.2).mono ?_; rintro e w2 ⟨rfl, hb2⟩))
  go_wp2_with fail
  go_ret
  refine ⟨ret_str ?_, below_step hbW hbW.size (below_from (below_undrew hb1) hb2)⟩
  rw [HR.out]
  show (⟨[111, 107, 32].toArray⟩ : ByteArray) ++ ⟨(Lib.itoa kind).toArray⟩ ++ ⟨[32].toArray⟩ ++ ⟨(Lib.itoa size).toArray⟩ = _
  rw [cat, cat, cat]
  simp [okL]

set_option maxHeartbeats 2000000 in
set_option maxRecDepth 100000 in
theorem refshow_3 (kind size place id : Int) (text : List UInt8) (names : List ByteArray) (last : Bool) (A : Option Addr) (c : Nat) (w : World) (hf : ResFits ⟨0, kind, size, place, id, text, names, last⟩ 1000000) :
    Calls Tryd.prog 19 #[.int .i64 3, .agg #[.int .i64 0, .int .i64 kind, .int .i64 size, .int .i64 place, .int .i64 id, .string ⟨text.toArray⟩, .slice A names.length c, .bool last]] w (ShowEnds 3 ⟨0, kind, size, place, id, text, names, last⟩ w) := by
  obtain ⟨_, hkind, hsize, hplace, hid, htext, hmany, hnames⟩ := hf
  simp only at hkind hsize hplace hid htext hmany hnames
  have hl := hexL_length text
  have z1 : ¬ 9223372036854775807 < 3 + (hexL text).length := by omega
  have HR : Hid (showL 3 ⟨0, kind, size, place, id, text, names, last⟩ = okL ++ ([32] ++ hexL text)) := by
    show _ = _
    simp [showL]
  clear hnames
  go_enter Tryd.func19, Tryd.ntmps19
  go_wp2_with (go_at_call 17; refine (refhex_any ⟨text.toArray⟩ _ (by simp [ByteArray.size]; omega)).mono ?_; rw [show (⟨text.toArray⟩ : ByteArray).data.toList = text from rfl]; rintro e w1 ⟨rfl, hb1⟩)
  go_ret
  refine ⟨ret_str ?_, below_from (below_al (Below.refl _ _) _) hb1⟩
  rw [HR.out]
  show (⟨[111, 107, 32].toArray⟩ : ByteArray) ++ ⟨(hexL text).toArray⟩ = _
  rw [cat]
  simp [okL]

set_option maxHeartbeats 2000000 in
set_option maxRecDepth 100000 in
theorem refshow_4 (kind size place id : Int) (text : List UInt8) (names : List ByteArray) (last : Bool) (A : Option Addr) (c : Nat) (w : World) (hf : ResFits ⟨0, kind, size, place, id, text, names, last⟩ 1000000) :
    Calls Tryd.prog 19 #[.int .i64 4, .agg #[.int .i64 0, .int .i64 kind, .int .i64 size, .int .i64 place, .int .i64 id, .string ⟨text.toArray⟩, .slice A names.length c, .bool last]] w (ShowEnds 4 ⟨0, kind, size, place, id, text, names, last⟩ w) := by
  obtain ⟨_, hkind, hsize, hplace, hid, htext, hmany, hnames⟩ := hf
  simp only at hkind hsize hplace hid htext hmany hnames
  have hl := hexL_length text
  have z1 : ¬ 9223372036854775807 < 3 + (hexL text).length := by omega
  have HR : Hid (showL 4 ⟨0, kind, size, place, id, text, names, last⟩ = okL ++ ([32] ++ hexL text)) := by
    show _ = _
    simp [showL]
  clear hnames
  go_enter Tryd.func19, Tryd.ntmps19
  go_wp2_with (go_at_call 17; refine (refhex_any ⟨text.toArray⟩ _ (by simp [ByteArray.size]; omega)).mono ?_; rw [show (⟨text.toArray⟩ : ByteArray).data.toList = text from rfl]; rintro e w1 ⟨rfl, hb1⟩)
  go_ret
  refine ⟨ret_str ?_, below_from (below_al (Below.refl _ _) _) hb1⟩
  rw [HR.out]
  show (⟨[111, 107, 32].toArray⟩ : ByteArray) ++ ⟨(hexL text).toArray⟩ = _
  rw [cat]
  simp [okL]

set_option maxHeartbeats 2000000 in
set_option maxRecDepth 100000 in
theorem refshow_5 (kind size place id : Int) (text : List UInt8) (names : List ByteArray) (last : Bool) (A : Option Addr) (c : Nat) (w : World) (hf : ResFits ⟨0, kind, size, place, id, text, names, last⟩ 1000000) :
    Calls Tryd.prog 19 #[.int .i64 5, .agg #[.int .i64 0, .int .i64 kind, .int .i64 size, .int .i64 place, .int .i64 id, .string ⟨text.toArray⟩, .slice A names.length c, .bool last]] w (ShowEnds 5 ⟨0, kind, size, place, id, text, names, last⟩ w) := by
  obtain ⟨_, hkind, hsize, hplace, hid, htext, hmany, hnames⟩ := hf
  simp only at hkind hsize hplace hid htext hmany hnames
  have hl := itoa_length hid.1 hid.2
  have z1 : ¬ 9223372036854775807 < 3 + (Lib.itoa id).length := by omega
  have HR : Hid (showL 5 ⟨0, kind, size, place, id, text, names, last⟩ = okL ++ ([32] ++ Lib.itoa id)) := by
    show _ = _
    simp [showL]
  clear hnames
  go_enter Tryd.func19, Tryd.ntmps19
  go_wp2_with (go_at_call 16; refine (num_in id _ hid.1 hid.2).mono ?_; rintro e w1 ⟨rfl, hb1⟩)
  go_ret
  refine ⟨ret_str ?_, below_from (below_al (Below.refl _ _) _) hb1⟩
  rw [HR.out]
  show (⟨[111, 107, 32].toArray⟩ : ByteArray) ++ ⟨(Lib.itoa id).toArray⟩ = _
  rw [cat]
  simp [okL]

set_option maxHeartbeats 2000000 in
set_option maxRecDepth 100000 in
theorem refshow_8 (kind size place id : Int) (text : List UInt8) (names : List ByteArray) (last : Bool) (A : Option Addr) (c : Nat) (w : World) (hf : ResFits ⟨0, kind, size, place, id, text, names, last⟩ 1000000) :
    Calls Tryd.prog 19 #[.int .i64 8, .agg #[.int .i64 0, .int .i64 kind, .int .i64 size, .int .i64 place, .int .i64 id, .string ⟨text.toArray⟩, .slice A names.length c, .bool last]] w (ShowEnds 8 ⟨0, kind, size, place, id, text, names, last⟩ w) := by
  obtain ⟨_, hkind, hsize, hplace, hid, htext, hmany, hnames⟩ := hf
  simp only at hkind hsize hplace hid htext hmany hnames
  have hl := itoa_length hid.1 hid.2
  have z1 : ¬ 9223372036854775807 < 3 + (Lib.itoa id).length := by omega
  have HR : Hid (showL 8 ⟨0, kind, size, place, id, text, names, last⟩ = okL ++ ([32] ++ Lib.itoa id)) := by
    show _ = _
    simp [showL]
  clear hnames
  go_enter Tryd.func19, Tryd.ntmps19
  go_wp2_with (go_at_call 16; refine (num_in id _ hid.1 hid.2).mono ?_; rintro e w1 ⟨rfl, hb1⟩)
  go_ret
  refine ⟨ret_str ?_, below_from (below_al (Below.refl _ _) _) hb1⟩
  rw [HR.out]
  show (⟨[111, 107, 32].toArray⟩ : ByteArray) ++ ⟨(Lib.itoa id).toArray⟩ = _
  rw [cat]
  simp [okL]

set_option maxHeartbeats 2000000 in
set_option maxRecDepth 100000 in
theorem refshow_else (kind size place id : Int) (text : List UInt8) (names : List ByteArray) (last : Bool) (A : Option Addr) (c : Nat) (w : World) (hf : ResFits ⟨0, kind, size, place, id, text, names, last⟩ 1000000) (k : Int) (hk : ¬ k = 1 ∧ ¬ k = 2 ∧ ¬ k = 3 ∧ ¬ k = 4 ∧ ¬ k = 5 ∧ ¬ k = 6 ∧ ¬ k = 8) :
    Calls Tryd.prog 19 #[.int .i64 k, .agg #[.int .i64 0, .int .i64 kind, .int .i64 size, .int .i64 place, .int .i64 id, .string ⟨text.toArray⟩, .slice A names.length c, .bool last]] w (ShowEnds k ⟨0, kind, size, place, id, text, names, last⟩ w) := by
  obtain ⟨_, hkind, hsize, hplace, hid, htext, hmany, hnames⟩ := hf
  simp only at hkind hsize hplace hid htext hmany hnames
  have HR : Hid (showL k ⟨0, kind, size, place, id, text, names, last⟩ = okL) := by
    show _ = _
    simp [showL, hk.1, hk.2.1, hk.2.2.1, hk.2.2.2.1, hk.2.2.2.2.1, hk.2.2.2.2.2.1, hk.2.2.2.2.2.2]
  clear hnames
  obtain ⟨h1, h2, h3, h4, h5, h6, h8⟩ := hk
  go_enter Tryd.func19, Tryd.ntmps19
  go_wp2_with fail
  go_ret
  exact ⟨ret_str (by rw [HR.out]; rfl), below_al (Below.refl _ _) _⟩

set_option maxHeartbeats 2000000 in
set_option maxRecDepth 100000 in
theorem refshow_6false (kind size place id : Int) (text : List UInt8) (names : List ByteArray) (last : Bool) (A : Option Addr) (c : Nat) (w : World) (hf : ResFits ⟨0, kind, size, place, id, text, names, false⟩ 1000000) (hr : StrRow w A names) :
    Calls Tryd.prog 19 #[.int .i64 6, .agg #[.int .i64 0, .int .i64 kind, .int .i64 size, .int .i64 place, .int .i64 id, .string ⟨text.toArray⟩, .slice A names.length c, .bool false]] w (ShowEnds 6 ⟨0, kind, size, place, id, text, names, false⟩ w) := by
  obtain ⟨_, hkind, hsize, hplace, hid, htext, hmany, hnames⟩ := hf
  simp only at hkind hsize hplace hid htext hmany hnames
  have HRw : Hid (StrRow w A names) := hr
  have HNM : Hid (∀ x ∈ names, x.size ≤ 1000000) := hnames
  have HR : Hid (showL 6 ⟨0, kind, size, place, id, text, names, false⟩ = okL ++ namesL names) := by
    show _ = _
    simp [showL, namesL]
  clear hnames hr
  go_enter Tryd.func19, Tryd.ntmps19
  go_wp2_with fail
  have O0 : (w.alloc (.cells #[.int .i64 0, .int .i64 kind, .int .i64 size, .int .i64 place, .int .i64 id, .string ⟨text.toArray⟩, .slice A names.length c, .bool false] 40)).heap[w.heap.size]? = some (.cells #[.int .i64 0, .int .i64 kind, .int .i64 size, .int .i64 place, .int .i64 id, .string ⟨text.toArray⟩, .slice A names.length c, .bool false] 40 (0, 0)) := heap_alloc_new _ _
  have hbW : Below w.heap.size w (w.alloc (.cells #[.int .i64 0, .int .i64 kind, .int .i64 size, .int .i64 place, .int .i64 id, .string ⟨text.toArray⟩, .slice A names.length c, .bool false] 40)) := below_al (Below.refl _ _) _
  generalize w.alloc (.cells #[.int .i64 0, .int .i64 kind, .int .i64 size, .int .i64 place, .int .i64 id, .string ⟨text.toArray⟩, .slice A names.length c, .bool false] 40) = W1 at O0 hbW ⊢
  have hlt1 : w.heap.size < W1.heap.size := (Array.getElem?_eq_some_iff.1 O0).1
  have HO : Hid (W1.heap[w.heap.size]? = some (.cells #[.int .i64 0, .int .i64 kind, .int .i64 size, .int .i64 place, .int .i64 id, .string ⟨text.toArray⟩, .slice A names.length c, .bool false] 40 (0, 0))) := O0
  clear O0
  go_loopw [5, 6] (fun v i wr => ∃ j : Nat, j ≤ names.length ∧ i = .int .i64 j ∧ v = .string ⟨(okL ++ namesL (names.take j)).toArray⟩ ∧ Below W1.heap.size W1 wr) (fun _ i _ => names.length - (intOf i).toNat)
  case atStart => exact ⟨0, by omega, rfl, rfl, Below.refl _ _⟩
  case round =>
    obtain ⟨j, hj, rfl, rfl, hb⟩ := hrel
    have d6 : wr.cell? ⟨w.heap.size, 6, none⟩ = some (.slice A names.length c) := by rw [hb.cell (p := ⟨w.heap.size, 6, none⟩) hlt1, Lib.cell_of_heap HO.out]; rfl
    have hbw : Below w.heap.size w wr := below_step hbW hbW.size hb
    have hj1 : j ≤ 1000000 := by omega
    by_cases hlt : j < names.length
    · obtain ⟨ad, rfl, hc⟩ := HRw.out j hlt
      obtain ⟨x, hx⟩ : ∃ x, names.getD j ByteArray.empty = x := ⟨_, rfl⟩
      rw [hx] at hc
      have hxm : x ∈ names := by
        rw [← hx, List.getD_eq_getElem?_getD, List.getElem?_eq_getElem hlt]; exact List.getElem_mem hlt
      have hxs := HNM.out x hxm
      have htk : names.take (j + 1) = names.take j ++ [x] := by
        rw [List.take_succ_eq_append_getElem hlt, ← hx, List.getD_eq_getElem?_getD, List.getElem?_eq_getElem hlt]; rfl
      have HT : Hid (namesL (names.take (j + 1)) = namesL (names.take j) ++ ([32] ++ hexL x.data.toList)) := by
        show _ = _
        rw [htk]; unfold namesL; rw [List.flatMap_append]; simp
      have hcw : wr.cell? (ad.add j) = some (.string x) := (hbw.cell (World.block_lt_of_cell? w _ hc)).trans hc
      have hnl := namesL_length (names.take j) 1000000 (fun y hy => HNM.out y (List.mem_of_mem_take hy))
      have hnt : (names.take j).length ≤ 1000000 := by rw [List.length_take]; omega
      have hnl2 : (namesL (names.take j)).length ≤ 1000000 * 2000002 := Nat.le_trans hnl (Nat.mul_le_mul_right _ hnt)
      have hxl := hexL_length x.data.toList
      rw [size_data] at hxl
      have z0 : (okL ++ namesL (names.take j)).length = 2 + (namesL (names.take j)).length := by simp [okL]; omega
      have z1 : ¬ 9223372036854775807 < (okL ++ namesL (names.take j)).length + 1 := by omega
      have z2 : ¬ 9223372036854775807 < (okL ++ namesL (names.take j)).length + 1 + (hexL x.data.toList).length := by omega
      obtain ⟨acc, hacc⟩ : ∃ acc, okL ++ namesL (names.take j) = acc := ⟨_, rfl⟩
      rw [hacc] at z1 z2 ⊢
      have HA : Hid (okL ++ namesL (names.take j) = acc) := hacc
      clear hacc z0 hnl hnl2 hnt htk hx hxm hc hxl
      go_wp2_with (go_at_call 17; refine (refhex_any x _ (by omega)).mono ?_; rintro e w2 ⟨rfl, hb2⟩)
      go_roundw
      case rel =>
        refine ⟨j + 1, by omega, by go_num, ?_, below_from hb hb2⟩
        rw [HT.out, ← List.append_assoc, HA.out]
        show Value.string ((⟨acc.toArray⟩ : ByteArray) ++ ⟨[32].toArray⟩ ++ ⟨(hexL x.data.toList).toArray⟩) = _
        rw [cat, cat, List.append_assoc]
      case measure => simp [intOf]; omega
    · obtain rfl : j = names.length := by omega
      rw [List.take_of_length_le (Nat.le_refl _)]
      clear hlt
      go_wp2_with fail
      go_ret
      exact ⟨by rw [HR.out]; rfl, hbw⟩

set_option maxHeartbeats 2000000 in
set_option maxRecDepth 100000 in
theorem refshow_6true (kind size place id : Int) (text : List UInt8) (names : List ByteArray) (last : Bool) (A : Option Addr) (c : Nat) (w : World) (hf : ResFits ⟨0, kind, size, place, id, text, names, true⟩ 1000000) (hr : StrRow w A names) :
    Calls Tryd.prog 19 #[.int .i64 6, .agg #[.int .i64 0, .int .i64 kind, .int .i64 size, .int .i64 place, .int .i64 id, .string ⟨text.toArray⟩, .slice A names.length c, .bool true]] w (ShowEnds 6 ⟨0, kind, size, place, id, text, names, true⟩ w) := by
  obtain ⟨_, hkind, hsize, hplace, hid, htext, hmany, hnames⟩ := hf
  simp only at hkind hsize hplace hid htext hmany hnames
  have HRw : Hid (StrRow w A names) := hr
  have HNM : Hid (∀ x ∈ names, x.size ≤ 1000000) := hnames
  have HR : Hid (showL 6 ⟨0, kind, size, place, id, text, names, true⟩ = (okL ++ [32, 101, 110, 100]) ++ namesL names) := by
    show _ = _
    simp [showL, namesL]
  clear hnames hr
  go_enter Tryd.func19, Tryd.ntmps19
  go_wp2_with fail
  have O0 : (w.alloc (.cells #[.int .i64 0, .int .i64 kind, .int .i64 size, .int .i64 place, .int .i64 id, .string ⟨text.toArray⟩, .slice A names.length c, .bool true] 40)).heap[w.heap.size]? = some (.cells #[.int .i64 0, .int .i64 kind, .int .i64 size, .int .i64 place, .int .i64 id, .string ⟨text.toArray⟩, .slice A names.length c, .bool true] 40 (0, 0)) := heap_alloc_new _ _
  have hbW : Below w.heap.size w (w.alloc (.cells #[.int .i64 0, .int .i64 kind, .int .i64 size, .int .i64 place, .int .i64 id, .string ⟨text.toArray⟩, .slice A names.length c, .bool true] 40)) := below_al (Below.refl _ _) _
  generalize w.alloc (.cells #[.int .i64 0, .int .i64 kind, .int .i64 size, .int .i64 place, .int .i64 id, .string ⟨text.toArray⟩, .slice A names.length c, .bool true] 40) = W1 at O0 hbW ⊢
  have hlt1 : w.heap.size < W1.heap.size := (Array.getElem?_eq_some_iff.1 O0).1
  have HO : Hid (W1.heap[w.heap.size]? = some (.cells #[.int .i64 0, .int .i64 kind, .int .i64 size, .int .i64 place, .int .i64 id, .string ⟨text.toArray⟩, .slice A names.length c, .bool true] 40 (0, 0))) := O0
  clear O0
  go_loopw [5, 6] (fun v i wr => ∃ j : Nat, j ≤ names.length ∧ i = .int .i64 j ∧ v = .string ⟨((okL ++ [32, 101, 110, 100]) ++ namesL (names.take j)).toArray⟩ ∧ Below W1.heap.size W1 wr) (fun _ i _ => names.length - (intOf i).toNat)
  case atStart => exact ⟨0, by omega, rfl, rfl, Below.refl _ _⟩
  case round =>
    obtain ⟨j, hj, rfl, rfl, hb⟩ := hrel
    have d6 : wr.cell? ⟨w.heap.size, 6, none⟩ = some (.slice A names.length c) := by rw [hb.cell (p := ⟨w.heap.size, 6, none⟩) hlt1, Lib.cell_of_heap HO.out]; rfl
    have hbw : Below w.heap.size w wr := below_step hbW hbW.size hb
    have hj1 : j ≤ 1000000 := by omega
    by_cases hlt : j < names.length
    · obtain ⟨ad, rfl, hc⟩ := HRw.out j hlt
      obtain ⟨x, hx⟩ : ∃ x, names.getD j ByteArray.empty = x := ⟨_, rfl⟩
      rw [hx] at hc
      have hxm : x ∈ names := by
        rw [← hx, List.getD_eq_getElem?_getD, List.getElem?_eq_getElem hlt]; exact List.getElem_mem hlt
      have hxs := HNM.out x hxm
      have htk : names.take (j + 1) = names.take j ++ [x] := by
        rw [List.take_succ_eq_append_getElem hlt, ← hx, List.getD_eq_getElem?_getD, List.getElem?_eq_getElem hlt]; rfl
      have HT : Hid (namesL (names.take (j + 1)) = namesL (names.take j) ++ ([32] ++ hexL x.data.toList)) := by
        show _ = _
        rw [htk]; unfold namesL; rw [List.flatMap_append]; simp
      have hcw : wr.cell? (ad.add j) = some (.string x) := (hbw.cell (World.block_lt_of_cell? w _ hc)).trans hc
      have hnl := namesL_length (names.take j) 1000000 (fun y hy => HNM.out y (List.mem_of_mem_take hy))
      have hnt : (names.take j).length ≤ 1000000 := by rw [List.length_take]; omega
      have hnl2 : (namesL (names.take j)).length ≤ 1000000 * 2000002 := Nat.le_trans hnl (Nat.mul_le_mul_right _ hnt)
      have hxl := hexL_length x.data.toList
      rw [size_data] at hxl
      have z0 : ((okL ++ [32, 101, 110, 100]) ++ namesL (names.take j)).length = 6 + (namesL (names.take j)).length := by simp [okL]; omega
      have z1 : ¬ 9223372036854775807 < ((okL ++ [32, 101, 110, 100]) ++ namesL (names.take j)).length + 1 := by omega
      have z2 : ¬ 9223372036854775807 < ((okL ++ [32, 101, 110, 100]) ++ namesL (names.take j)).length + 1 + (hexL x.data.toList).length := by omega
      obtain ⟨acc, hacc⟩ : ∃ acc, (okL ++ [32, 101, 110, 100]) ++ namesL (names.take j) = acc := ⟨_, rfl⟩
      rw [hacc] at z1 z2 ⊢
      have HA : Hid ((okL ++ [32, 101, 110, 100]) ++ namesL (names.take j) = acc) := hacc
      clear hacc z0 hnl hnl2 hnt htk hx hxm hc hxl
      go_wp2_with (go_at_call 17; refine (refhex_any x _ (by omega)).mono ?_; rintro e w2 ⟨rfl, hb2⟩)
      go_roundw
      case rel =>
        refine ⟨j + 1, by omega, by go_num, ?_, below_from hb hb2⟩
        rw [HT.out, ← List.append_assoc, HA.out]
        show Value.string ((⟨acc.toArray⟩ : ByteArray) ++ ⟨[32].toArray⟩ ++ ⟨(hexL x.data.toList).toArray⟩) = _
        rw [cat, cat, List.append_assoc]
      case measure => simp [intOf]; omega
    · obtain rfl : j = names.length := by omega
      rw [List.take_of_length_le (Nat.le_refl _)]
      clear hlt
      go_wp2_with fail
      go_ret
      exact ⟨by rw [HR.out]; rfl, hbw⟩

theorem refshow_any (k : Int) (r : Resx) (A : Option Addr) (c : Nat) (w : World) (hf : ResFits r 1000000) (hr : StrRow w A r.names) :
    Calls Tryd.prog 19 #[.int .i64 k, .agg #[.int .i64 r.err, .int .i64 r.kind, .int .i64 r.size, .int .i64 r.place, .int .i64 r.id, .string ⟨r.text.toArray⟩, .slice A r.names.length c, .bool r.last]] w (ShowEnds k r w) := by
  obtain ⟨err, kind, size, place, id, text, names, last⟩ := r
  simp only at hr ⊢
  by_cases he : err = 0
  · subst he
    by_cases k1 : k = 1
    · subst k1; exact refshow_1 kind size place id text names last A c w hf
    by_cases k2 : k = 2
    · subst k2; exact refshow_2 kind size place id text names last A c w hf
    by_cases k3 : k = 3
    · subst k3; exact refshow_3 kind size place id text names last A c w hf
    by_cases k4 : k = 4
    · subst k4; exact refshow_4 kind size place id text names last A c w hf
    by_cases k5 : k = 5
    · subst k5; exact refshow_5 kind size place id text names last A c w hf
    by_cases k6 : k = 6
    · subst k6
      cases last
      · exact refshow_6false kind size place id text names false A c w hf hr
      · exact refshow_6true kind size place id text names true A c w hf hr
    by_cases k8 : k = 8
    · subst k8; exact refshow_8 kind size place id text names last A c w hf
    exact refshow_else kind size place id text names last A c w hf k ⟨k1, k2, k3, k4, k5, k6, k8⟩
  · exact refshow_err k err kind size place id text names last A c w he hf

end Go.Proofs.YthdecdhikjmggaaDoor
