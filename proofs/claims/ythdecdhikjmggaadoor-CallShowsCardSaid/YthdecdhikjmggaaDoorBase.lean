/- What the package-level variables hold, carried along; the contracts of numbers in words that this seat shares. -/
import Derived.Test.YthdecdhikjmggaaDoorShelf
import Derived.WalkKit
import Derived.ShutString
import Derived.WalkSpells
import Derived.WalkLawsBesides
import Derived.Lib.Hide
import Derived.Lib.SmallJoins
import Derived.Lib.AppendIntMem
import Derived.Deep.QuietTactic
import Derived.BigQuiet
namespace Go.Proofs.YthdecdhikjmggaaDoor
open Go.RowKit

theorem gTab : Tryd.prog.globalNamed "internal/strconv.uint64pow10" = some 3 := by kernel_rfl

/-- What the variables hold that the library reads. -/
structure Glob (w : World) : Prop where
  big : 8 ≤ w.heap.size
  maxLen : ∃ m, w.cell? ⟨0, 0, none⟩ = some (.int .i64 m)
  tab : Lib.TabIs Tryd.prog w "internal/strconv.uint64pow10" .u64 Lib.pow10Tab
  errSyntax : ∃ tp p, w.cell? ⟨1, 0, none⟩ = some (.iface tp p)
  errRange : ∃ tp p, w.cell? ⟨2, 0, none⟩ = some (.iface tp p)

theorem Glob.below {w w' : World} (h : Glob w) (hb : Below w.heap.size w w') : Glob w' := by
  have hs := h.big
  obtain ⟨m, hm⟩ := h.maxLen
  obtain ⟨t1, p1, h1⟩ := h.errSyntax
  obtain ⟨t2, p2, h2⟩ := h.errRange
  exact ⟨Nat.le_trans hs hb.size, ⟨m, (hb.cell (p := ⟨0, 0, none⟩) (show (0 : Nat) < _ by omega)).trans hm⟩, Joins.tab_stays gTab h.tab hb (Nat.le_refl _),
    ⟨t1, p1, (hb.cell (p := ⟨1, 0, none⟩) (show (1 : Nat) < _ by omega)).trans h1⟩, ⟨t2, p2, (hb.cell (p := ⟨2, 0, none⟩) (show (2 : Nat) < _ by omega)).trans h2⟩⟩

theorem itoa_any (n : Int) (h0 : -9223372036854775808 ≤ n) (h1 : n ≤ 9223372036854775807) (w : World) (G : Glob w) :
    Calls Tryd.prog 41 #[.int .i64 n] w fun e w' => e = .returned (.string ⟨(Lib.itoa n).toArray⟩) ∧ Below w.heap.size w w' := by
  refine (Tryd.strconv_Itoa n h0 h1 w G.tab).mono ?_
  rintro e w' ⟨he, k, os, rfl⟩
  exact ⟨he, Lib.below_grow _ _ (Nat.le_refl _) _ _⟩

/-- What Atoi answers as a number, whatever it is asked. -/
def atoiNum (l : List UInt8) : Int := match Lib.atoiAll l with | .ok v => v | .syntax => 0 | .range => Lib.atoiSat l
/-- Is a word a number as it is written? -/
def isNum (l : List UInt8) : Bool := match Lib.atoiAll l with | .ok v => Lib.itoa v == l | _ => false

end Go.Proofs.YthdecdhikjmggaaDoor
