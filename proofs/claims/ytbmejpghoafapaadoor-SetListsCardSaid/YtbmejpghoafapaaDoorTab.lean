/-
  What the condition on the library's table gives the walks; a world that meets it.
-/
import Derived.Test.YtbmejpghoafapaaDoorRow2
import Derived.Test.YtbmejpghoafapaaDoorLeast
import Derived.Test.YtbmejpghoafapaaDoorTie
import Derived.Test.YtbmejpghoafapaaDoorCards
import Derived.LaidMore
import Derived.Stop.Joined
import Derived.MakeChecks
namespace Go.Proofs.YtbmejpghoafapaaDoor
open Go.ChangeShapes Go.WideShapes Go.ChangeAt Go.RowKit

/-- The listed variable. -/
def laid1 : List (String × DataW Unit) := [("math/bits.deBruijn64tab", Rows.laid_math_bits_deBruijn64tab)]
theorem gTab : Tryd.prog.globalNamed "math/bits.deBruijn64tab" = some 0 := by kernel_rfl
theorem tTab : (Tryd.prog.globals[0]?).map (·.type) = some 55 := by kernel_rfl
/-- The door's own heap meets the condition. -/
theorem door_met (os : Os) (args : Array Value) : laidMetH Tryd.prog laid1 ((World.doorLaid Tryd.prog 400 os).forCall (fun _ _ => 0) ⟨#[], args, []⟩).memory :=
  laidMetH_of_parts3 (fuel := 8) (laidMet_of_run' 8 (by kernel_rfl) (by kernel_rfl)) (by kernel_rfl) (by kernel_rfl)
theorem tab_lits : (Rows.laid_math_bits_deBruijn64tab : DataW Unit) = .agg (List.map (fun n : Nat => (DataW.lit (.int .u8 (n : Int)) : DataW Unit)) Lib.deBruijn64tab) := rfl
theorem Tryd.cells55 : Tryd.prog.cellsOf 55 = 64 := by kernel_rfl
theorem of_laid {W : World} (h : laidMetH Tryd.prog laid1 W) : TabW W := by
  rw [MakeChecks.laidMetH_plain _ _ _ (by kernel_rfl)] at h
  obtain ⟨ps, ⟨g0, t0, cs0, f0, p0, q0, hg0, ht0, hv0, hd0, _, _⟩, _, _⟩ := h
  obtain rfl := Option.some.inj (gTab.symm.trans hg0)
  obtain rfl := Option.some.inj (tTab.symm.trans ht0)
  obtain ⟨xs, m1, rfl, hx1, hlen, hn3, hel⟩ := DataW.trod_array Tryd.underlying55 hd0
  simp only [Prod.mk.injEq] at hx1
  obtain ⟨hx1, -⟩ := hx1
  rw [tab_lits, DataW.agg.injEq] at hx1
  rw [Tryd.cells5] at hel
  intro j hj
  have h1 := hel j hj
  obtain ⟨x, hxj⟩ : ∃ x, xs[j]? = some x := ⟨_, List.getElem?_eq_getElem (by omega)⟩
  rw [hxj] at h1
  obtain ⟨k, e1, e2, _⟩ := DataW.trod_int Tryd.underlying5 h1
  have h2 := congrArg (fun l => l[j]?) hx1
  simp only [List.getElem?_map] at h2
  rw [hxj, e2] at h2
  have h3 : Lib.deBruijn64tab[j]? = some (Lib.deBruijn64tab.getD j 0) := by
    have hl : Lib.deBruijn64tab.length = 64 := rfl
    simp [List.getD, List.getElem?_eq_getElem (show j < Lib.deBruijn64tab.length by omega)]
  rw [h3] at h2
  have h4 : ((Lib.deBruijn64tab.getD j 0 : Nat) : Int) = k := by simpa using h2
  have hc := World.var?_cell hg0 hv0 j
  rw [hc, h4]
  have h5 := congrArg (fun l => l[0]?) e1
  simpa [List.getElem?_take, List.getElem?_drop] using h5

end Go.Proofs.YtbmejpghoafapaaDoor
