/-
  Walks: bolterlaw01.awake, set.Range, set.Union, set.Inter, set.Minus, set.Not, set.Fold.
-/
import Derived.Test.YtbmejpghoafapaaDoorSets
namespace Go.Proofs.YtbmejpghoafapaaDoor
open Go.RowKit

theorem below_drewN' {B : Nat} {a w : World} (h : Below B a w) (n : Nat) : Below B a (w.drewN n) := below_drewN h n

theorem bytes_one (w : World) (x : Int) (h : 0 ≤ x ∧ x < 256) : BytesAt (w.alloc (.cells #[.int .u8 x] 5)) (.slice (some ⟨w.heap.size, 0, none⟩) 1 1) [x] := by
  refine ⟨by simpa using h, _, 1, rfl, fun _ => ⟨_, 0, rfl, fun i hi => ?_⟩⟩
  obtain rfl : i = 0 := by simp at hi; omega
  rw [cell_of_row _ w.heap.size 0 _ 5 (0, 0) (heap_alloc_new w _)]; rfl

set_option maxHeartbeats 400000 in
theorem awake1 (w : World) : Calls Tryd.prog 10 #[] w fun e w' => e = .returned (.bool true) ∧ Below w.heap.size w w' := by
  go_enter Tryd.func10, Tryd.ntmps10
  go_wp2_with fail
  refine (of_any [5] _ _ (bytes_one w 5 (by omega)) (by simp)).mono ?_
  rintro e w1 ⟨rfl, hb1⟩
  go_wp2_with fail
  refine (has_any (inl [5]) 5 _ (by omega) (by omega)).mono ?_
  rintro e w2 ⟨rfl, hb2⟩
  have hz1 : w.heap.size < w1.heap.size := by have := hb1.size; simp at this; omega
  go_wp2_with fail
  go_ret
  exact ⟨rfl, (by repeat (first | exact Below.refl _ _ | assumption | refine Below.drew ?_ | refine below_drewN' ?_ _ | refine Below.setCell ?_ (by first | omega | (simp; done) | (simp; omega)) _ | refine Below.alloc ?_ (by first | omega | (simp; done) | (simp; omega)) _ | refine Below.trans ?_ (Below.mono (by assumption) (by first | omega | (simp; done) | (simp; omega)))))⟩

/-- A store of one word turns the set f into g, if the other words are alike. -/
theorem HoldsS.set {w : World} {b : Nat} {f g : Nat → Bool} (h : HoldsS w b f) (i : Nat) (hi : i < 4) (ho : ∀ j, j < 4 → j ≠ i → wd f j = wd g j) : HoldsS (w.setCell ⟨b, i, none⟩ (.int .u64 (wd g i))) b g := by
  unfold HoldsS at *
  simp only [World.setCell, Array.getElem?_modify, h]
  simp only [if_true, Option.map_some, sob]
  have h0 := ho 0 (by omega)
  have h1 := ho 1 (by omega)
  have h2 := ho 2 (by omega)
  have h3 := ho 3 (by omega)
  match i, hi with
  | 0, _ => simp [h1, h2, h3]
  | 1, _ => simp [h0, h2, h3]
  | 2, _ => simp [h0, h1, h3]
  | 3, _ => simp [h0, h1, h2]
theorem HoldsS.other {w : World} {b : Nat} {f : Nat → Bool} (h : HoldsS w b f) {a : Addr} (ha : b ≠ a.block) (v : Value) : HoldsS (w.setCell a v) b f := (Below.heap_setCell w a v b ha).trans h


end Go.Proofs.YtbmejpghoafapaaDoor
