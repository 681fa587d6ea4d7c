/-
  Walks: bolterlaw01.awake, set.Range, set.Union, set.Inter, set.Minus, set.Not, set.Fold.
-/
import Derived.Test.YtbmejpghoafapaaSets
namespace Go.Proofs.Ytbmejpghoafapaa
open Go.RowKit

theorem below_drewN' {B : Nat} {a w : World} (h : Below B a w) (n : Nat) : Below B a (w.drewN n) := below_drewN h n

theorem bytes_one (w : World) (x : Int) (h : 0 ≤ x ∧ x < 256) : BytesAt (w.alloc (.cells #[.int .u8 x] 5)) (.slice (some ⟨w.heap.size, 0, none⟩) 1 1) [x] := by
  refine ⟨by simpa using h, _, 1, rfl, fun _ => ⟨_, 0, rfl, fun i hi => ?_⟩⟩
  obtain rfl : i = 0 := by simp at hi; omega
  rw [cell_of_row _ w.heap.size 0 _ 5 (0, 0) (heap_alloc_new w _)]; rfl

set_option maxHeartbeats 400000 in
theorem awake1 (w : World) : Calls Try.prog 12 #[] w fun e w' => e = .returned (.bool true) ∧ Below w.heap.size w w' := by
  go_enter Try.func12, Try.ntmps12
  go_wp2_with fail
  refine (of_any [5] _ _ (bytes_one w 5 (by omega)) (by simp)).mono ?_
  rintro e w1 ⟨rfl, hb1⟩
  go_wp2_with fail
  refine (has_any (inl [5]) 5 _ (by omega) (by omega)).mono ?_
  rintro e w2 ⟨rfl, hb2⟩
  have hz1 : w.heap.size < w1.heap.size := by have := hb1.size; simp at this; omega
  go_wp2_with fail
  go_ret
  exact ⟨rfl, (by repeat (first | exact Below.refl _ _ | assumption | refine Below.drew ?_ | refine below_drewN' ?_ _ | refine Below.setCell ?_ (by first | omega | (simp; done) | (simp; omega)) _ | refine Below.alloc ?_ (by first | omega | (simp; done) | (simp; omega)) _ | refine Below.trans ?_ (Below.mono (by assumption) (by first | omega | (simp; done) | (simp; omega)))))⟩

/-- The bytes from lo to hi. -/
def span (lo hi : Int) : Nat → Bool := fun b => decide (lo ≤ (b : Int)) && decide ((b : Int) ≤ hi)
theorem span_nil (lo hi : Int) (h : hi < lo) : span lo hi = fun _ => false := by
  funext b; simp [span]; omega
theorem span_snoc (lo k : Int) (h0 : 0 ≤ lo) (h : lo ≤ k) : addb (span lo (k - 1)) k = span lo (k + 1 - 1) := by
  funext b
  simp only [span, addb]
  rw [Bool.eq_iff_iff]
  simp
  omega
theorem sob_span (w : World) (lo : Int) : w.alloc zeros = w.alloc (sob (span lo (lo - 1))) := by rw [zeros_eq, span_nil lo (lo - 1) (by omega)]
/-- A store of one word turns the set f into g, if the other words are alike. -/
theorem HoldsS.set {w : World} {b : Nat} {f g : Nat → Bool} (h : HoldsS w b f) (i : Nat) (hi : i < 4) (ho : ∀ j, j < 4 → j ≠ i → wd f j = wd g j) : HoldsS (w.setCell ⟨b, i, none⟩ (.int .u64 (wd g i))) b g := by
  unfold HoldsS at *
  simp only [World.setCell, Array.getElem?_modify, h]
  simp only [if_true, Option.map_some, sob]
  have h0 := ho 0 (by omega)
  have h1 := ho 1 (by omega)
  have h2 := ho 2 (by omega)
  have h3 := ho 3 (by omega)
  match i, hi with
  | 0, _ => simp [h1, h2, h3]
  | 1, _ => simp [h0, h2, h3]
  | 2, _ => simp [h0, h1, h3]
  | 3, _ => simp [h0, h1, h2]
theorem HoldsS.other {w : World} {b : Nat} {f : Nat → Bool} (h : HoldsS w b f) {a : Addr} (ha : b ≠ a.block) (v : Value) : HoldsS (w.setCell a v) b f := (Below.heap_setCell w a v b ha).trans h

set_option maxHeartbeats 1000000 in
theorem range_any (lo hi : Int) (w : World) (h0 : 0 ≤ lo ∧ lo < 256) (h1 : 0 ≤ hi ∧ hi < 256) :
    Calls Try.prog 15 #[.int .u8 lo, .int .u8 hi] w fun e w' => e = .returned (sv (span lo hi)) ∧ Below w.heap.size w w' := by
  obtain ⟨h00, h01⟩ := h0
  obtain ⟨h10, h11⟩ := h1
  have hA0 := (HoldsS.zeros w rfl).alloc zeros
  have hB0 := HoldsS.zeros (w.alloc zeros) (b := w.heap.size + 1) (by simp)
  go_enter Try.func15, Try.ntmps15
  go_wp2_with fail
  go_loopw [6] (fun i wr => ∃ k : Int, lo ≤ k ∧ (k ≤ hi + 1 ∨ k = lo) ∧ i = .int .i64 k ∧ Below w.heap.size w wr ∧ HoldsS wr w.heap.size (fun _ => false) ∧ HoldsS wr (w.heap.size + 1) (span lo (k - 1))) (fun i _ => (256 - intOf i).toNat)
  case atStart => exact ⟨lo, by omega, by omega, rfl, (by repeat (first | exact Below.refl _ _ | assumption | refine Below.drew ?_ | refine below_drewN' ?_ _ | refine Below.setCell ?_ (by first | omega | (simp; done) | (simp; omega)) _ | refine Below.alloc ?_ (by first | omega | (simp; done) | (simp; omega)) _ | refine Below.trans ?_ (Below.mono (by assumption) (by first | omega | (simp; done) | (simp; omega))))), hA0, by rw [span_nil lo (lo - 1) (by omega)]; exact hB0⟩
  case round =>
    obtain ⟨k, hk, hk2, rfl, hbl, hA, hB⟩ := hrel
    clear hA0 hB0
    by_cases hlt : k ≤ hi
    · have HG := Lib.hid (span_snoc lo k h00 hk)
      generalize span lo (k - 1) = f at *
      obtain ⟨c0, c1, c2, c3⟩ := hB.cells
      have fz := hB.free
      rcases idx_split k (by omega) (by omega) with h2 | h2 | h2 | h2
      · have hb := addb_in f 0 k (by omega) h2
        go_wp2
        go_region
        go_wp2
        go_round
        case rel => exact ⟨k + 1, by omega, by omega, rfl, (by repeat (first | exact Below.refl _ _ | assumption | refine Below.drew ?_ | refine below_drewN' ?_ _ | refine Below.setCell ?_ (by first | omega | (simp; done) | (simp; omega)) _ | refine Below.alloc ?_ (by first | omega | (simp; done) | (simp; omega)) _ | refine Below.trans ?_ (Below.mono (by assumption) (by first | omega | (simp; done) | (simp; omega))))), HoldsS.other hA.drew (by simp) _, by rw [← HG.out]; exact HoldsS.set hB.drew 0 (by omega) (fun j _ hj => addb_out f j k (by omega) (by omega))⟩
        case measure => simp [intOf]; omega
      · have hb := addb_in f 1 k (by omega) h2
        go_wp2
        go_region
        go_wp2
        go_round
        case rel => exact ⟨k + 1, by omega, by omega, rfl, (by repeat (first | exact Below.refl _ _ | assumption | refine Below.drew ?_ | refine below_drewN' ?_ _ | refine Below.setCell ?_ (by first | omega | (simp; done) | (simp; omega)) _ | refine Below.alloc ?_ (by first | omega | (simp; done) | (simp; omega)) _ | refine Below.trans ?_ (Below.mono (by assumption) (by first | omega | (simp; done) | (simp; omega))))), HoldsS.other hA.drew (by simp) _, by rw [← HG.out]; exact HoldsS.set hB.drew 1 (by omega) (fun j _ hj => addb_out f j k (by omega) (by omega))⟩
        case measure => simp [intOf]; omega
      · have hb := addb_in f 2 k (by omega) h2
        go_wp2
        go_region
        go_wp2
        go_round
        case rel => exact ⟨k + 1, by omega, by omega, rfl, (by repeat (first | exact Below.refl _ _ | assumption | refine Below.drew ?_ | refine below_drewN' ?_ _ | refine Below.setCell ?_ (by first | omega | (simp; done) | (simp; omega)) _ | refine Below.alloc ?_ (by first | omega | (simp; done) | (simp; omega)) _ | refine Below.trans ?_ (Below.mono (by assumption) (by first | omega | (simp; done) | (simp; omega))))), HoldsS.other hA.drew (by simp) _, by rw [← HG.out]; exact HoldsS.set hB.drew 2 (by omega) (fun j _ hj => addb_out f j k (by omega) (by omega))⟩
        case measure => simp [intOf]; omega
      · have hb := addb_in f 3 k (by omega) h2
        go_wp2
        go_region
        go_wp2
        go_round
        case rel => exact ⟨k + 1, by omega, by omega, rfl, (by repeat (first | exact Below.refl _ _ | assumption | refine Below.drew ?_ | refine below_drewN' ?_ _ | refine Below.setCell ?_ (by first | omega | (simp; done) | (simp; omega)) _ | refine Below.alloc ?_ (by first | omega | (simp; done) | (simp; omega)) _ | refine Below.trans ?_ (Below.mono (by assumption) (by first | omega | (simp; done) | (simp; omega))))), HoldsS.other hA.drew (by simp) _, by rw [← HG.out]; exact HoldsS.set hB.drew 3 (by omega) (fun j _ hj => addb_out f j k (by omega) (by omega))⟩
        case measure => simp [intOf]; omega
    · have HG : Hid (span lo (k - 1) = span lo hi) := Lib.hid (by
        rcases hk2 with h | h
        · have : k - 1 = hi := by omega
          rw [this]
        · rw [span_nil lo hi (by omega), span_nil lo (k - 1) (by omega)])
      generalize span lo (k - 1) = f at *
      obtain ⟨c0, c1, c2, c3⟩ := hB.cells
      obtain ⟨d0, d1, d2, d3⟩ := hA.cells
      have fz := hA.free
      go_wp2
      exact bodyPost_ret (v := sv f) (by simp [results, Try.results15, go_sem, d0, d1, d2, d3]) rfl ⟨by rw [HG.out], (by repeat (first | exact Below.refl _ _ | assumption | refine Below.drew ?_ | refine below_drewN' ?_ _ | refine Below.setCell ?_ (by first | omega | (simp; done) | (simp; omega)) _ | refine Below.alloc ?_ (by first | omega | (simp; done) | (simp; omega)) _ | refine Below.trans ?_ (Below.mono (by assumption) (by first | omega | (simp; done) | (simp; omega)))))⟩

end Go.Proofs.Ytbmejpghoafapaa
