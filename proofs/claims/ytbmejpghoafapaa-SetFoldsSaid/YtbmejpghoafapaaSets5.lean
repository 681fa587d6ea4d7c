/-
  Walks: set.Fold, bolterref01.Other, and the law bolterlaw01.SetFolds.
-/
import Derived.Test.YtbmejpghoafapaaSets4
import Derived.Deep.RegionWith
namespace Go.Proofs.Ytbmejpghoafapaa
open Go.RowKit

/-- The set f behind k letters of Fold. -/
def fo (f : Nat → Bool) (k : Nat) : Nat → Bool := fun b => f b || (decide (65 ≤ b ∧ b < 65 + k) && f (b + 32)) || (decide (97 ≤ b ∧ b < 97 + k) && f (b - 32))
theorem fo_zero (f : Nat → Bool) : fo f 0 = f := by
  funext b
  have h1 : ¬ (65 ≤ b ∧ b < 65 + 0) := by omega
  have h2 : ¬ (97 ≤ b ∧ b < 97 + 0) := by omega
  unfold fo
  simp only [h1, h2, decide_false, Bool.false_and, Bool.or_false]
theorem fo_up (f : Nat → Bool) (k : Nat) (hk : k < 26) : fo f k (65 + k) = f (65 + k) := by
  have h1 : ¬ (65 ≤ 65 + k ∧ 65 + k < 65 + k) := by omega
  have h2 : ¬ (97 ≤ 65 + k ∧ 65 + k < 97 + k) := by omega
  unfold fo
  simp only [h1, h2, decide_false, Bool.false_and, Bool.or_false]
theorem fo_low (f : Nat → Bool) (k : Nat) : fo f k (97 + k) = f (97 + k) := by
  have h1 : ¬ (65 ≤ 97 + k ∧ 97 + k < 65 + k) := by omega
  have h2 : ¬ (97 ≤ 97 + k ∧ 97 + k < 97 + k) := by omega
  unfold fo
  simp only [h1, h2, decide_false, Bool.false_and, Bool.or_false]
theorem fo_step (f : Nat → Bool) (k b : Nat) (hk : k < 26) : fo f (k + 1) b = (fo f k b || (decide (b = 65 + k ∨ b = 97 + k) && (f (65 + k) || f (97 + k)))) := by
  unfold fo
  by_cases h1 : b = 65 + k
  · subst h1
    have e1 : (65 ≤ 65 + k ∧ 65 + k < 65 + (k + 1)) := by omega
    have e2 : ¬ (97 ≤ 65 + k ∧ 65 + k < 97 + (k + 1)) := by omega
    have e4 : ¬ (97 ≤ 65 + k ∧ 65 + k < 97 + k) := by omega
    simp only [e1, e2, e4, decide_true, decide_false, Bool.false_and, Bool.or_false, Bool.true_and, true_or, true_and, and_self]
    rw [show 65 + k + 32 = 97 + k from by omega]
    cases f (65 + k) <;> simp
  · by_cases h2 : b = 97 + k
    · subst h2
      have e1 : ¬ (65 ≤ 97 + k ∧ 97 + k < 65 + (k + 1)) := by omega
      have e2 : (97 ≤ 97 + k ∧ 97 + k < 97 + (k + 1)) := by omega
      have e3 : ¬ (65 ≤ 97 + k ∧ 97 + k < 65 + k) := by omega
      simp only [e1, e2, e3, decide_true, decide_false, Bool.false_and, Bool.or_false, Bool.true_and, or_true, true_and, and_self]
      rw [show 97 + k - 32 = 65 + k from by omega]
      cases f (65 + k) <;> cases f (97 + k) <;> simp
    · have e1 : (65 ≤ b ∧ b < 65 + (k + 1)) ↔ (65 ≤ b ∧ b < 65 + k) := by omega
      have e2 : (97 ≤ b ∧ b < 97 + (k + 1)) ↔ (97 ≤ b ∧ b < 97 + k) := by omega
      simp [e1, e2, h1, h2]
theorem fo_same (f : Nat → Bool) (k : Nat) (hk : k < 26) (h : f (65 + k) = false ∧ f (97 + k) = false) : fo f (k + 1) = fo f k := by
  funext b
  rw [fo_step f k b hk, h.1, h.2]
  simp
theorem fo_more (f : Nat → Bool) (k : Nat) (hk : k < 26) (h : f (65 + k) = true ∨ f (97 + k) = true) : (fun b => fo f k b || inl [65 + (k : Int), 65 + (k : Int) + 32] b) = fo f (k + 1) := by
  funext b
  rw [fo_step f k b hk]
  have hh : (f (65 + k) || f (97 + k)) = true := by rcases h with h | h <;> simp [h]
  rw [hh]
  have e1 : (65 + (k : Int)).toNat = 65 + k := by omega
  have e2 : (65 + (k : Int) + 32).toNat = 97 + k := by omega
  have e3 : decide (b = 65 + k ∨ b = 97 + k) = (b == 65 + k || b == 97 + k) := by rw [Bool.eq_iff_iff]; simp
  rw [e3]
  simp [inl, e1, e2]

theorem bytes_two (w : World) (x y : Int) (hx : 0 ≤ x ∧ x < 256) (hy : 0 ≤ y ∧ y < 256) : BytesAt (w.alloc (.cells #[.int .u8 x, .int .u8 y] 5)) (.slice (some ⟨w.heap.size, 0, none⟩) 2 2) [x, y] := by
  refine ⟨?_, _, 2, rfl, fun _ => ⟨_, 0, rfl, fun i hi => ?_⟩⟩
  · intro z hz
    simp at hz
    rcases hz with rfl | rfl <;> assumption
  · simp at hi
    rw [cell_of_row _ w.heap.size (0 + i) _ 5 (0, 0) (heap_alloc_new w _)]
    match i, hi with
    | 0, _ => rfl
    | 1, _ => rfl

set_option maxRecDepth 100000 in
set_option maxHeartbeats 2000000 in
theorem fold_any (f : Nat → Bool) (w : World) :
    Calls Try.prog 16 #[sv f] w fun e w' => e = .returned (sv (fo f 26)) ∧ Below w.heap.size w w' := by
  have hA0 := (HoldsS.made w f).alloc zeros
  have hC0 := HoldsS.zeros (w.alloc (sob f)) (b := w.heap.size + 1) (by simp)
  go_enter Try.func16, Try.ntmps16
  go_wp2_with fail
  go_loopw [3] (fun i wr => ∃ k : Nat, k ≤ 26 ∧ i = .int .u8 (65 + (k : Int)) ∧ Below w.heap.size w wr ∧ HoldsS wr w.heap.size (fo f k) ∧ HoldsS wr (w.heap.size + 1) (fun _ => false)) (fun i _ => (100 - intOf i).toNat)
  case atStart => exact ⟨0, by omega, rfl, (by repeat (first | exact Below.refl _ _ | assumption | refine Below.drew ?_ | refine below_drewN' ?_ _ | refine Below.setCell ?_ (by first | omega | (simp; done) | (simp; omega)) _ | refine Below.alloc ?_ (by first | omega | (simp; done) | (simp; omega)) _ | refine Below.trans ?_ (Below.mono (by assumption) (by first | omega | (simp; done) | (simp; omega))))), by rw [fo_zero]; exact hA0, hC0⟩
  case round =>
    clear hA0 hC0
    obtain ⟨k, hk, rfl, hbl, hA, hC⟩ := hrel
    by_cases hlt : k < 26
    · have hup := Lib.hid (fo_up f k hlt)
      have hlow := Lib.hid (fo_low f k)
      obtain ⟨c0, c1, c2, c3⟩ := hA.cells
      go_wp2_with fail
      refine (has_any (fo f k) (65 + (k : Int)) _ (by omega) (by omega)).mono ?_
      rintro e w1 ⟨rfl, hb1⟩
      have hA1 := hA.below hb1 hA.lt
      have e1 : (65 + (k : Int)).toNat = 65 + k := by omega
      have e2 : (65 + (k : Int) + 32).toNat = 97 + k := by omega
      rw [e1, hup.out]
      clear c0 c1 c2 c3 e1
      obtain ⟨c0, c1, c2, c3⟩ := hA1.cells
      have hs1 := hb1.size
      have hs0 := hbl.size
      cases hf1 : f (65 + k)
      · go_wp2_with fail
        refine (has_any (fo f k) (65 + (k : Int) + 32) _ (by omega) (by omega)).mono ?_
        rintro e w2 ⟨rfl, hb2⟩
        have hA2 := hA1.below hb2 hA1.lt
        have hC2 := (hC.below hb1 hC.lt).below hb2 (by have := hC.lt; omega)
        rw [e2, hlow.out]
        clear c0 c1 c2 c3 e2
        have hs2 := hb2.size
        cases hf2 : f (97 + k)
        · have HS := Lib.hid (fo_same f k hlt ⟨hf1, hf2⟩)
          clear hf1 hf2
          go_wp2_with fail
          go_round
          case rel => exact ⟨k + 1, by omega, by go_num, (by repeat (first | exact Below.refl _ _ | assumption | refine Below.drew ?_ | refine below_drewN' ?_ _ | refine Below.setCell ?_ (by first | omega | (simp; done) | (simp; omega)) _ | refine Below.alloc ?_ (by first | omega | (simp; done) | (simp; omega)) _ | refine Below.trans ?_ (Below.mono (by assumption) (by first | omega | (simp; done) | (simp; omega))))), by rw [HS.out]; exact hA2, hC2⟩
          case measure => simp [intOf]; omega
        · have HS := Lib.hid (fo_more f k hlt (Or.inr hf2))
          clear hf1 hf2
          obtain ⟨c0, c1, c2, c3⟩ := hA2.cells
          have hlt2 := hA2.lt
          have hltc := hC2.lt
          have hsum : IntKind.u8.wrap (65 + (k : Int) + 32) = 65 + (k : Int) + 32 := by rw [IntKind.wrap_u8]; omega
          go_wp2_with fail
          go_region_with (first | (go_at_call 14; refine (of_any [65 + (k : Int), 65 + (k : Int) + 32] _ _ (by exact bytes_two w2 _ _ ⟨by omega, by omega⟩ ⟨by omega, by omega⟩) (by simp)).mono ?_; rintro e w3 ⟨rfl, hb3⟩; have hA3 := ((hA2.alloc _).drew.below hb3 (by simp; omega)); have hC3 := ((hC2.alloc _).drew.below hb3 (by simp; omega)); obtain ⟨d0, d1, d2, d3⟩ := hA3.cells) | (go_at_call 19; refine (union_any _ _ _).mono ?_; rintro e w4 ⟨rfl, hb4⟩; have hA4 := hA3.below hb4 hA3.lt; have hC4 := hC3.below hb4 hC3.lt; obtain ⟨e0, e1, e2, e3⟩ := hA4.cells; have fz := hA4.free))
          all_goals
            have hs3 := hb3.size
            have hs4 := hb4.size
            simp at hs3
            clear d0 d1 d2 d3 e0 e1 e2 e3 c0 c1 c2 c3 fz
            rw [HS.out]
            go_wp2_with fail
            go_round
            case rel => exact ⟨k + 1, by omega, by go_num, (by repeat (first | exact Below.refl _ _ | assumption | refine Below.drew ?_ | refine below_drewN' ?_ _ | refine Below.setCell ?_ (by first | omega | (simp; done) | (simp; omega)) _ | refine Below.alloc ?_ (by first | omega | (simp; done) | (simp; omega)) _ | refine Below.trans ?_ (Below.mono (by assumption) (by first | omega | (simp; done) | (simp; omega))))), hA4.all _, HoldsS.other4 hC4 (by omega) _ _ _ _⟩
            case measure => simp [intOf]; omega
      · have HS := Lib.hid (fo_more f k hlt (Or.inl hf1))
        have hC1 := hC.below hb1 hC.lt
        clear hf1 e2
        have hlt2 := hA1.lt
        have hltc := hC1.lt
        have hsum : IntKind.u8.wrap (65 + (k : Int) + 32) = 65 + (k : Int) + 32 := by rw [IntKind.wrap_u8]; omega
        go_wp2_with fail
        go_region_with (first | (go_at_call 14; refine (of_any [65 + (k : Int), 65 + (k : Int) + 32] _ _ (by exact bytes_two w1 _ _ ⟨by omega, by omega⟩ ⟨by omega, by omega⟩) (by simp)).mono ?_; rintro e w3 ⟨rfl, hb3⟩; have hA3 := ((hA1.alloc _).drew.below hb3 (by simp; omega)); have hC3 := ((hC1.alloc _).drew.below hb3 (by simp; omega)); obtain ⟨d0, d1, d2, d3⟩ := hA3.cells) | (go_at_call 19; refine (union_any _ _ _).mono ?_; rintro e w4 ⟨rfl, hb4⟩; have hA4 := hA3.below hb4 hA3.lt; have hC4 := hC3.below hb4 hC3.lt; obtain ⟨e0, e1, e2, e3⟩ := hA4.cells; have fz := hA4.free))
        all_goals
          have hs3 := hb3.size
          have hs4 := hb4.size
          simp at hs3
          clear d0 d1 d2 d3 e0 e1 e2 e3 c0 c1 c2 c3 fz
          rw [HS.out]
          go_wp2_with fail
          go_round
          case rel => exact ⟨k + 1, by omega, by go_num, (by repeat (first | exact Below.refl _ _ | assumption | refine Below.drew ?_ | refine below_drewN' ?_ _ | refine Below.setCell ?_ (by first | omega | (simp; done) | (simp; omega)) _ | refine Below.alloc ?_ (by first | omega | (simp; done) | (simp; omega)) _ | refine Below.trans ?_ (Below.mono (by assumption) (by first | omega | (simp; done) | (simp; omega))))), hA4.all _, HoldsS.other4 hC4 (by omega) _ _ _ _⟩
          case measure => simp [intOf]; omega
    · obtain rfl : k = 26 := by omega
      generalize hm : fo f 26 = m at *
      have HM := Lib.hid hm
      clear hm
      obtain ⟨c0, c1, c2, c3⟩ := hA.cells
      obtain ⟨e0, e1, e2, e3⟩ := hC.cells
      have fc := hC.free
      go_wp2_with fail
      exact bodyPost_ret (v := sv m) (by simp [results, Try.results16, go_sem, e0, e1, e2, e3]) rfl ⟨by rw [HM.out], (by repeat (first | exact Below.refl _ _ | assumption | refine Below.drew ?_ | refine below_drewN' ?_ _ | refine Below.setCell ?_ (by first | omega | (simp; done) | (simp; omega)) _ | refine Below.alloc ?_ (by first | omega | (simp; done) | (simp; omega)) _ | refine Below.trans ?_ (Below.mono (by assumption) (by first | omega | (simp; done) | (simp; omega)))))⟩

end Go.Proofs.Ytbmejpghoafapaa
