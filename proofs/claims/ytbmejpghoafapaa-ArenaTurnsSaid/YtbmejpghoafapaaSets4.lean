/-
  Walks: set.Union, set.Inter, set.Minus, set.Not.
-/
import Derived.Test.YtbmejpghoafapaaSets3
namespace Go.Proofs.Ytbmejpghoafapaa
open Go.RowKit

/-- h below 64 k, f from there on. -/
def mix (h f : Nat → Bool) (k : Nat) : Nat → Bool := fun b => if b < 64 * k then h b else f b
theorem mix_zero (h f : Nat → Bool) : mix h f 0 = f := by funext b; simp [mix]
theorem mix_at (h f : Nat → Bool) (k : Nat) : wd (mix h f k) k = wd f k := wd_ext fun j hj => by unfold mix; rw [if_neg (by omega)]
theorem mix_new (h f : Nat → Bool) (k : Nat) : wd (mix h f (k + 1)) k = wd h k := wd_ext fun j hj => by unfold mix; rw [if_pos (by omega)]
theorem mix_else (h f : Nat → Bool) (k j : Nat) (hj : j ≠ k) : wd (mix h f k) j = wd (mix h f (k + 1)) j := wd_ext fun i hi => by
  unfold mix
  by_cases hlt : 64 * j + i < 64 * k
  · rw [if_pos hlt, if_pos (by omega)]
  · rw [if_neg hlt, if_neg (by omega)]
theorem mix_four (h f : Nat → Bool) (j : Nat) (hj : j < 4) : wd (mix h f 4) j = wd h j := wd_ext fun i hi => by unfold mix; rw [if_pos (by omega)]
theorem sv_mix (h f : Nat → Bool) : sv (mix h f 4) = sv h := by simp only [sv, mix_four h f 0 (by omega), mix_four h f 1 (by omega), mix_four h f 2 (by omega), mix_four h f 3 (by omega)]

theorem wd_andNot (f g : Nat → Bool) (i : Nat) : bits .andNot .u64 (wd f i) (wd g i) = wd (fun b => f b && !g b) i := by
  rw [u64_andNot _ _ (wd_lo f i) (wd_hi f i) (wd_lo g i) (wd_hi g i), wd_toNat, wd_toNat]
  show ((_ : Nat) : Int) = ((_ : Nat) : Int)
  congr 1
  have hlt := wn_lt g i
  have e : 18446744073709551615 - wn g i = 2 ^ 64 - (wn g i + 1) := by
    have : (2 : Nat) ^ 64 = 18446744073709551616 := by decide
    omega
  refine wn_eq _ (Nat.lt_of_le_of_lt Nat.and_le_left (wn_lt f i)) _ i fun k hk => ?_
  rw [e, Nat.testBit_and, Nat.testBit_two_pow_sub_succ (by simpa using hlt), wn_testBit, wn_testBit]
  simp [hk]
theorem wd_notBits (f : Nat → Bool) (i : Nat) : bits .xor .u64 (if IntKind.u64.signed = true then -1 else IntKind.u64.max) (wd f i) = wd (fun b => !f b) i := by
  have e : (if IntKind.u64.signed = true then (-1 : Int) else IntKind.u64.max) = wd (fun _ => true) i := by rw [wd_full]; rfl
  have h := wd_xor (fun _ => true) f i
  rw [e, h]
  simp

set_option maxRecDepth 100000 in
set_option maxHeartbeats 2000000 in
theorem union_gen (f g h : Nat → Bool) (hop : ∀ i, bits .or .u64 (wd f i) (wd g i) = wd h i) (w : World) :
    Calls Try.prog 19 #[sv f, sv g] w fun e w' => e = .returned (sv h) ∧ Below w.heap.size w w' := by
  have hA0 := ((HoldsS.made w f).alloc (sob g)).alloc zeros
  have hB0 := (HoldsS.made (w.alloc (sob f)) g).alloc zeros
  rw [World.size_alloc] at hB0
  have hC0 := HoldsS.zeros ((w.alloc (sob f)).alloc (sob g)) (b := w.heap.size + 1 + 1) (by simp)
  have HO := Lib.hid hop
  have HM := Lib.hid (sv_mix h f)
  clear hop
  go_enter Try.func19, Try.ntmps19
  go_wp2_with fail
  go_loopw [5, 6] (fun _ i wr => ∃ k : Nat, k ≤ 4 ∧ i = .int .i64 k ∧ Below w.heap.size w wr ∧ HoldsS wr w.heap.size (mix h f k) ∧ HoldsS wr (w.heap.size + 1) g ∧ HoldsS wr (w.heap.size + 1 + 1) (fun _ => false)) (fun _ i _ => (4 - intOf i).toNat)
  case atStart => exact ⟨0, by omega, rfl, (by repeat (first | exact Below.refl _ _ | assumption | refine Below.drew ?_ | refine below_drewN' ?_ _ | refine Below.setCell ?_ (by first | omega | (simp; done) | (simp; omega)) _ | refine Below.alloc ?_ (by first | omega | (simp; done) | (simp; omega)) _ | refine Below.trans ?_ (Below.mono (by assumption) (by first | omega | (simp; done) | (simp; omega))))), by rw [mix_zero]; exact hA0, hB0, hC0⟩
  case round =>
    clear hA0 hB0 hC0
    obtain ⟨k, hk, rfl, hbl, hA, hB, hC⟩ := hrel
    obtain ⟨c0, c1, c2, c3⟩ := hA.cells
    obtain ⟨d0, d1, d2, d3⟩ := hB.cells
    have fz := hA.free
    have hK : k = 0 ∨ k = 1 ∨ k = 2 ∨ k = 3 ∨ k = 4 := by omega
    clear hk
    rcases hK with rfl | rfl | rfl | rfl | rfl
    · rw [mix_at] at c0
      have ho := HO.out 0
      go_wp2_with fail
      go_region
      go_wp2_with fail
      go_round
      case rel => exact ⟨1, by omega, rfl, (by repeat (first | exact Below.refl _ _ | assumption | refine Below.drew ?_ | refine below_drewN' ?_ _ | refine Below.setCell ?_ (by first | omega | (simp; done) | (simp; omega)) _ | refine Below.alloc ?_ (by first | omega | (simp; done) | (simp; omega)) _ | refine Below.trans ?_ (Below.mono (by assumption) (by first | omega | (simp; done) | (simp; omega))))), by rw [← mix_new h f 0]; exact HoldsS.set hA 0 (by omega) (fun j _ hj => mix_else h f 0 j hj), HoldsS.other hB (by simp) _, HoldsS.other hC (by show _ ≠ w.heap.size; omega) _⟩
      case measure => simp [intOf]
    · rw [mix_at] at c1
      have ho := HO.out 1
      go_wp2_with fail
      go_region
      go_wp2_with fail
      go_round
      case rel => exact ⟨2, by omega, rfl, (by repeat (first | exact Below.refl _ _ | assumption | refine Below.drew ?_ | refine below_drewN' ?_ _ | refine Below.setCell ?_ (by first | omega | (simp; done) | (simp; omega)) _ | refine Below.alloc ?_ (by first | omega | (simp; done) | (simp; omega)) _ | refine Below.trans ?_ (Below.mono (by assumption) (by first | omega | (simp; done) | (simp; omega))))), by rw [← mix_new h f 1]; exact HoldsS.set hA 1 (by omega) (fun j _ hj => mix_else h f 1 j hj), HoldsS.other hB (by simp) _, HoldsS.other hC (by show _ ≠ w.heap.size; omega) _⟩
      case measure => simp [intOf]
    · rw [mix_at] at c2
      have ho := HO.out 2
      go_wp2_with fail
      go_region
      go_wp2_with fail
      go_round
      case rel => exact ⟨3, by omega, rfl, (by repeat (first | exact Below.refl _ _ | assumption | refine Below.drew ?_ | refine below_drewN' ?_ _ | refine Below.setCell ?_ (by first | omega | (simp; done) | (simp; omega)) _ | refine Below.alloc ?_ (by first | omega | (simp; done) | (simp; omega)) _ | refine Below.trans ?_ (Below.mono (by assumption) (by first | omega | (simp; done) | (simp; omega))))), by rw [← mix_new h f 2]; exact HoldsS.set hA 2 (by omega) (fun j _ hj => mix_else h f 2 j hj), HoldsS.other hB (by simp) _, HoldsS.other hC (by show _ ≠ w.heap.size; omega) _⟩
      case measure => simp [intOf]
    · rw [mix_at] at c3
      have ho := HO.out 3
      go_wp2_with fail
      go_region
      go_wp2_with fail
      go_round
      case rel => exact ⟨4, by omega, rfl, (by repeat (first | exact Below.refl _ _ | assumption | refine Below.drew ?_ | refine below_drewN' ?_ _ | refine Below.setCell ?_ (by first | omega | (simp; done) | (simp; omega)) _ | refine Below.alloc ?_ (by first | omega | (simp; done) | (simp; omega)) _ | refine Below.trans ?_ (Below.mono (by assumption) (by first | omega | (simp; done) | (simp; omega))))), by rw [← mix_new h f 3]; exact HoldsS.set hA 3 (by omega) (fun j _ hj => mix_else h f 3 j hj), HoldsS.other hB (by simp) _, HoldsS.other hC (by show _ ≠ w.heap.size; omega) _⟩
      case measure => simp [intOf]
    · generalize mix h f 4 = m at *
      obtain ⟨e0, e1, e2, e3⟩ := hC.cells
      have fc := hC.free
      clear fz hB d0 d1 d2 d3
      go_wp2_with fail
      exact bodyPost_ret (v := sv m) (by simp [results, Try.results19, go_sem, e0, e1, e2, e3]) rfl ⟨by rw [HM.out], (by repeat (first | exact Below.refl _ _ | assumption | refine Below.drew ?_ | refine below_drewN' ?_ _ | refine Below.setCell ?_ (by first | omega | (simp; done) | (simp; omega)) _ | refine Below.alloc ?_ (by first | omega | (simp; done) | (simp; omega)) _ | refine Below.trans ?_ (Below.mono (by assumption) (by first | omega | (simp; done) | (simp; omega)))))⟩
theorem union_any (f g : Nat → Bool) (w : World) : Calls Try.prog 19 #[sv f, sv g] w fun e w' => e = .returned (sv fun b => f b || g b) ∧ Below w.heap.size w w' :=
  union_gen f g _ (fun i => wd_or f g i) w

set_option maxRecDepth 100000 in
set_option maxHeartbeats 2000000 in
theorem inter_gen (f g h : Nat → Bool) (hop : ∀ i, bits .and .u64 (wd f i) (wd g i) = wd h i) (w : World) :
    Calls Try.prog 20 #[sv f, sv g] w fun e w' => e = .returned (sv h) ∧ Below w.heap.size w w' := by
  have hA0 := ((HoldsS.made w f).alloc (sob g)).alloc zeros
  have hB0 := (HoldsS.made (w.alloc (sob f)) g).alloc zeros
  rw [World.size_alloc] at hB0
  have hC0 := HoldsS.zeros ((w.alloc (sob f)).alloc (sob g)) (b := w.heap.size + 1 + 1) (by simp)
  have HO := Lib.hid hop
  have HM := Lib.hid (sv_mix h f)
  clear hop
  go_enter Try.func20, Try.ntmps20
  go_wp2_with fail
  go_loopw [5, 6] (fun _ i wr => ∃ k : Nat, k ≤ 4 ∧ i = .int .i64 k ∧ Below w.heap.size w wr ∧ HoldsS wr w.heap.size (mix h f k) ∧ HoldsS wr (w.heap.size + 1) g ∧ HoldsS wr (w.heap.size + 1 + 1) (fun _ => false)) (fun _ i _ => (4 - intOf i).toNat)
  case atStart => exact ⟨0, by omega, rfl, (by repeat (first | exact Below.refl _ _ | assumption | refine Below.drew ?_ | refine below_drewN' ?_ _ | refine Below.setCell ?_ (by first | omega | (simp; done) | (simp; omega)) _ | refine Below.alloc ?_ (by first | omega | (simp; done) | (simp; omega)) _ | refine Below.trans ?_ (Below.mono (by assumption) (by first | omega | (simp; done) | (simp; omega))))), by rw [mix_zero]; exact hA0, hB0, hC0⟩
  case round =>
    clear hA0 hB0 hC0
    obtain ⟨k, hk, rfl, hbl, hA, hB, hC⟩ := hrel
    obtain ⟨c0, c1, c2, c3⟩ := hA.cells
    obtain ⟨d0, d1, d2, d3⟩ := hB.cells
    have fz := hA.free
    have hK : k = 0 ∨ k = 1 ∨ k = 2 ∨ k = 3 ∨ k = 4 := by omega
    clear hk
    rcases hK with rfl | rfl | rfl | rfl | rfl
    · rw [mix_at] at c0
      have ho := HO.out 0
      go_wp2_with fail
      go_region
      go_wp2_with fail
      go_round
      case rel => exact ⟨1, by omega, rfl, (by repeat (first | exact Below.refl _ _ | assumption | refine Below.drew ?_ | refine below_drewN' ?_ _ | refine Below.setCell ?_ (by first | omega | (simp; done) | (simp; omega)) _ | refine Below.alloc ?_ (by first | omega | (simp; done) | (simp; omega)) _ | refine Below.trans ?_ (Below.mono (by assumption) (by first | omega | (simp; done) | (simp; omega))))), by rw [← mix_new h f 0]; exact HoldsS.set hA 0 (by omega) (fun j _ hj => mix_else h f 0 j hj), HoldsS.other hB (by simp) _, HoldsS.other hC (by show _ ≠ w.heap.size; omega) _⟩
      case measure => simp [intOf]
    · rw [mix_at] at c1
      have ho := HO.out 1
      go_wp2_with fail
      go_region
      go_wp2_with fail
      go_round
      case rel => exact ⟨2, by omega, rfl, (by repeat (first | exact Below.refl _ _ | assumption | refine Below.drew ?_ | refine below_drewN' ?_ _ | refine Below.setCell ?_ (by first | omega | (simp; done) | (simp; omega)) _ | refine Below.alloc ?_ (by first | omega | (simp; done) | (simp; omega)) _ | refine Below.trans ?_ (Below.mono (by assumption) (by first | omega | (simp; done) | (simp; omega))))), by rw [← mix_new h f 1]; exact HoldsS.set hA 1 (by omega) (fun j _ hj => mix_else h f 1 j hj), HoldsS.other hB (by simp) _, HoldsS.other hC (by show _ ≠ w.heap.size; omega) _⟩
      case measure => simp [intOf]
    · rw [mix_at] at c2
      have ho := HO.out 2
      go_wp2_with fail
      go_region
      go_wp2_with fail
      go_round
      case rel => exact ⟨3, by omega, rfl, (by repeat (first | exact Below.refl _ _ | assumption | refine Below.drew ?_ | refine below_drewN' ?_ _ | refine Below.setCell ?_ (by first | omega | (simp; done) | (simp; omega)) _ | refine Below.alloc ?_ (by first | omega | (simp; done) | (simp; omega)) _ | refine Below.trans ?_ (Below.mono (by assumption) (by first | omega | (simp; done) | (simp; omega))))), by rw [← mix_new h f 2]; exact HoldsS.set hA 2 (by omega) (fun j _ hj => mix_else h f 2 j hj), HoldsS.other hB (by simp) _, HoldsS.other hC (by show _ ≠ w.heap.size; omega) _⟩
      case measure => simp [intOf]
    · rw [mix_at] at c3
      have ho := HO.out 3
      go_wp2_with fail
      go_region
      go_wp2_with fail
      go_round
      case rel => exact ⟨4, by omega, rfl, (by repeat (first | exact Below.refl _ _ | assumption | refine Below.drew ?_ | refine below_drewN' ?_ _ | refine Below.setCell ?_ (by first | omega | (simp; done) | (simp; omega)) _ | refine Below.alloc ?_ (by first | omega | (simp; done) | (simp; omega)) _ | refine Below.trans ?_ (Below.mono (by assumption) (by first | omega | (simp; done) | (simp; omega))))), by rw [← mix_new h f 3]; exact HoldsS.set hA 3 (by omega) (fun j _ hj => mix_else h f 3 j hj), HoldsS.other hB (by simp) _, HoldsS.other hC (by show _ ≠ w.heap.size; omega) _⟩
      case measure => simp [intOf]
    · generalize mix h f 4 = m at *
      obtain ⟨e0, e1, e2, e3⟩ := hC.cells
      have fc := hC.free
      clear fz hB d0 d1 d2 d3
      go_wp2_with fail
      exact bodyPost_ret (v := sv m) (by simp [results, Try.results20, go_sem, e0, e1, e2, e3]) rfl ⟨by rw [HM.out], (by repeat (first | exact Below.refl _ _ | assumption | refine Below.drew ?_ | refine below_drewN' ?_ _ | refine Below.setCell ?_ (by first | omega | (simp; done) | (simp; omega)) _ | refine Below.alloc ?_ (by first | omega | (simp; done) | (simp; omega)) _ | refine Below.trans ?_ (Below.mono (by assumption) (by first | omega | (simp; done) | (simp; omega)))))⟩
theorem inter_any (f g : Nat → Bool) (w : World) : Calls Try.prog 20 #[sv f, sv g] w fun e w' => e = .returned (sv fun b => f b && g b) ∧ Below w.heap.size w w' :=
  inter_gen f g _ (fun i => wd_and f g i) w

set_option maxRecDepth 100000 in
set_option maxHeartbeats 2000000 in
theorem minus_gen (f g h : Nat → Bool) (hop : ∀ i, bits .andNot .u64 (wd f i) (wd g i) = wd h i) (w : World) :
    Calls Try.prog 21 #[sv f, sv g] w fun e w' => e = .returned (sv h) ∧ Below w.heap.size w w' := by
  have hA0 := ((HoldsS.made w f).alloc (sob g)).alloc zeros
  have hB0 := (HoldsS.made (w.alloc (sob f)) g).alloc zeros
  rw [World.size_alloc] at hB0
  have hC0 := HoldsS.zeros ((w.alloc (sob f)).alloc (sob g)) (b := w.heap.size + 1 + 1) (by simp)
  have HO := Lib.hid hop
  have HM := Lib.hid (sv_mix h f)
  clear hop
  go_enter Try.func21, Try.ntmps21
  go_wp2_with fail
  go_loopw [5, 6] (fun _ i wr => ∃ k : Nat, k ≤ 4 ∧ i = .int .i64 k ∧ Below w.heap.size w wr ∧ HoldsS wr w.heap.size (mix h f k) ∧ HoldsS wr (w.heap.size + 1) g ∧ HoldsS wr (w.heap.size + 1 + 1) (fun _ => false)) (fun _ i _ => (4 - intOf i).toNat)
  case atStart => exact ⟨0, by omega, rfl, (by repeat (first | exact Below.refl _ _ | assumption | refine Below.drew ?_ | refine below_drewN' ?_ _ | refine Below.setCell ?_ (by first | omega | (simp; done) | (simp; omega)) _ | refine Below.alloc ?_ (by first | omega | (simp; done) | (simp; omega)) _ | refine Below.trans ?_ (Below.mono (by assumption) (by first | omega | (simp; done) | (simp; omega))))), by rw [mix_zero]; exact hA0, hB0, hC0⟩
  case round =>
    clear hA0 hB0 hC0
    obtain ⟨k, hk, rfl, hbl, hA, hB, hC⟩ := hrel
    obtain ⟨c0, c1, c2, c3⟩ := hA.cells
    obtain ⟨d0, d1, d2, d3⟩ := hB.cells
    have fz := hA.free
    have hK : k = 0 ∨ k = 1 ∨ k = 2 ∨ k = 3 ∨ k = 4 := by omega
    clear hk
    rcases hK with rfl | rfl | rfl | rfl | rfl
    · rw [mix_at] at c0
      have ho := HO.out 0
      go_wp2_with fail
      go_region
      go_wp2_with fail
      go_round
      case rel => exact ⟨1, by omega, rfl, (by repeat (first | exact Below.refl _ _ | assumption | refine Below.drew ?_ | refine below_drewN' ?_ _ | refine Below.setCell ?_ (by first | omega | (simp; done) | (simp; omega)) _ | refine Below.alloc ?_ (by first | omega | (simp; done) | (simp; omega)) _ | refine Below.trans ?_ (Below.mono (by assumption) (by first | omega | (simp; done) | (simp; omega))))), by rw [← mix_new h f 0]; exact HoldsS.set hA 0 (by omega) (fun j _ hj => mix_else h f 0 j hj), HoldsS.other hB (by simp) _, HoldsS.other hC (by show _ ≠ w.heap.size; omega) _⟩
      case measure => simp [intOf]
    · rw [mix_at] at c1
      have ho := HO.out 1
      go_wp2_with fail
      go_region
      go_wp2_with fail
      go_round
      case rel => exact ⟨2, by omega, rfl, (by repeat (first | exact Below.refl _ _ | assumption | refine Below.drew ?_ | refine below_drewN' ?_ _ | refine Below.setCell ?_ (by first | omega | (simp; done) | (simp; omega)) _ | refine Below.alloc ?_ (by first | omega | (simp; done) | (simp; omega)) _ | refine Below.trans ?_ (Below.mono (by assumption) (by first | omega | (simp; done) | (simp; omega))))), by rw [← mix_new h f 1]; exact HoldsS.set hA 1 (by omega) (fun j _ hj => mix_else h f 1 j hj), HoldsS.other hB (by simp) _, HoldsS.other hC (by show _ ≠ w.heap.size; omega) _⟩
      case measure => simp [intOf]
    · rw [mix_at] at c2
      have ho := HO.out 2
      go_wp2_with fail
      go_region
      go_wp2_with fail
      go_round
      case rel => exact ⟨3, by omega, rfl, (by repeat (first | exact Below.refl _ _ | assumption | refine Below.drew ?_ | refine below_drewN' ?_ _ | refine Below.setCell ?_ (by first | omega | (simp; done) | (simp; omega)) _ | refine Below.alloc ?_ (by first | omega | (simp; done) | (simp; omega)) _ | refine Below.trans ?_ (Below.mono (by assumption) (by first | omega | (simp; done) | (simp; omega))))), by rw [← mix_new h f 2]; exact HoldsS.set hA 2 (by omega) (fun j _ hj => mix_else h f 2 j hj), HoldsS.other hB (by simp) _, HoldsS.other hC (by show _ ≠ w.heap.size; omega) _⟩
      case measure => simp [intOf]
    · rw [mix_at] at c3
      have ho := HO.out 3
      go_wp2_with fail
      go_region
      go_wp2_with fail
      go_round
      case rel => exact ⟨4, by omega, rfl, (by repeat (first | exact Below.refl _ _ | assumption | refine Below.drew ?_ | refine below_drewN' ?_ _ | refine Below.setCell ?_ (by first | omega | (simp; done) | (simp; omega)) _ | refine Below.alloc ?_ (by first | omega | (simp; done) | (simp; omega)) _ | refine Below.trans ?_ (Below.mono (by assumption) (by first | omega | (simp; done) | (simp; omega))))), by rw [← mix_new h f 3]; exact HoldsS.set hA 3 (by omega) (fun j _ hj => mix_else h f 3 j hj), HoldsS.other hB (by simp) _, HoldsS.other hC (by show _ ≠ w.heap.size; omega) _⟩
      case measure => simp [intOf]
    · generalize mix h f 4 = m at *
      obtain ⟨e0, e1, e2, e3⟩ := hC.cells
      have fc := hC.free
      clear fz hB d0 d1 d2 d3
      go_wp2_with fail
      exact bodyPost_ret (v := sv m) (by simp [results, Try.results21, go_sem, e0, e1, e2, e3]) rfl ⟨by rw [HM.out], (by repeat (first | exact Below.refl _ _ | assumption | refine Below.drew ?_ | refine below_drewN' ?_ _ | refine Below.setCell ?_ (by first | omega | (simp; done) | (simp; omega)) _ | refine Below.alloc ?_ (by first | omega | (simp; done) | (simp; omega)) _ | refine Below.trans ?_ (Below.mono (by assumption) (by first | omega | (simp; done) | (simp; omega)))))⟩
theorem minus_any (f g : Nat → Bool) (w : World) : Calls Try.prog 21 #[sv f, sv g] w fun e w' => e = .returned (sv fun b => f b && !g b) ∧ Below w.heap.size w w' :=
  minus_gen f g _ (fun i => wd_andNot f g i) w

set_option maxRecDepth 100000 in
set_option maxHeartbeats 2000000 in
theorem not_any (f : Nat → Bool) (w : World) :
    Calls Try.prog 22 #[sv f] w fun e w' => e = .returned (sv fun b => !f b) ∧ Below w.heap.size w w' := by
  have hA0 := (HoldsS.made w f).alloc zeros
  have hC0 := HoldsS.zeros (w.alloc (sob f)) (b := w.heap.size + 1) (by simp)
  have HO := Lib.hid (wd_notBits f)
  obtain ⟨h, hh⟩ : ∃ h : Nat → Bool, (fun b => !f b) = h := ⟨_, rfl⟩
  rw [hh] at HO ⊢
  clear hh
  have HM := Lib.hid (sv_mix h f)
  go_enter Try.func22, Try.ntmps22
  go_wp2_with fail
  go_loopw [3, 4] (fun _ i wr => ∃ k : Nat, k ≤ 4 ∧ i = .int .i64 k ∧ Below w.heap.size w wr ∧ HoldsS wr w.heap.size (mix h f k) ∧ HoldsS wr (w.heap.size + 1) (fun _ => false)) (fun _ i _ => (4 - intOf i).toNat)
  case atStart => exact ⟨0, by omega, rfl, (by repeat (first | exact Below.refl _ _ | assumption | refine Below.drew ?_ | refine below_drewN' ?_ _ | refine Below.setCell ?_ (by first | omega | (simp; done) | (simp; omega)) _ | refine Below.alloc ?_ (by first | omega | (simp; done) | (simp; omega)) _ | refine Below.trans ?_ (Below.mono (by assumption) (by first | omega | (simp; done) | (simp; omega))))), by rw [mix_zero]; exact hA0, hC0⟩
  case round =>
    clear hA0 hC0
    obtain ⟨k, hk, rfl, hbl, hA, hC⟩ := hrel
    obtain ⟨c0, c1, c2, c3⟩ := hA.cells
    have fz := hA.free
    have hK : k = 0 ∨ k = 1 ∨ k = 2 ∨ k = 3 ∨ k = 4 := by omega
    clear hk
    rcases hK with rfl | rfl | rfl | rfl | rfl
    · rw [mix_at] at c0
      have ho := HO.out 0
      go_wp2_with fail
      go_round
      case rel => exact ⟨1, by omega, rfl, (by repeat (first | exact Below.refl _ _ | assumption | refine Below.drew ?_ | refine below_drewN' ?_ _ | refine Below.setCell ?_ (by first | omega | (simp; done) | (simp; omega)) _ | refine Below.alloc ?_ (by first | omega | (simp; done) | (simp; omega)) _ | refine Below.trans ?_ (Below.mono (by assumption) (by first | omega | (simp; done) | (simp; omega))))), by rw [← mix_new h f 0]; exact HoldsS.set hA 0 (by omega) (fun j _ hj => mix_else h f 0 j hj), HoldsS.other hC (by show _ ≠ w.heap.size; omega) _⟩
      case measure => simp [intOf]
    · rw [mix_at] at c1
      have ho := HO.out 1
      go_wp2_with fail
      go_round
      case rel => exact ⟨2, by omega, rfl, (by repeat (first | exact Below.refl _ _ | assumption | refine Below.drew ?_ | refine below_drewN' ?_ _ | refine Below.setCell ?_ (by first | omega | (simp; done) | (simp; omega)) _ | refine Below.alloc ?_ (by first | omega | (simp; done) | (simp; omega)) _ | refine Below.trans ?_ (Below.mono (by assumption) (by first | omega | (simp; done) | (simp; omega))))), by rw [← mix_new h f 1]; exact HoldsS.set hA 1 (by omega) (fun j _ hj => mix_else h f 1 j hj), HoldsS.other hC (by show _ ≠ w.heap.size; omega) _⟩
      case measure => simp [intOf]
    · rw [mix_at] at c2
      have ho := HO.out 2
      go_wp2_with fail
      go_round
      case rel => exact ⟨3, by omega, rfl, (by repeat (first | exact Below.refl _ _ | assumption | refine Below.drew ?_ | refine below_drewN' ?_ _ | refine Below.setCell ?_ (by first | omega | (simp; done) | (simp; omega)) _ | refine Below.alloc ?_ (by first | omega | (simp; done) | (simp; omega)) _ | refine Below.trans ?_ (Below.mono (by assumption) (by first | omega | (simp; done) | (simp; omega))))), by rw [← mix_new h f 2]; exact HoldsS.set hA 2 (by omega) (fun j _ hj => mix_else h f 2 j hj), HoldsS.other hC (by show _ ≠ w.heap.size; omega) _⟩
      case measure => simp [intOf]
    · rw [mix_at] at c3
      have ho := HO.out 3
      go_wp2_with fail
      go_round
      case rel => exact ⟨4, by omega, rfl, (by repeat (first | exact Below.refl _ _ | assumption | refine Below.drew ?_ | refine below_drewN' ?_ _ | refine Below.setCell ?_ (by first | omega | (simp; done) | (simp; omega)) _ | refine Below.alloc ?_ (by first | omega | (simp; done) | (simp; omega)) _ | refine Below.trans ?_ (Below.mono (by assumption) (by first | omega | (simp; done) | (simp; omega))))), by rw [← mix_new h f 3]; exact HoldsS.set hA 3 (by omega) (fun j _ hj => mix_else h f 3 j hj), HoldsS.other hC (by show _ ≠ w.heap.size; omega) _⟩
      case measure => simp [intOf]
    · generalize mix h f 4 = m at *
      obtain ⟨e0, e1, e2, e3⟩ := hC.cells
      have fc := hC.free
      clear fz
      go_wp2_with fail
      exact bodyPost_ret (v := sv m) (by simp [results, Try.results22, go_sem, e0, e1, e2, e3]) rfl ⟨by rw [HM.out], (by repeat (first | exact Below.refl _ _ | assumption | refine Below.drew ?_ | refine below_drewN' ?_ _ | refine Below.setCell ?_ (by first | omega | (simp; done) | (simp; omega)) _ | refine Below.alloc ?_ (by first | omega | (simp; done) | (simp; omega)) _ | refine Below.trans ?_ (Below.mono (by assumption) (by first | omega | (simp; done) | (simp; omega)))))⟩

end Go.Proofs.Ytbmejpghoafapaa
