/-
  Walks: bolterref01.Other and the law bolterlaw01.SetFolds.
-/
import Derived.Test.YtbmejpghoafapaaSets5
namespace Go.Proofs.Ytbmejpghoafapaa
open Go.RowKit

/-- The other one of a letter. -/
def other (b : Int) : Int := if 65 ≤ b ∧ b ≤ 90 then b + 32 else if 97 ≤ b ∧ b ≤ 122 then b - 32 else b
theorem other_range (b : Int) (h : 0 ≤ b ∧ b < 256) : 0 ≤ other b ∧ other b < 256 := by unfold other; split <;> (try split) <;> omega
theorem ret_i64 {a b : Int} (h : a = b) : Ending.returned (.int .i64 a) = .returned (.int .i64 b) := by rw [h]

set_option maxHeartbeats 400000 in
theorem other_any (b : Int) (w : World) (h0 : 0 ≤ b) (h1 : b < 256) :
    Calls Try.prog 18 #[.int .i64 b] w fun e w' => e = .returned (.int .i64 (other b)) ∧ w' = w := by
  by_cases ha : 65 ≤ b
  · by_cases hz : b ≤ 90
    · have HE : Hid (other b = b + 32) := Lib.hid (by unfold other; rw [if_pos ⟨ha, hz⟩])
      go_enter Try.func18, Try.ntmps18
      go_wp2
      go_ret
      exact ⟨ret_i64 HE.out.symm, rfl⟩
    · by_cases hc : 97 ≤ b
      · by_cases hd : b ≤ 122
        · have HE : Hid (other b = b - 32) := Lib.hid (by unfold other; rw [if_neg (by omega), if_pos ⟨hc, hd⟩])
          have h3 : decide (b ≤ 90) = false := by simp; omega
          go_enter Try.func18, Try.ntmps18
          go_wp2
          go_ret
          exact ⟨ret_i64 HE.out.symm, rfl⟩
        · have HE : Hid (other b = b) := Lib.hid (by unfold other; rw [if_neg (by omega), if_neg (by omega)])
          go_enter Try.func18, Try.ntmps18
          go_wp2
          go_ret
          exact ⟨ret_i64 HE.out.symm, rfl⟩
      · have HE : Hid (other b = b) := Lib.hid (by unfold other; rw [if_neg (by omega), if_neg (by omega)])
        go_enter Try.func18, Try.ntmps18
        go_wp2
        go_ret
        exact ⟨ret_i64 HE.out.symm, rfl⟩
  · have HE : Hid (other b = b) := Lib.hid (by unfold other; rw [if_neg (by omega), if_neg (by omega)])
    go_enter Try.func18, Try.ntmps18
    go_wp2
    go_ret
    exact ⟨ret_i64 HE.out.symm, rfl⟩

theorem fo_all (f : Nat → Bool) (b : Int) (h0 : 0 ≤ b) (h1 : b < 256) : fo f 26 b.toNat = (f b.toNat || f (other b).toNat) := by
  unfold fo other
  by_cases ha : 65 ≤ b ∧ b ≤ 90
  · rw [if_pos ha]
    have e1 : (65 ≤ b.toNat ∧ b.toNat < 65 + 26) := by omega
    have e2 : ¬ (97 ≤ b.toNat ∧ b.toNat < 97 + 26) := by omega
    simp only [e1, e2, decide_true, decide_false, Bool.false_and, Bool.or_false, Bool.true_and, and_self]
    rw [show (b + 32).toNat = b.toNat + 32 from by omega]
  · rw [if_neg ha]
    by_cases hc : 97 ≤ b ∧ b ≤ 122
    · rw [if_pos hc]
      have e1 : ¬ (65 ≤ b.toNat ∧ b.toNat < 65 + 26) := by omega
      have e2 : (97 ≤ b.toNat ∧ b.toNat < 97 + 26) := by omega
      simp only [e1, e2, decide_true, decide_false, Bool.false_and, Bool.or_false, Bool.true_and, and_self]
      rw [show (b - 32).toNat = b.toNat - 32 from by omega]
    · rw [if_neg hc]
      have e1 : ¬ (65 ≤ b.toNat ∧ b.toNat < 65 + 26) := by omega
      have e2 : ¬ (97 ≤ b.toNat ∧ b.toNat < 97 + 26) := by omega
      simp only [e1, e2, decide_false, Bool.false_and, Bool.or_false, Bool.or_self]
theorem other_other (b : Int) (h0 : 0 ≤ b) (h1 : b < 256) : other (other b) = b := by
  unfold other
  split <;> (try split) <;> (try split) <;> (try split) <;> omega
theorem fo_twice (f : Nat → Bool) : eqS (fo (fo f 26) 26) (fo f 26) = true := by
  rw [eqS_iff]
  intro n hn
  have h0 : (0 : Int) ≤ (n : Int) := by omega
  have h1 : (n : Int) < 256 := by omega
  have hr := other_range (n : Int) ⟨h0, h1⟩
  have e1 := fo_all (fo f 26) (n : Int) h0 h1
  have e2 := fo_all f (n : Int) h0 h1
  have e3 := fo_all f (other (n : Int)) hr.1 hr.2
  rw [other_other _ h0 h1] at e3
  rw [show (n : Int).toNat = n from by omega] at e1 e2 e3
  rw [e1, e2, e3]
  cases f n <;> simp

theorem refHas_val {f : Nat → Bool} {b : Int} {v : Bool} (hv : f b.toNat = v) (w : World) (h0 : 0 ≤ b) (h1 : b < 256) :
    Calls Try.prog 17 #[sv f, .int .i64 b] w fun e w' => e = .returned (.bool v) ∧ Below w.heap.size w w' := by rw [← hv]; exact refHas_any f b w h0 h1
theorem other_val (b : Int) (w : World) (h0 : 0 ≤ b) (h1 : b < 256) : Calls Try.prog 18 #[.int .i64 b] w fun e w' => e = .returned (.int .i64 (other b)) ∧ Below w.heap.size w w' :=
  (other_any b w h0 h1).mono fun _ _ ⟨h1, h2⟩ => ⟨h1, h2 ▸ Below.refl _ _⟩

set_option maxRecDepth 100000 in
set_option maxHeartbeats 2000000 in
theorem setFolds_any (f : Nat → Bool) (w : World) :
    Calls Try.prog 4 #[sv f] w fun e w' => e = .returned (.bool true) ∧ Below w.heap.size w w' := by
  have HT := Lib.hid (fo_twice f)
  have HF := Lib.hid (fo_all f)
  go_enter Try.func4, Try.ntmps4
  go_wp2_with fail
  refine (awake1 _).mono ?_
  rintro e w1 ⟨rfl, hb1⟩
  have hA1 := (HoldsS.made w f).below hb1 (by simp)
  have hs1 := hb1.size
  simp at hs1
  obtain ⟨c0, c1, c2, c3⟩ := hA1.cells
  go_wp2_with fail
  refine (fold_any f _).mono ?_
  rintro e w2 ⟨rfl, hb2⟩
  have hA2 := hA1.below hb2 hA1.lt
  have hs2 := hb2.size
  clear c0 c1 c2 c3
  generalize fo f 26 = g at *
  have hbl0 : Below w.heap.size w w2 := (by repeat (first | exact Below.refl _ _ | assumption | refine Below.drew ?_ | refine below_drewN' ?_ _ | refine Below.setCell ?_ (by first | omega | (simp; done) | (simp; omega)) _ | refine Below.alloc ?_ (by first | omega | (simp; done) | (simp; omega)) _ | refine Below.trans ?_ (Below.mono (by assumption) (by first | omega | (simp; done) | (simp; omega)))))
  have hG0 := HoldsS.made w2 g
  have hA3 := hA2.alloc (sob g)
  clear hA1 hA2
  go_wp2_with fail
  go_loopw [4, 9] (fun _ i wr => ∃ k : Nat, k ≤ 256 ∧ i = .int .i64 k ∧ Below w.heap.size w wr ∧ HoldsS wr w.heap.size f ∧ HoldsS wr w2.heap.size g) (fun _ i _ => (256 - intOf i).toNat)
  case atStart => exact ⟨0, by omega, rfl, (by repeat (first | exact Below.refl _ _ | assumption | refine Below.drew ?_ | refine below_drewN' ?_ _ | refine Below.setCell ?_ (by first | omega | (simp; done) | (simp; omega)) _ | refine Below.alloc ?_ (by first | omega | (simp; done) | (simp; omega)) _ | refine Below.trans ?_ (Below.mono (by assumption) (by first | omega | (simp; done) | (simp; omega))))), hA3, hG0⟩
  case round =>
    clear hA3 hG0
    obtain ⟨k, hk, rfl, hbl, hA, hG⟩ := hrel
    have hua : ∀ u : Wk wr.heap.size wr, HoldsS u.val w.heap.size f := fun u => hA.below u.ok hA.lt
    have hub : ∀ u : Wk wr.heap.size wr, HoldsS u.val w2.heap.size g := fun u => hG.below u.ok hG.lt
    have c0 := fun u => (hua u).cells.1
    have c1 := fun u => (hua u).cells.2.1
    have c2 := fun u => (hua u).cells.2.2.1
    have c3 := fun u => (hua u).cells.2.2.2
    have d0 := fun u => (hub u).cells.1
    have d1 := fun u => (hub u).cells.2.1
    have d2 := fun u => (hub u).cells.2.2.1
    have d3 := fun u => (hub u).cells.2.2.2
    by_cases hlt : k < 256
    · have hr := other_range (k : Int) ⟨by omega, by omega⟩
      have hg := HF.out (k : Int) (by omega) (by omega)
      cases hf0 : f (k : Int).toNat
      · rw [hf0, Bool.false_or] at hg
        have hf := Lib.hid hf0
        clear hf0
        cases ho0 : f (other (k : Int)).toNat
        · rw [ho0] at hg
          replace hg := Lib.hid hg
          have ho := Lib.hid ho0
          clear ho0
          go_wp2_with fail
          refine wp_region_class (fun w' => ∃ u : Wk wr.heap.size wr, w' = u.val) (by kernel_rfl) (by kernel_rfl) ⟨⟨_, (Below.refl _ _).drew⟩, rfl⟩ ?_
          repeat (go_big_quiet_step (first | (go_at_call 17; first | (with_reducible exact wk_call (Nat.le_refl _) _ (refHas_val hg.out _ (by omega) (by omega))) | (with_reducible exact wk_call (Nat.le_refl _) _ (refHas_val hf.out _ (by omega) (by omega))) | (with_reducible exact wk_call (Nat.le_refl _) _ (refHas_val ho.out _ (by omega) (by omega)))) | (go_at_call 18; exact wk_call (Nat.le_refl _) _ (other_val _ _ (by omega) (by omega)))))
          refine wpQuiet_nil ?_
          rintro w' ⟨u, rfl⟩
          have hbu := u.ok
          have hsz := hbl.size
          go_wp2_with fail
          go_round
          case rel => exact ⟨k + 1, by omega, by go_num, (by repeat (first | exact Below.refl _ _ | assumption | refine Below.drew ?_ | refine below_drewN' ?_ _ | refine Below.setCell ?_ (by first | omega | (simp; done) | (simp; omega)) _ | refine Below.alloc ?_ (by first | omega | (simp; done) | (simp; omega)) _ | refine Below.trans ?_ (Below.mono (by assumption) (by first | omega | (simp; done) | (simp; omega))))), hua u, hub u⟩
          case measure => simp [intOf]; omega
        · rw [ho0] at hg
          replace hg := Lib.hid hg
          have ho := Lib.hid ho0
          clear ho0
          go_wp2_with fail
          refine wp_region_class (fun w' => ∃ u : Wk wr.heap.size wr, w' = u.val) (by kernel_rfl) (by kernel_rfl) ⟨⟨_, (Below.refl _ _).drew⟩, rfl⟩ ?_
          repeat (go_big_quiet_step (first | (go_at_call 17; first | (with_reducible exact wk_call (Nat.le_refl _) _ (refHas_val hg.out _ (by omega) (by omega))) | (with_reducible exact wk_call (Nat.le_refl _) _ (refHas_val hf.out _ (by omega) (by omega))) | (with_reducible exact wk_call (Nat.le_refl _) _ (refHas_val ho.out _ (by omega) (by omega)))) | (go_at_call 18; exact wk_call (Nat.le_refl _) _ (other_val _ _ (by omega) (by omega)))))
          refine wpQuiet_nil ?_
          rintro w' ⟨u, rfl⟩
          have hbu := u.ok
          have hsz := hbl.size
          go_wp2_with fail
          go_round
          case rel => exact ⟨k + 1, by omega, by go_num, (by repeat (first | exact Below.refl _ _ | assumption | refine Below.drew ?_ | refine below_drewN' ?_ _ | refine Below.setCell ?_ (by first | omega | (simp; done) | (simp; omega)) _ | refine Below.alloc ?_ (by first | omega | (simp; done) | (simp; omega)) _ | refine Below.trans ?_ (Below.mono (by assumption) (by first | omega | (simp; done) | (simp; omega))))), hua u, hub u⟩
          case measure => simp [intOf]; omega
      · rw [hf0, Bool.true_or] at hg
        replace hg := Lib.hid hg
        have hf := Lib.hid hf0
        clear hf0
        go_wp2_with fail
        refine wp_region_class (fun w' => ∃ u : Wk wr.heap.size wr, w' = u.val) (by kernel_rfl) (by kernel_rfl) ⟨⟨_, (Below.refl _ _).drew⟩, rfl⟩ ?_
        repeat (go_big_quiet_step (first | (go_at_call 17; first | (with_reducible exact wk_call (Nat.le_refl _) _ (refHas_val hg.out _ (by omega) (by omega))) | (with_reducible exact wk_call (Nat.le_refl _) _ (refHas_val hf.out _ (by omega) (by omega)))) | (go_at_call 18; exact wk_call (Nat.le_refl _) _ (other_val _ _ (by omega) (by omega)))))
        refine wpQuiet_nil ?_
        rintro w' ⟨u, rfl⟩
        have hbu := u.ok
        have hsz := hbl.size
        go_wp2_with fail
        go_round
        case rel => exact ⟨k + 1, by omega, by go_num, (by repeat (first | exact Below.refl _ _ | assumption | refine Below.drew ?_ | refine below_drewN' ?_ _ | refine Below.setCell ?_ (by first | omega | (simp; done) | (simp; omega)) _ | refine Below.alloc ?_ (by first | omega | (simp; done) | (simp; omega)) _ | refine Below.trans ?_ (Below.mono (by assumption) (by first | omega | (simp; done) | (simp; omega))))), hua u, hub u⟩
        case measure => simp [intOf]; omega
    · go_wp2_with fail
      refine wp_region_class (fun w' => ∃ u : Wk wr.heap.size wr, w' = u.val) (by kernel_rfl) (by kernel_rfl) ⟨⟨_, (Below.refl _ _).drew⟩, rfl⟩ ?_
      repeat (go_big_quiet_step (first | (go_at_call 16; exact wk_call (Nat.le_refl _) _ (fold_any _ _))))
      refine wpQuiet_nil ?_
      rintro w' ⟨u, rfl⟩
      have hbu := u.ok
      have hsz := hbl.size
      go_wp2_with fail
      go_ret
      exact ⟨ret_bool HT.out, (by repeat (first | exact Below.refl _ _ | assumption | refine Below.drew ?_ | refine below_drewN' ?_ _ | refine Below.setCell ?_ (by first | omega | (simp; done) | (simp; omega)) _ | refine Below.alloc ?_ (by first | omega | (simp; done) | (simp; omega)) _ | refine Below.trans ?_ (Below.mono (by assumption) (by first | omega | (simp; done) | (simp; omega)))))⟩

end Go.Proofs.Ytbmejpghoafapaa
