/-
  The walk of bolterref09.Right: cut behind the two tests of the numbers, then kind by kind.
-/
import Derived.Test.YtbmejpghoafapaaArena2
import Derived.Deep.CutRange
namespace Go.Proofs.Ytbmejpghoafapaa
open Go.RowKit Go.Maps

set_option maxRecDepth 100000 in
set_option maxHeartbeats 4000000 in
theorem refRight_any (k : Int) (f : Nat → Bool) (a b : Int) (g : Bool) (m : Nat) (w : World) :
    Calls Try.prog 34 #[nv k f a b g, .int .i64 (m : Int)] w fun e w' => e = .returned (.bool (okN m k f a b g)) ∧ Below w.heap.size w w' := by
  have hN0 := fun o : Obj => (HoldsN.made w (nl k f a b g).toArray rfl).alloc o
  go_enter Try.func34, Try.ntmps34
  go_upto_region 2 with fail
  go_cut [6, 7] from 11 to 28 (fun x y wx => x = .bool (decide (0 ≤ a ∧ a < m)) ∧ y = .bool (decide (0 ≤ b ∧ b < m)) ∧ Below w.heap.size w wx ∧ HoldsN wx w.heap.size (nl k f a b g).toArray ∧ HoldsN wx (w.heap.size + 1) #[.int .i64 k, .int .u64 0, .int .u64 0, .int .u64 0, .int .u64 0, .int .i64 0, .int .i64 0, .bool false])
  case first =>
    have hN1 := HoldsN.made (w.alloc (.cells (nl k f a b g).toArray 56)) #[.int .i64 k, .int .u64 0, .int .u64 0, .int .u64 0, .int .u64 0, .int .i64 0, .int .i64 0, .bool false] (b := w.heap.size + 1) (by simp)
    replace hN0 := Lib.hid hN0
    replace hN1 := Lib.hid hN1
    have ca : (decide (0 ≤ a) = false) ∨ (decide (0 ≤ a) = true ∧ decide (a < (m : Int)) = false) ∨ (decide (0 ≤ a) = true ∧ decide (a < (m : Int)) = true) := by simp; omega
    have cb : (decide (0 ≤ b) = false) ∨ (decide (0 ≤ b) = true ∧ decide (b < (m : Int)) = false) ∨ (decide (0 ≤ b) = true ∧ decide (b < (m : Int)) = true) := by simp; omega
    rcases ca with a1 | ⟨a1, a2⟩ | ⟨a1, a2⟩ <;> rcases cb with b1 | ⟨b1, b2⟩ | ⟨b1, b2⟩
    all_goals
      go_big_quiet (fail)
      go_wp2
      go_meet
      exact ⟨congrArg Value.bool (by simp at *; omega), congrArg Value.bool (by simp at *; omega), (by repeat (first | exact Below.refl _ _ | assumption | refine Below.drew ?_ | refine below_drewN' ?_ _ | refine Below.setCell ?_ (by first | omega | (simp; done) | (simp; omega)) _ | refine Below.alloc ?_ (by first | omega | (simp; done) | (simp; omega)) _ | refine Below.trans ?_ (Below.mono (by assumption) (by first | omega | (simp; done) | (simp; omega))))), hN0.out _, hN1.out⟩
  case rest =>
    clear hN0
    obtain ⟨rfl, rfl, hbc, hN, hZ⟩ := hcut
    obtain ⟨p0, p1, p2, p3, p4, p5, p6, p7⟩ := hN.cells
    obtain ⟨z0, z1, z2, z3, z4, z5, z6, z7⟩ := hZ.cells
    have zf := hZ.free
    have hsz := hZ.lt
    clear hN hZ
    generalize hA : decide (0 ≤ a ∧ a < (m : Int)) = A
    generalize hB : decide (0 ≤ b ∧ b < (m : Int)) = B
    replace hA := Lib.hid hA
    replace hB := Lib.hid hB
    have hK : (k < 0 ∨ 8 < k) ∨ k = 0 ∨ k = 1 ∨ k = 2 ∨ k = 3 ∨ k = 4 ∨ k = 5 ∨ k = 6 ∨ k = 7 ∨ k = 8 := by omega
    rcases hK with hk | rfl | rfl | rfl | rfl | rfl | rfl | rfl | rfl | rfl
    · have HE : Hid (false = okN m k f a b g) := Lib.hid (by unfold okN Zf; symm; simp; omega)
      have h0 : (k == 0) = false := by simp; omega
      have h1 : (k == 1) = false := by simp; omega
      have h2 : (k == 2) = false := by simp; omega
      have h3 : (k == 3) = false := by simp; omega
      have h4 : (k == 4) = false := by simp; omega
      have h5 : (k == 5) = false := by simp; omega
      have h6 : (k == 6) = false := by simp; omega
      have h7 : (k == 7) = false := by simp; omega
      have h8 : (k == 8) = false := by simp; omega
      clear hk
      go_wp2_with fail
      go_ret
      exact ⟨ret_bool HE.out, (by repeat (first | exact Below.refl _ _ | assumption | refine Below.drew ?_ | refine below_drewN' ?_ _ | refine Below.setCell ?_ (by first | omega | (simp; done) | (simp; omega)) _ | refine Below.alloc ?_ (by first | omega | (simp; done) | (simp; omega)) _ | refine Below.trans ?_ (Below.mono (by assumption) (by first | omega | (simp; done) | (simp; omega)))))⟩
    · go_wp2_with fail
      go_ret
      exact ⟨ret_bool (by unfold nq okN Zf; rw [Bool.eq_iff_iff]; cases g <;> simp <;> omega), (by repeat (first | exact Below.refl _ _ | assumption | refine Below.drew ?_ | refine below_drewN' ?_ _ | refine Below.setCell ?_ (by first | omega | (simp; done) | (simp; omega)) _ | refine Below.alloc ?_ (by first | omega | (simp; done) | (simp; omega)) _ | refine Below.trans ?_ (Below.mono (by assumption) (by first | omega | (simp; done) | (simp; omega)))))⟩
    · go_wp2_with fail
      go_ret
      exact ⟨ret_bool (by unfold nq okN Zf; rw [Bool.eq_iff_iff]; cases g <;> simp <;> omega), (by repeat (first | exact Below.refl _ _ | assumption | refine Below.drew ?_ | refine below_drewN' ?_ _ | refine Below.setCell ?_ (by first | omega | (simp; done) | (simp; omega)) _ | refine Below.alloc ?_ (by first | omega | (simp; done) | (simp; omega)) _ | refine Below.trans ?_ (Below.mono (by assumption) (by first | omega | (simp; done) | (simp; omega)))))⟩
    · go_wp2_with fail
      go_ret
      exact ⟨ret_bool (by unfold nq okN Zf; rw [Bool.eq_iff_iff]; cases g <;> simp <;> omega), (by repeat (first | exact Below.refl _ _ | assumption | refine Below.drew ?_ | refine below_drewN' ?_ _ | refine Below.setCell ?_ (by first | omega | (simp; done) | (simp; omega)) _ | refine Below.alloc ?_ (by first | omega | (simp; done) | (simp; omega)) _ | refine Below.trans ?_ (Below.mono (by assumption) (by first | omega | (simp; done) | (simp; omega)))))⟩
    · obtain ⟨Q, hQ⟩ : ∃ Q, nq 3 (wd f 0) (wd f 1) (wd f 2) (wd f 3) a b g 3 0 0 0 0 a b false = Q := ⟨_, rfl⟩
      have HQ := Lib.hid hQ
      cases A <;> cases B <;> cases Q
      all_goals
        go_wp2_with fail
        go_region
        all_goals
          go_wp2_with fail
          go_ret
          exact ⟨ret_bool (by have h1 := hA.out; have h2 := hB.out; have h3 := HQ.out; unfold nq at h3; unfold okN Zf; symm; cases g <;> simp at h1 h2 h3 ⊢ <;> omega), (by repeat (first | exact Below.refl _ _ | assumption | refine Below.drew ?_ | refine below_drewN' ?_ _ | refine Below.setCell ?_ (by first | omega | (simp; done) | (simp; omega)) _ | refine Below.alloc ?_ (by first | omega | (simp; done) | (simp; omega)) _ | refine Below.trans ?_ (Below.mono (by assumption) (by first | omega | (simp; done) | (simp; omega)))))⟩
    · obtain ⟨Q, hQ⟩ : ∃ Q, nq 4 (wd f 0) (wd f 1) (wd f 2) (wd f 3) a b g 4 0 0 0 0 a b false = Q := ⟨_, rfl⟩
      have HQ := Lib.hid hQ
      cases A <;> cases B <;> cases Q
      all_goals
        go_wp2_with fail
        go_region
        all_goals
          go_wp2_with fail
          go_ret
          exact ⟨ret_bool (by have h1 := hA.out; have h2 := hB.out; have h3 := HQ.out; unfold nq at h3; unfold okN Zf; symm; cases g <;> simp at h1 h2 h3 ⊢ <;> omega), (by repeat (first | exact Below.refl _ _ | assumption | refine Below.drew ?_ | refine below_drewN' ?_ _ | refine Below.setCell ?_ (by first | omega | (simp; done) | (simp; omega)) _ | refine Below.alloc ?_ (by first | omega | (simp; done) | (simp; omega)) _ | refine Below.trans ?_ (Below.mono (by assumption) (by first | omega | (simp; done) | (simp; omega)))))⟩
    · obtain ⟨Q, hQ⟩ : ∃ Q, nq 5 (wd f 0) (wd f 1) (wd f 2) (wd f 3) a b g 5 0 0 0 0 a b false = Q := ⟨_, rfl⟩
      have HQ := Lib.hid hQ
      cases A <;> cases B <;> cases Q
      all_goals
        go_wp2_with fail
        go_region
        all_goals
          go_wp2_with fail
          go_ret
          exact ⟨ret_bool (by have h1 := hA.out; have h2 := hB.out; have h3 := HQ.out; unfold nq at h3; unfold okN Zf; symm; cases g <;> simp at h1 h2 h3 ⊢ <;> omega), (by repeat (first | exact Below.refl _ _ | assumption | refine Below.drew ?_ | refine below_drewN' ?_ _ | refine Below.setCell ?_ (by first | omega | (simp; done) | (simp; omega)) _ | refine Below.alloc ?_ (by first | omega | (simp; done) | (simp; omega)) _ | refine Below.trans ?_ (Below.mono (by assumption) (by first | omega | (simp; done) | (simp; omega)))))⟩
    · obtain ⟨Q, hQ⟩ : ∃ Q, nq 6 (wd f 0) (wd f 1) (wd f 2) (wd f 3) a b g 6 0 0 0 0 a 0 false = Q := ⟨_, rfl⟩
      have HQ := Lib.hid hQ
      cases A <;> cases Q
      all_goals
        go_wp2_with fail
        go_ret
        exact ⟨ret_bool (by have h1 := hA.out; have h2 := hB.out; have h3 := HQ.out; unfold nq at h3; unfold okN Zf; symm; cases g <;> simp at h1 h2 h3 ⊢ <;> omega), (by repeat (first | exact Below.refl _ _ | assumption | refine Below.drew ?_ | refine below_drewN' ?_ _ | refine Below.setCell ?_ (by first | omega | (simp; done) | (simp; omega)) _ | refine Below.alloc ?_ (by first | omega | (simp; done) | (simp; omega)) _ | refine Below.trans ?_ (Below.mono (by assumption) (by first | omega | (simp; done) | (simp; omega)))))⟩
    · obtain ⟨Q, hQ⟩ : ∃ Q, nq 7 (wd f 0) (wd f 1) (wd f 2) (wd f 3) a b g 7 0 0 0 0 a 0 false = Q := ⟨_, rfl⟩
      have HQ := Lib.hid hQ
      cases A <;> cases Q
      all_goals
        go_wp2_with fail
        go_ret
        exact ⟨ret_bool (by have h1 := hA.out; have h2 := hB.out; have h3 := HQ.out; unfold nq at h3; unfold okN Zf; symm; cases g <;> simp at h1 h2 h3 ⊢ <;> omega), (by repeat (first | exact Below.refl _ _ | assumption | refine Below.drew ?_ | refine below_drewN' ?_ _ | refine Below.setCell ?_ (by first | omega | (simp; done) | (simp; omega)) _ | refine Below.alloc ?_ (by first | omega | (simp; done) | (simp; omega)) _ | refine Below.trans ?_ (Below.mono (by assumption) (by first | omega | (simp; done) | (simp; omega)))))⟩
    · obtain ⟨Q, hQ⟩ : ∃ Q, nq 8 (wd f 0) (wd f 1) (wd f 2) (wd f 3) a b g 8 0 0 0 0 a 0 g = Q := ⟨_, rfl⟩
      have HQ := Lib.hid hQ
      have ca : (decide (0 ≤ a) = false) ∨ (decide (0 ≤ a) = true ∧ decide (a < 4) = false) ∨ (decide (0 ≤ a) = true ∧ decide (a < 4) = true) := by simp; omega
      rcases ca with a1 | ⟨a1, a2⟩ | ⟨a1, a2⟩ <;> cases Q
      all_goals
        go_wp2_with fail
        go_region
        all_goals
          go_wp2_with fail
          go_ret
          exact ⟨ret_bool (by have h3 := HQ.out; unfold nq at h3; unfold okN Zf; symm; cases g <;> simp at * <;> omega), (by repeat (first | exact Below.refl _ _ | assumption | refine Below.drew ?_ | refine below_drewN' ?_ _ | refine Below.setCell ?_ (by first | omega | (simp; done) | (simp; omega)) _ | refine Below.alloc ?_ (by first | omega | (simp; done) | (simp; omega)) _ | refine Below.trans ?_ (Below.mono (by assumption) (by first | omega | (simp; done) | (simp; omega)))))⟩

end Go.Proofs.Ytbmejpghoafapaa
