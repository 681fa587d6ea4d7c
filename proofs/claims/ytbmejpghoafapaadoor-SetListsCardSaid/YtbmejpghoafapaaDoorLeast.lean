/-
  The walks of math/bits.TrailingZeros64 and set.Least.
-/
import Derived.Test.YtbmejpghoafapaaDoorUnion
import Derived.Test.YtbmejpghoafapaaDoorMake
import Derived.Shelf.Spec.TrailingZeros
namespace Go.Proofs.YtbmejpghoafapaaDoor
open Go.RowKit

/-- The library's table lies in its variable. -/
def TabW (w : World) : Prop := ∀ j, j < 64 → w.cell? ⟨0, j, none⟩ = some (.int .u8 (Lib.deBruijn64tab.getD j 0 : Nat))
theorem TabW.lt {w : World} (h : TabW w) : 0 < w.heap.size := World.block_lt_of_cell? _ _ (h 0 (by omega))
theorem TabW.below {w w' : World} {n : Nat} (h : TabW w) (hb : Below n w w') (hn : w.heap.size ≤ n) : TabW w' := fun j hj => cell_later (hb.mono hn) (h j hj)

set_option maxHeartbeats 1000000 in
theorem tz_core (x k idx : Nat) (w : World) (hx0 : ((x : Int) == 0) = false)
    (key : IntKind.u64.wrap (bits BinOp.and IntKind.u64 (x : Int) (IntKind.u64.wrap (-(x : Int))) * 285870213051353865) / 288230376151711744 = (idx : Int))
    (hi : idx < 64) (hk : k < 64) (hcell : w.cell? ⟨0, idx, none⟩ = some (.int .u8 k)) :
    Calls Tryd.prog 21 #[.int .u64 x] w fun e w' => e = .returned (.int .i64 k) ∧ w' = w := by
  go_enter Tryd.func21, Tryd.ntmps21
  go_wp2_with (simp only [key])
  go_ret
  exact ⟨rfl, rfl⟩

theorem ctz_bits (x : Nat) (h0 : x ≠ 0) (h : x < 2 ^ 64) : x.testBit (Lib.ctz 64 x) = true ∧ ∀ j, j < Lib.ctz 64 x → x.testBit j = false := by
  obtain ⟨m, hm, hk⟩ := Lib.ctzFrom_spec 64 x (by omega) h
  have e : Lib.ctz 64 x = Lib.ctzFrom 64 x := by simp [Lib.ctz, h0]
  rw [e]
  generalize Lib.ctzFrom 64 x = c at *
  subst hm
  refine ⟨?_, fun j hj => ?_⟩
  · rw [Nat.mul_comm, Nat.testBit_mul_two_pow]
    simp [Nat.testBit_zero]
  · rw [Nat.mul_comm, Nat.testBit_mul_two_pow]
    have : ¬ c ≤ j := by omega
    simp [this]
theorem tz_wd (f : Nat → Bool) (i : Nat) (hz : wd f i ≠ 0) : ∃ c, c < 64 ∧ f (64 * i + c) = true ∧ (∀ j, j < c → f (64 * i + j) = false) ∧
    ∀ w, TabW w → Calls Tryd.prog 21 #[.int .u64 (wd f i)] w fun e w' => e = .returned (.int .i64 (c : Int)) ∧ w' = w := by
  have h0 : wn f i ≠ 0 := fun e => hz (by unfold wd; rw [e]; rfl)
  have hlt := wn_lt f i
  have hlt2 : wn f i < 18446744073709551616 := by simpa using hlt
  obtain ⟨b1, b2⟩ := ctz_bits (wn f i) h0 hlt
  obtain ⟨hlow, hk⟩ := Lib.lowest_bit 64 (wn f i) h0 hlt
  rw [wn_testBit] at b1
  refine ⟨Lib.ctz 64 (wn f i), hk, by simpa [hk] using b1, fun j hj => ?_, fun w hT => ?_⟩
  · have := b2 j hj
    rw [wn_testBit] at this
    simpa [show j < 64 by omega] using this
  · obtain ⟨hi, htab⟩ := Lib.deBruijn64_at _ hk
    have hcell := hT _ hi
    rw [htab] at hcell
    exact tz_core (wn f i) _ _ w (by simp; omega) (tz64_key _ _ hlt2 h0 hlow) hi hk hcell

theorem run_index_set (f : Nat → Bool) (k : Nat) (hk : k < 4) (w : World) : (Instr.index 30 (sv f) (.int .i64 (k : Int))).run Tryd.prog w = .ok (.int .u64 (wd f k)) w := by
  match k, hk with
  | 0, _ =>
    show (Instr.index 30 (sv f) (.int .i64 0)).run Tryd.prog w = .ok (.int .u64 (wd f 0)) w
    kernel_rfl
  | 1, _ =>
    show (Instr.index 30 (sv f) (.int .i64 1)).run Tryd.prog w = .ok (.int .u64 (wd f 1)) w
    kernel_rfl
  | 2, _ =>
    show (Instr.index 30 (sv f) (.int .i64 2)).run Tryd.prog w = .ok (.int .u64 (wd f 2)) w
    kernel_rfl
  | 3, _ =>
    show (Instr.index 30 (sv f) (.int .i64 3)).run Tryd.prog w = .ok (.int .u64 (wd f 3)) w
    kernel_rfl
theorem wpList_index_set {ops : Array Oper} {rest : List Oper} {op : Oper} {a : Act} {w : World} {Q : Exit → Act → World → Prop} (hgd : op.guard = none) (x i : Operand) (ho : op.op = .index 30 x i) {f : Nat → Bool} (k : Nat) (hk : k < 4)
    (hx : a.eval x = sv f) (hi : a.eval i = .int .i64 (k : Int)) (h : wpList Tryd.prog ops Q rest (a.put op.dst (.int .u64 (wd f k))) w) : wpList Tryd.prog ops Q (op :: rest) a w := by
  refine wpList_plain hgd fun K hK => ?_
  unfold Oper.wp execOp
  simp only [ho, hx, hi, Sem.run_bind, run_index_set f k hk w, Result.andThen_ok]
  exact hK _ _ h

/-- b is the least byte of f. -/
def LeastIs (f : Nat → Bool) (b : Nat) : Prop := b < 256 ∧ f b = true ∧ ∀ j, j < b → f j = false
theorem tup_u8 {a b : Int} {x : Bool} (h : a = b) : Ending.returned (.tuple #[.int .u8 a, .bool x]) = .returned (.tuple #[.int .u8 b, .bool x]) := by rw [h]
def LeastE (f : Nat → Bool) (e : Ending) : Prop := (∃ b, LeastIs f b ∧ e = .returned (.tuple #[.int .u8 (b : Int), .bool true])) ∨ ((∀ j, j < 256 → f j = false) ∧ e = .returned (.tuple #[.int .u8 0, .bool false]))

set_option maxRecDepth 100000 in
set_option maxHeartbeats 2000000 in
theorem least_any (f : Nat → Bool) (w : World) (hT : TabW w) : Calls Tryd.prog 14 #[sv f] w fun e w' => LeastE f e ∧ Below w.heap.size w w' := by
  have hb0 := Below.alloc (Below.refl w.heap.size w) (Nat.le_refl _) (sob f)
  have HT := Lib.hid (hT.below hb0 (Nat.le_refl _))
  have HZ := Lib.hid (tz_wd f)
  have HW := Lib.hid (fun i (h : wd f i = 0) => (fun j hj => by
    cases hfj : f (64 * i + j)
    · rfl
    · exfalso
      have h1 := wn_testBit f i j
      have h2 : wn f i = 0 := by unfold wd at h; omega
      rw [h2] at h1
      simp [hj, hfj] at h1 : ∀ j, j < 64 → f (64 * i + j) = false))
  go_enter Tryd.func14, Tryd.ntmps14
  go_wp2_with fail
  go_loop [7] (fun i => ∃ k : Nat, k ≤ 4 ∧ i = .int .i64 k ∧ Hid (∀ j, j < 64 * k → f j = false)) (fun i => (4 - intOf i).toNat)
  case atStart => exact ⟨0, by omega, rfl, Lib.hid (by intro j hj; omega)⟩
  case round =>
    obtain ⟨k, hk, rfl, hno⟩ := hrel
    have hK : k = 0 ∨ k = 1 ∨ k = 2 ∨ k = 3 ∨ k = 4 := by omega
    clear hk
    rcases hK with rfl | rfl | rfl | rfl | rfl
    · by_cases hz : wd f 0 = 0
      · have hW := Lib.hid (HW.out 0 hz)
        have hz0 : (wd f 0 == 0) = true := by simp [hz]
        have hz1 : (wd f 0 != 0) = false := by simp [hz]
        clear hz
        go_wp2_with (refine wpList_index_set rfl (.tmp 6) (.tmp 7) rfl 0 (by omega) rfl rfl ?_)
        go_round
        case rel => exact ⟨1, by omega, rfl, Lib.hid (by
          intro j hj
          rcases Nat.lt_or_ge j (64 * 0) with h1 | h1
          · exact hno.out j h1
          · have := hW.out (j - 64 * 0) (by omega)
            rwa [show 64 * 0 + (j - 64 * 0) = j from by omega] at this)⟩
        case measure => simp [intOf]
      · obtain ⟨c, hc, h1, h2, HC⟩ := HZ.out 0 hz
        have hz0 : (wd f 0 == 0) = false := by simp [hz]
        have hz1 : (wd f 0 != 0) = true := by simp [hz]
        replace HC := Lib.hid HC
        have HE : Hid (LeastIs f (64 * 0 + c)) := Lib.hid ⟨by omega, h1, by
          intro j hj
          rcases Nat.lt_or_ge j (64 * 0) with h3 | h3
          · exact hno.out j h3
          · have := h2 (j - 64 * 0) (by omega)
            rwa [show 64 * 0 + (j - 64 * 0) = j from by omega] at this⟩
        clear hz h1 h2
        go_wp2_with (first | (refine wpList_index_set rfl (.tmp 6) (.tmp 7) rfl 0 (by omega) rfl rfl ?_) | (go_at_call 21; refine (HC.out _ HT.out).mono ?_; rintro e w1 ⟨rfl, rfl⟩))
        go_ret2
        exact ⟨.inl ⟨_, HE.out, tup_u8 (by omega)⟩, hb0⟩
    · by_cases hz : wd f 1 = 0
      · have hW := Lib.hid (HW.out 1 hz)
        have hz0 : (wd f 1 == 0) = true := by simp [hz]
        have hz1 : (wd f 1 != 0) = false := by simp [hz]
        clear hz
        go_wp2_with (refine wpList_index_set rfl (.tmp 6) (.tmp 7) rfl 1 (by omega) rfl rfl ?_)
        go_round
        case rel => exact ⟨2, by omega, rfl, Lib.hid (by
          intro j hj
          rcases Nat.lt_or_ge j (64 * 1) with h1 | h1
          · exact hno.out j h1
          · have := hW.out (j - 64 * 1) (by omega)
            rwa [show 64 * 1 + (j - 64 * 1) = j from by omega] at this)⟩
        case measure => simp [intOf]
      · obtain ⟨c, hc, h1, h2, HC⟩ := HZ.out 1 hz
        have hz0 : (wd f 1 == 0) = false := by simp [hz]
        have hz1 : (wd f 1 != 0) = true := by simp [hz]
        replace HC := Lib.hid HC
        have HE : Hid (LeastIs f (64 * 1 + c)) := Lib.hid ⟨by omega, h1, by
          intro j hj
          rcases Nat.lt_or_ge j (64 * 1) with h3 | h3
          · exact hno.out j h3
          · have := h2 (j - 64 * 1) (by omega)
            rwa [show 64 * 1 + (j - 64 * 1) = j from by omega] at this⟩
        clear hz h1 h2
        go_wp2_with (first | (refine wpList_index_set rfl (.tmp 6) (.tmp 7) rfl 1 (by omega) rfl rfl ?_) | (go_at_call 21; refine (HC.out _ HT.out).mono ?_; rintro e w1 ⟨rfl, rfl⟩))
        go_ret2
        exact ⟨.inl ⟨_, HE.out, tup_u8 (by omega)⟩, hb0⟩
    · by_cases hz : wd f 2 = 0
      · have hW := Lib.hid (HW.out 2 hz)
        have hz0 : (wd f 2 == 0) = true := by simp [hz]
        have hz1 : (wd f 2 != 0) = false := by simp [hz]
        clear hz
        go_wp2_with (refine wpList_index_set rfl (.tmp 6) (.tmp 7) rfl 2 (by omega) rfl rfl ?_)
        go_round
        case rel => exact ⟨3, by omega, rfl, Lib.hid (by
          intro j hj
          rcases Nat.lt_or_ge j (64 * 2) with h1 | h1
          · exact hno.out j h1
          · have := hW.out (j - 64 * 2) (by omega)
            rwa [show 64 * 2 + (j - 64 * 2) = j from by omega] at this)⟩
        case measure => simp [intOf]
      · obtain ⟨c, hc, h1, h2, HC⟩ := HZ.out 2 hz
        have hz0 : (wd f 2 == 0) = false := by simp [hz]
        have hz1 : (wd f 2 != 0) = true := by simp [hz]
        replace HC := Lib.hid HC
        have HE : Hid (LeastIs f (64 * 2 + c)) := Lib.hid ⟨by omega, h1, by
          intro j hj
          rcases Nat.lt_or_ge j (64 * 2) with h3 | h3
          · exact hno.out j h3
          · have := h2 (j - 64 * 2) (by omega)
            rwa [show 64 * 2 + (j - 64 * 2) = j from by omega] at this⟩
        clear hz h1 h2
        go_wp2_with (first | (refine wpList_index_set rfl (.tmp 6) (.tmp 7) rfl 2 (by omega) rfl rfl ?_) | (go_at_call 21; refine (HC.out _ HT.out).mono ?_; rintro e w1 ⟨rfl, rfl⟩))
        go_ret2
        exact ⟨.inl ⟨_, HE.out, tup_u8 (by omega)⟩, hb0⟩
    · by_cases hz : wd f 3 = 0
      · have hW := Lib.hid (HW.out 3 hz)
        have hz0 : (wd f 3 == 0) = true := by simp [hz]
        have hz1 : (wd f 3 != 0) = false := by simp [hz]
        clear hz
        go_wp2_with (refine wpList_index_set rfl (.tmp 6) (.tmp 7) rfl 3 (by omega) rfl rfl ?_)
        go_round
        case rel => exact ⟨4, by omega, rfl, Lib.hid (by
          intro j hj
          rcases Nat.lt_or_ge j (64 * 3) with h1 | h1
          · exact hno.out j h1
          · have := hW.out (j - 64 * 3) (by omega)
            rwa [show 64 * 3 + (j - 64 * 3) = j from by omega] at this)⟩
        case measure => simp [intOf]
      · obtain ⟨c, hc, h1, h2, HC⟩ := HZ.out 3 hz
        have hz0 : (wd f 3 == 0) = false := by simp [hz]
        have hz1 : (wd f 3 != 0) = true := by simp [hz]
        replace HC := Lib.hid HC
        have HE : Hid (LeastIs f (64 * 3 + c)) := Lib.hid ⟨by omega, h1, by
          intro j hj
          rcases Nat.lt_or_ge j (64 * 3) with h3 | h3
          · exact hno.out j h3
          · have := h2 (j - 64 * 3) (by omega)
            rwa [show 64 * 3 + (j - 64 * 3) = j from by omega] at this⟩
        clear hz h1 h2
        go_wp2_with (first | (refine wpList_index_set rfl (.tmp 6) (.tmp 7) rfl 3 (by omega) rfl rfl ?_) | (go_at_call 21; refine (HC.out _ HT.out).mono ?_; rintro e w1 ⟨rfl, rfl⟩))
        go_ret2
        exact ⟨.inl ⟨_, HE.out, tup_u8 (by omega)⟩, hb0⟩
    · go_wp2_with fail
      go_ret2
      exact ⟨.inr ⟨fun j hj => hno.out j (by omega), rfl⟩, hb0⟩

end Go.Proofs.YtbmejpghoafapaaDoor
