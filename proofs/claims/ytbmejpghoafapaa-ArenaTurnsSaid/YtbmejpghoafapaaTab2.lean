/-
  The walks of One, Either, Both, Other.
-/
import Derived.Test.YtbmejpghoafapaaTab
import Derived.BigQuiet
namespace Go.Proofs.Ytbmejpghoafapaa
open Go.RowKit Go.Maps
variable {w w' w1 : World} {g n k n0 : Nat} {r : Nat → Nat} {T T' : Tb}

def tOne : Tb := fun i j => i == j
def tEither (a b : Tb) : Tb := fun i j => a i j || b i j
def tBoth (a b : Tb) : Tb := fun i j => a i j && b i j
def tOther (a : Tb) : Tb := fun i j => decide (i ≤ j) && !a i j
/-- What is done of E ahead of a place. -/
def part (E : Tb) (i j : Nat) : Tb := fun x y => if x < i ∨ (x = i ∧ y < j) then E x y else false
theorem part_zero (E : Tb) : part E 0 0 = tBlank := by funext x y; simp [part, tBlank]
theorem part_step (E : Tb) (i j : Nat) : putT (part E i j) i j (E i j) = part E i (j + 1) := by
  funext x y
  unfold putT part
  by_cases h1 : x = i
  · subst h1
    by_cases h2 : y = j
    · subst h2
      have h4 : y < y + 1 := by omega
      simp [h4]
    · have h3 : (y < j + 1) = (y < j) := by simp; omega
      simp [h2, h3]
  · simp [h1]
theorem part_row (E : Tb) {n i : Nat} : ∀ x y, x < n → y < n → part E i n x y = part E (i + 1) 0 x y := by
  intro x y _ hy
  unfold part
  by_cases h1 : x < i
  · have h2 : x < i + 1 := by omega
    simp [h1, h2]
  · by_cases h3 : x = i
    · subst h3; simp [hy]
    · have h2 : ¬ x < i + 1 := by omega
      simp [h1, h2, h3]
theorem part_end (E : Tb) {n : Nat} : ∀ x y, x < n → y < n → part E n 0 x y = E x y := by
  intro x y hx _
  simp [part, hx]
theorem part_low (E : Tb) {i : Nat} (h : ∀ y, y < i → E i y = false) : part E i 0 = part E i i := by
  funext x y
  unfold part
  by_cases h1 : x < i
  · simp [h1]
  · by_cases h3 : x = i
    · subst h3
      by_cases h2 : y < x
      · simp [h2, h y h2]
      · simp [h2]
    · simp [h1, h3]
theorem tOther_low (A : Tb) (i : Nat) : ∀ y, y < i → tOther A i y = false := by
  intro y hy
  have : ¬ i ≤ y := by omega
  simp [tOther, this]
theorem part_diag (E : Tb) {i j : Nat} (h : ∀ y, y ≠ j → E i y = false) : putT (part E i 0) i j (E i j) = part E (i + 1) 0 := by
  funext x y
  unfold putT part
  by_cases h1 : x = i
  · subst h1
    by_cases h2 : y = j
    · subst h2; simp
    · simp [h2, h y h2]
  · have h3 : (x < i + 1) = (x < i) := by simp; omega
    simp [h1, h3]

set_option maxRecDepth 100000 in
set_option maxHeartbeats 1000000 in
theorem one_any (n : Nat) (hn : n ≤ 100) (w : World) : Calls Try.prog 49 #[.int .i64 (n : Int)] w fun e w' => (∃ g r, e = .returned (.slice (some ⟨g, 0, none⟩) n n) ∧ NT w.heap.size w' g n r tOne) ∧ Below w.heap.size w w' := by
  go_enter Try.func49, Try.ntmps49
  go_wp2_with (go_at_call 48; refine (blank_any n hn _).mono ?_; rintro e w1 ⟨⟨g, r, rfl, hN⟩, hb1⟩)
  have hs1 := hb1.size
  rw [← part_zero tOne] at hN
  go_loopw [9] (fun i wr => ∃ k : Nat, k ≤ n ∧ i = .int .i64 k ∧ Below w.heap.size w wr ∧ NT w.heap.size wr g n r (part tOne k 0)) (fun i _ => (n - intOf i).toNat)
  case atStart => exact ⟨0, by omega, rfl, hb1, hN⟩
  case round =>
    clear hN hb1 hs1
    obtain ⟨k, hk, rfl, hbl, hN⟩ := hrel
    by_cases hlt : k < n
    · have hsz := hbl.size
      have hc := hN.ht.c hlt
      have he := hN.ht.e hlt hlt
      have hf := hN.ht.fz hlt k
      have hp := hN.put hlt k true
      have hpb := hN.put_below hlt k true hbl
      have hd := part_diag tOne (i := k) (j := k) (fun y hy => by simp [tOne]; omega)
      have hkk : tOne k k = true := by simp [tOne]
      rw [hkk] at hd
      rw [hd] at hp
      clear hd hkk
      go_wp2_with fail
      go_round
      case rel => exact ⟨k + 1, by omega, by go_num, hpb, hp⟩
      case measure => simp [intOf]; omega
    · obtain rfl : k = n := by omega
      go_wp2_with fail
      go_ret
      exact ⟨⟨_, r, rfl, hN.congr (part_end tOne)⟩, hbl⟩

set_option maxRecDepth 100000 in
set_option maxHeartbeats 2000000 in
theorem either_any (n : Nat) (hn : n ≤ 100) {ga gb : Nat} {ra rb : Nat → Nat} {A B : Tb} (hA : HT w ga n ra A) (hB : HT w gb n rb B) :
    Calls Try.prog 51 #[.slice (some ⟨ga, 0, none⟩) n n, .slice (some ⟨gb, 0, none⟩) n n] w fun e w' => (∃ g r, e = .returned (.slice (some ⟨g, 0, none⟩) n n) ∧ NT w.heap.size w' g n r (tEither A B)) ∧ Below w.heap.size w w' := by
  go_enter Try.func51, Try.ntmps51
  go_wp2_with (go_at_call 48; refine (blank_any n hn _).mono ?_; rintro e w1 ⟨⟨g, r, rfl, hN⟩, hb1⟩)
  have hs1 := hb1.size
  rw [← part_zero (tEither A B)] at hN
  go_loopw [13] (fun i wr => ∃ k : Nat, k ≤ n ∧ i = .int .i64 k ∧ Below w.heap.size w wr ∧ NT w.heap.size wr g n r (part (tEither A B) k 0)) (fun i _ => (n - intOf i).toNat)
  case atStart => exact ⟨0, by omega, rfl, hb1, hN⟩
  case round =>
    clear hN hb1 hs1
    obtain ⟨k, hk, rfl, hbl, hN⟩ := hrel
    by_cases hlt : k < n
    · obtain ⟨wo, rfl⟩ : ∃ wo : World, wo = wr := ⟨_, rfl⟩
      go_wp2_with fail
      go_loopw [18] (fun i wr => ∃ j : Nat, j ≤ n ∧ i = .int .i64 j ∧ Below w.heap.size w wr ∧ NT w.heap.size wr g n r (part (tEither A B) k j)) (fun i _ => (n - intOf i).toNat)
      case atStart => exact ⟨0, by omega, rfl, hbl, hN⟩
      case round =>
        clear hN hbl
        obtain ⟨j, hj, rfl, hbl, hN⟩ := hrel
        by_cases hlj : j < n
        · have hsz := hbl.size
          have hc := hN.ht.c hlt
          have he := hN.ht.e hlt hlj
          have hf := hN.ht.fz hlt j
          have hA' := hA.below hbl (Nat.le_refl _)
          have hB' := hB.below hbl (Nat.le_refl _)
          have ha1 := HT.c hA' hlt
          have ha2 := HT.e hA' hlt hlj
          have hb1 := HT.c hB' hlt
          have hb2 := HT.e hB' hlt hlj
          have hst := part_step (tEither A B) k j
          have hp := fun nq v => (hN.below (below_drewN' (Below.refl wr.heap.size wr) nq) (Nat.le_refl _)).put hlt j v
          have hpb := fun nq v => (hN.below (below_drewN' (Below.refl wr.heap.size wr) nq) (Nat.le_refl _)).put_below hlt j v (below_drewN' hbl nq)
          have hpn := fun nq v (h : tEither A B k j = v) => by
            have h1 := hp nq v
            rw [← h, hst, h] at h1
            exact h1
          clear hst hp hA' hB' hN
          cases hAv : A k j <;> cases hBv : B k j
          all_goals
            rw [hAv] at ha2
            rw [hBv] at hb2
            have hev : tEither A B k j = (A k j || B k j) := rfl
            rw [hAv, hBv] at hev
            simp only [Bool.or_true, Bool.or_false, Bool.true_or, Bool.false_or] at hev
            clear hAv hBv
            go_wp2_with fail
            refine wp_region_tail (fun w' => ∃ nq, w' = wr.drewN nq) 22 (by kernel_rfl) (by kernel_rfl) ⟨1, rfl⟩ ?_
            simp only [List.take_succ_cons, List.take_zero, List.drop_succ_cons, List.drop_zero]
            repeat (go_big_quiet_step (fail))
            refine wpQuiet_nil ?_
            rintro w' ⟨nq, rfl⟩
            go_wp2_with fail
            go_round
            case rel => exact ⟨j + 1, by omega, by go_num, hpb nq _, hpn nq _ hev⟩
            case measure => simp [intOf]; omega
        · obtain rfl : j = n := by omega
          have hN' := hN.congr (part_row (tEither A B))
          go_wp2_with fail
          go_round
          case rel => exact ⟨k + 1, by omega, by go_num, hbl, hN'⟩
          case measure => simp [intOf]; omega
    · obtain rfl : k = n := by omega
      go_wp2_with fail
      go_ret
      exact ⟨⟨_, r, rfl, hN.congr (part_end _)⟩, hbl⟩

/-! Printed by gentab2.py from here on. -/
set_option maxRecDepth 100000 in
set_option maxHeartbeats 2000000 in
theorem both_any (n : Nat) (hn : n ≤ 100) {ga gb : Nat} {ra rb : Nat → Nat} {A B : Tb} (hA : HT w ga n ra A) (hB : HT w gb n rb B) :
    Calls Try.prog 52 #[.slice (some ⟨ga, 0, none⟩) n n, .slice (some ⟨gb, 0, none⟩) n n] w fun e w' => (∃ g r, e = .returned (.slice (some ⟨g, 0, none⟩) n n) ∧ NT w.heap.size w' g n r (tBoth A B)) ∧ Below w.heap.size w w' := by
  go_enter Try.func52, Try.ntmps52
  go_wp2_with (go_at_call 48; refine (blank_any n hn _).mono ?_; rintro e w1 ⟨⟨g, r, rfl, hN⟩, hb1⟩)
  have hs1 := hb1.size
  rw [← part_zero (tBoth A B)] at hN
  go_loopw [13] (fun i wr => ∃ k : Nat, k ≤ n ∧ i = .int .i64 k ∧ Below w.heap.size w wr ∧ NT w.heap.size wr g n r (part (tBoth A B) k 0)) (fun i _ => (n - intOf i).toNat)
  case atStart => exact ⟨0, by omega, rfl, hb1, hN⟩
  case round =>
    clear hN hb1 hs1
    obtain ⟨k, hk, rfl, hbl, hN⟩ := hrel
    by_cases hlt : k < n
    · obtain ⟨wo, rfl⟩ : ∃ wo : World, wo = wr := ⟨_, rfl⟩
      go_wp2_with fail
      go_loopw [18] (fun i wr => ∃ j : Nat, j ≤ n ∧ i = .int .i64 j ∧ Below w.heap.size w wr ∧ NT w.heap.size wr g n r (part (tBoth A B) k j)) (fun i _ => (n - intOf i).toNat)
      case atStart => exact ⟨0, by omega, rfl, hbl, hN⟩
      case round =>
        clear hN hbl
        obtain ⟨j, hj, rfl, hbl, hN⟩ := hrel
        by_cases hlj : j < n
        · have hsz := hbl.size
          have hc := hN.ht.c hlt
          have he := hN.ht.e hlt hlj
          have hf := hN.ht.fz hlt j
          have hA' := hA.below hbl (Nat.le_refl _)
          have hB' := hB.below hbl (Nat.le_refl _)
          have ha1 := HT.c hA' hlt
          have ha2 := HT.e hA' hlt hlj
          have hb1 := HT.c hB' hlt
          have hb2 := HT.e hB' hlt hlj
          have hst := part_step (tBoth A B) k j
          have hp := fun nq v => (hN.below (below_drewN' (Below.refl wr.heap.size wr) nq) (Nat.le_refl _)).put hlt j v
          have hpb := fun nq v => (hN.below (below_drewN' (Below.refl wr.heap.size wr) nq) (Nat.le_refl _)).put_below hlt j v (below_drewN' hbl nq)
          have hpn := fun nq v (h : tBoth A B k j = v) => by
            have h1 := hp nq v
            rw [← h, hst, h] at h1
            exact h1
          clear hst hp hA' hB' hN
          cases hAv : A k j <;> cases hBv : B k j
          all_goals
            rw [hAv] at ha2
            rw [hBv] at hb2
            have hev : tBoth A B k j = (A k j && B k j) := rfl
            rw [hAv, hBv] at hev
            simp only [Bool.and_true, Bool.and_false, Bool.true_and, Bool.false_and] at hev
            clear hAv hBv
            go_wp2_with fail
            refine wp_region_tail (fun w' => ∃ nq, w' = wr.drewN nq) 22 (by kernel_rfl) (by kernel_rfl) ⟨1, rfl⟩ ?_
            simp only [List.take_succ_cons, List.take_zero, List.drop_succ_cons, List.drop_zero]
            repeat (go_big_quiet_step (fail))
            refine wpQuiet_nil ?_
            rintro w' ⟨nq, rfl⟩
            go_wp2_with fail
            go_round
            case rel => exact ⟨j + 1, by omega, by go_num, hpb nq _, hpn nq _ hev⟩
            case measure => simp [intOf]; omega
        · obtain rfl : j = n := by omega
          have hN' := hN.congr (part_row (tBoth A B))
          go_wp2_with fail
          go_round
          case rel => exact ⟨k + 1, by omega, by go_num, hbl, hN'⟩
          case measure => simp [intOf]; omega
    · obtain rfl : k = n := by omega
      go_wp2_with fail
      go_ret
      exact ⟨⟨_, r, rfl, hN.congr (part_end _)⟩, hbl⟩

set_option maxRecDepth 100000 in
set_option maxHeartbeats 2000000 in
theorem other_any (n : Nat) (hn : n ≤ 100) {ga : Nat} {ra : Nat → Nat} {A : Tb} (hA : HT w ga n ra A) :
    Calls Try.prog 53 #[.slice (some ⟨ga, 0, none⟩) n n] w fun e w' => (∃ g r, e = .returned (.slice (some ⟨g, 0, none⟩) n n) ∧ NT w.heap.size w' g n r (tOther A)) ∧ Below w.heap.size w w' := by
  go_enter Try.func53, Try.ntmps53
  go_wp2_with (go_at_call 48; refine (blank_any n hn _).mono ?_; rintro e w1 ⟨⟨g, r, rfl, hN⟩, hb1⟩)
  have hs1 := hb1.size
  rw [← part_zero (tOther A)] at hN
  go_loopw [11] (fun i wr => ∃ k : Nat, k ≤ n ∧ i = .int .i64 k ∧ Below w.heap.size w wr ∧ NT w.heap.size wr g n r (part (tOther A) k 0)) (fun i _ => (n - intOf i).toNat)
  case atStart => exact ⟨0, by omega, rfl, hb1, hN⟩
  case round =>
    clear hN hb1 hs1
    obtain ⟨k, hk, rfl, hbl, hN⟩ := hrel
    by_cases hlt : k < n
    · obtain ⟨wo, rfl⟩ : ∃ wo : World, wo = wr := ⟨_, rfl⟩
      go_wp2_with fail
      go_loopw [5] (fun i wr => ∃ j : Nat, k ≤ j ∧ j ≤ n ∧ i = .int .i64 j ∧ Below w.heap.size w wr ∧ NT w.heap.size wr g n r (part (tOther A) k j)) (fun i _ => (n - intOf i).toNat)
      case atStart => exact ⟨k, by omega, by omega, rfl, hbl, by rw [← part_low _ (tOther_low A k)]; exact hN⟩
      case round =>
        clear hN hbl
        obtain ⟨j, hkj, hj, rfl, hbl, hN⟩ := hrel
        by_cases hlj : j < n
        · have hsz := hbl.size
          have hc := hN.ht.c hlt
          have he := hN.ht.e hlt hlj
          have hf := hN.ht.fz hlt j
          have hA' := hA.below hbl (Nat.le_refl _)
          have ha1 := HT.c hA' hlt
          have ha2 := HT.e hA' hlt hlj
          have hst := part_step (tOther A) k j
          have hp := fun nq v => (hN.below (below_drewN' (Below.refl wr.heap.size wr) nq) (Nat.le_refl _)).put hlt j v
          have hpb := fun nq v => (hN.below (below_drewN' (Below.refl wr.heap.size wr) nq) (Nat.le_refl _)).put_below hlt j v (below_drewN' hbl nq)
          have hpn := fun nq v (h : tOther A k j = v) => by
            have h1 := hp nq v
            rw [← h, hst, h] at h1
            exact h1
          clear hst hp hA' hN
          cases hAv : A k j
          all_goals
            rw [hAv] at ha2
            have hev : tOther A k j = !A k j := by simp [tOther, hkj]
            rw [hAv] at hev
            simp only [Bool.not_true, Bool.not_false] at hev
            clear hAv
            go_wp2_with fail
            refine wp_region_tail (fun w' => ∃ nq, w' = wr.drewN nq) 14 (by kernel_rfl) (by kernel_rfl) ⟨1, rfl⟩ ?_
            simp only [List.take_succ_cons, List.take_zero, List.drop_succ_cons, List.drop_zero]
            repeat (go_big_quiet_step (fail))
            refine wpQuiet_nil ?_
            rintro w' ⟨nq, rfl⟩
            go_wp2_with fail
            go_round
            case rel => exact ⟨j + 1, by omega, by omega, by go_num, hpb nq _, hpn nq _ hev⟩
            case measure => simp [intOf]; omega
        · obtain rfl : j = n := by omega
          have hN' := hN.congr (part_row (tOther A))
          go_wp2_with fail
          go_round
          case rel => exact ⟨k + 1, by omega, by go_num, hbl, hN'⟩
          case measure => simp [intOf]; omega
    · obtain rfl : k = n := by omega
      go_wp2_with fail
      go_ret
      exact ⟨⟨_, r, rfl, hN.congr (part_end _)⟩, hbl⟩

end Go.Proofs.Ytbmejpghoafapaa
