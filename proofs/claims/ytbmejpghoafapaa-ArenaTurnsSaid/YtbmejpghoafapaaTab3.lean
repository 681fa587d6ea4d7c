/-
  The walks of Then and Any.
-/
import Derived.Test.YtbmejpghoafapaaTab2
namespace Go.Proofs.Ytbmejpghoafapaa
open Go.RowKit Go.Maps
variable {w w' w1 : World} {g n k n0 : Nat} {r : Nat → Nat} {T T' : Tb}

def thenK (A B : Tb) (k : Nat) : Tb := fun x y => (List.range k).any fun q => decide (x ≤ q) && decide (q ≤ y) && A x q && B q y
def tThen (n : Nat) (A B : Tb) : Tb := thenK A B n
theorem thenK_succ (A B : Tb) (k x y : Nat) : thenK A B (k + 1) x y = (thenK A B k x y || (decide (x ≤ k) && decide (k ≤ y) && A x k && B k y)) := by
  unfold thenK
  rw [List.range_succ, List.any_append]
  simp
theorem thenK_low (A B : Tb) : ∀ k x y, k ≤ x → thenK A B k x y = false
  | 0, x, y, _ => rfl
  | k + 1, x, y, h => by
    rw [thenK_succ, thenK_low A B k x y (by omega)]
    have : ¬ x ≤ k := by omega
    simp [this]
def stT (n : Nat) (A B : Tb) (i k j : Nat) : Tb := fun x y => if x < i then thenK A B n x y else if x = i then (if y < j then thenK A B (k + 1) x y else thenK A B k x y) else false
theorem st_zero (n : Nat) (A B : Tb) : stT n A B 0 0 0 = tBlank := by
  funext x y
  unfold stT tBlank
  simp
  intro h
  subst h
  exact thenK_low A B 0 0 y (by omega)
theorem st_start (n : Nat) (A B : Tb) (i : Nat) : stT n A B i 0 0 = stT n A B i i 0 := by
  funext x y
  unfold stT
  by_cases h : x < i
  · simp [h]
  · by_cases h1 : x = i
    · subst h1
      simp [thenK_low A B 0 x y (by omega), thenK_low A B x x y (by omega)]
    · simp [h, h1]
theorem st_in (n : Nat) (A B : Tb) (i k : Nat) : stT n A B i k 0 = stT n A B i k k := by
  funext x y
  unfold stT
  by_cases h : x < i
  · simp [h]
  · by_cases h1 : x = i
    · subst h1
      by_cases h2 : y < k
      · have : ¬ k ≤ y := by omega
        simp [h2, thenK_succ, this]
      · simp [h2]
    · simp [h, h1]
theorem st_at (n : Nat) (A B : Tb) (i k j : Nat) : stT n A B i k j i j = thenK A B k i j := by simp [stT]
theorem st_put (n : Nat) (A B : Tb) {i k j : Nat} (hi : i ≤ k) (hj : k ≤ j) (ha : A i k = true) : putT (stT n A B i k j) i j (thenK A B k i j || B k j) = stT n A B i k (j + 1) := by
  funext x y
  unfold putT stT
  by_cases h1 : x = i
  · subst h1
    by_cases h2 : y = j
    · subst h2
      have h3 : y < y + 1 := by omega
      simp [thenK_succ, h3, hi, hj, ha]
    · have h3 : (y < j + 1) = (y < j) := by simp; omega
      simp [h2, h3]
  · simp [h1]
theorem st_out (n : Nat) (A B : Tb) (i k : Nat) : ∀ x y, x < n → y < n → stT n A B i k n x y = stT n A B i (k + 1) 0 x y := by
  intro x y _ hy
  unfold stT
  by_cases h : x < i
  · simp [h]
  · by_cases h1 : x = i
    · subst h1; simp [hy]
    · simp [h, h1]
theorem st_no (n : Nat) (A B : Tb) {i k : Nat} (j : Nat) (ha : A i k = false) : stT n A B i k j = stT n A B i (k + 1) 0 := by
  funext x y
  unfold stT
  by_cases h : x < i
  · simp [h]
  · by_cases h1 : x = i
    · subst h1
      have : thenK A B (k + 1) x y = thenK A B k x y := by simp [thenK_succ, ha]
      simp [this]
    · simp [h, h1]
theorem st_row (n : Nat) (A B : Tb) (i : Nat) : stT n A B i n 0 = stT n A B (i + 1) 0 0 := by
  funext x y
  unfold stT
  by_cases h : x < i
  · have h2 : x < i + 1 := by omega
    simp [h, h2]
  · by_cases h1 : x = i
    · subst h1; simp
    · have h2 : ¬ x < i + 1 := by omega
      by_cases h3 : x = i + 1
      · subst h3
        have h4 : ¬ i + 1 < i := by omega
        simp [thenK_low A B 0 (i + 1) y (by omega), h4]
      · simp [h, h1, h2, h3]
theorem st_end (n : Nat) (A B : Tb) : ∀ x y, x < n → y < n → stT n A B n 0 0 x y = tThen n A B x y := by
  intro x y hx _
  simp [stT, hx, tThen]

set_option maxRecDepth 100000 in
set_option maxHeartbeats 4000000 in
theorem then_any (n : Nat) (hn : n ≤ 100) {ga gb : Nat} {ra rb : Nat → Nat} {A B : Tb} (hA : HT w ga n ra A) (hB : HT w gb n rb B) :
    Calls Try.prog 50 #[.slice (some ⟨ga, 0, none⟩) n n, .slice (some ⟨gb, 0, none⟩) n n] w fun e w' => (∃ g r, e = .returned (.slice (some ⟨g, 0, none⟩) n n) ∧ NT w.heap.size w' g n r (tThen n A B)) ∧ Below w.heap.size w w' := by
  go_enter Try.func50, Try.ntmps50
  go_wp2_with (go_at_call 48; refine (blank_any n hn _).mono ?_; rintro e w1 ⟨⟨g, r, rfl, hN⟩, hb1⟩)
  have hs1 := hb1.size
  rw [← st_zero n A B] at hN
  go_loopw [14] (fun i wr => ∃ i' : Nat, i' ≤ n ∧ i = .int .i64 i' ∧ Below w.heap.size w wr ∧ NT w.heap.size wr g n r (stT n A B i' 0 0)) (fun i _ => (n - intOf i).toNat)
  case atStart => exact ⟨0, by omega, rfl, hb1, hN⟩
  case round =>
    clear hN hb1 hs1
    obtain ⟨i, hi, rfl, hbl, hN⟩ := hrel
    by_cases hlt : i < n
    · obtain ⟨wo, rfl⟩ : ∃ wo : World, wo = wr := ⟨_, rfl⟩
      rw [st_start] at hN
      go_wp2_with fail
      go_loopw [7] (fun kv wr => ∃ k : Nat, i ≤ k ∧ k ≤ n ∧ kv = .int .i64 k ∧ Below w.heap.size w wr ∧ NT w.heap.size wr g n r (stT n A B i k 0)) (fun kv _ => (n - intOf kv).toNat)
      case atStart => exact ⟨i, by omega, by omega, rfl, hbl, hN⟩
      case round =>
        clear hN hbl
        obtain ⟨k, hik, hk, rfl, hbl, hN⟩ := hrel
        by_cases hlk : k < n
        · obtain ⟨wo, rfl⟩ : ∃ wo : World, wo = wr := ⟨_, rfl⟩
          have hN0 := hN
          rw [st_in] at hN
          have hA' := hA.below hbl (Nat.le_refl _)
          have ha1 := HT.c hA' hlt
          have ha2 := HT.e hA' hlt hlk
          cases hAv : A i k
          · rw [hAv] at ha2
            rw [st_no n A B 0 hAv] at hN0
            go_wp2_with fail
            go_loopw [8] (fun jv wr => jv = .int .i64 k ∧ wr = wo) (fun _ _ => 0)
            case atStart => exact ⟨rfl, rfl⟩
            case round =>
              obtain ⟨rfl, rfl⟩ := hrel
              go_wp2_with fail
              go_round
              case rel => exact ⟨k + 1, by omega, by omega, by go_num, hbl, hN0⟩
              case measure => simp [intOf]; omega
          · rw [hAv] at ha2
            clear hN0 hA' ha1 ha2
            go_wp2_with fail
            go_loopw [8] (fun jv wr => ∃ j : Nat, k ≤ j ∧ j ≤ n ∧ jv = .int .i64 j ∧ Below w.heap.size w wr ∧ NT w.heap.size wr g n r (stT n A B i k j)) (fun jv _ => (n - intOf jv).toNat)
            case atStart => exact ⟨k, by omega, by omega, rfl, hbl, hN⟩
            case round =>
              clear hN hbl
              obtain ⟨j, hkj, hj, rfl, hbl, hN⟩ := hrel
              by_cases hlj : j < n
              · have hsz := hbl.size
                have hc := hN.ht.c hlt
                have he := hN.ht.e hlt hlj
                have hf := hN.ht.fz hlt j
                have hA' := hA.below hbl (Nat.le_refl _)
                have hB' := hB.below hbl (Nat.le_refl _)
                have ha1 := HT.c hA' hlt
                have ha2 := HT.e hA' hlt hlk
                have hb1 := HT.c hB' hlk
                have hb2 := HT.e hB' hlk hlj
                rw [hAv] at ha2
                rw [st_at] at he
                have hst := st_put n A B hik hkj hAv
                have hp := fun nq v => (hN.below (below_drewN' (Below.refl wr.heap.size wr) nq) (Nat.le_refl _)).put hlt j v
                have hpb := fun nq v => (hN.below (below_drewN' (Below.refl wr.heap.size wr) nq) (Nat.le_refl _)).put_below hlt j v (below_drewN' hbl nq)
                have hpn := fun nq v (h : (thenK A B k i j || B k j) = v) => by
                  have h1 := hp nq v
                  rw [← h, hst, h] at h1
                  exact h1
                clear hst hp hA' hB' hN
                cases hVv : thenK A B k i j <;> cases hBv : B k j
                all_goals
                  rw [hVv] at he
                  rw [hBv] at hb2
                  have hev : (thenK A B k i j || B k j) = (thenK A B k i j || B k j) := rfl
                  conv at hev => rhs; rw [hVv, hBv]
                  simp only [Bool.or_true, Bool.or_false] at hev
                  clear hVv hBv
                  go_wp2_with fail
                  refine wp_region_tail (fun w' => ∃ nq, w' = wr.drewN nq) 22 (by kernel_rfl) (by kernel_rfl) ⟨1, rfl⟩ ?_
                  simp only [List.take_succ_cons, List.take_zero, List.drop_succ_cons, List.drop_zero]
                  repeat (go_big_quiet_step (fail))
                  refine wpQuiet_nil ?_
                  rintro w' ⟨nq, rfl⟩
                  go_wp2_with fail
                  go_round
                  case rel => exact ⟨j + 1, by omega, by omega, by go_num, hpb nq _, hpn nq _ hev⟩
                  case measure => simp [intOf]; omega
              · obtain rfl : j = n := by omega
                have hN' := hN.congr (st_out j A B i k)
                go_wp2_with fail
                go_round
                case rel => exact ⟨k + 1, by omega, by omega, by go_num, hbl, hN'⟩
                case measure => simp [intOf]; omega
        · obtain rfl : k = n := by omega
          rw [st_row] at hN
          go_wp2_with fail
          go_round
          case rel => exact ⟨i + 1, by omega, by go_num, hbl, hN⟩
          case measure => simp [intOf]; omega
    · obtain rfl : i = n := by omega
      go_wp2_with fail
      go_ret
      exact ⟨⟨_, r, rfl, hN.congr (st_end _ A B)⟩, hbl⟩


/-- So many times. -/
def anyK (n : Nat) (A : Tb) : Nat → Tb
  | 0 => tOne
  | m + 1 => tEither (anyK n A m) (tThen n (anyK n A m) A)
def tAny (n : Nat) (A : Tb) : Tb := anyK n A n

set_option maxRecDepth 100000 in
set_option maxHeartbeats 1000000 in
theorem any_any (n : Nat) (hn : n ≤ 100) {ga : Nat} {ra : Nat → Nat} {A : Tb} (hA : HT w ga n ra A) :
    Calls Try.prog 54 #[.slice (some ⟨ga, 0, none⟩) n n] w fun e w' => (∃ g r, e = .returned (.slice (some ⟨g, 0, none⟩) n n) ∧ NT w.heap.size w' g n r (tAny n A)) ∧ Below w.heap.size w w' := by
  go_enter Try.func54, Try.ntmps54
  go_wp2_with (go_at_call 49; refine (one_any n hn _).mono ?_; rintro e w1 ⟨⟨g, r, rfl, hN⟩, hb1⟩)
  go_loopw [3, 9] (fun tv iv wr => ∃ (m : Nat) (g : Nat) (r : Nat → Nat), m ≤ n ∧ iv = .int .i64 m ∧ tv = .slice (some ⟨g, 0, none⟩) n n ∧ Below w.heap.size w wr ∧ NT w.heap.size wr g n r (anyK n A m)) (fun _ iv _ => (n - intOf iv).toNat)
  case atStart => exact ⟨0, g, r, by omega, rfl, rfl, hb1, hN⟩
  case round =>
    clear hN hb1
    obtain ⟨m, g, r, hm, rfl, rfl, hbl, hN⟩ := hrel
    by_cases hlt : m < n
    · have hsz := hbl.size
      have hA' := hA.below hbl (Nat.le_refl _)
      go_wp2_with (first | (go_at_call 50; refine (then_any n hn hN.ht hA').mono ?_; rintro e w2 ⟨⟨g2, r2, rfl, hN2⟩, hb2⟩; have hN' := hN.below hb2 (Nat.le_refl _); have hs2 := hb2.size) | (go_at_call 51; refine (either_any n hn hN'.ht hN2.ht).mono ?_; rintro e w3 ⟨⟨g3, r3, rfl, hN3⟩, hb3⟩))
      go_round
      case rel => exact ⟨m + 1, g3, r3, by omega, by go_num, rfl, (by repeat (first | exact Below.refl _ _ | assumption | refine Below.drew ?_ | refine below_drewN' ?_ _ | refine Below.setCell ?_ (by first | omega | (simp; done) | (simp; omega)) _ | refine Below.alloc ?_ (by first | omega | (simp; done) | (simp; omega)) _ | refine Below.trans ?_ (Below.mono (by assumption) (by first | omega | (simp; done) | (simp; omega))))), hN3.mono (by omega)⟩
      case measure => simp [intOf]; omega
    · obtain rfl : m = n := by omega
      go_wp2_with fail
      go_ret
      exact ⟨⟨_, r, rfl, hN⟩, hbl⟩

end Go.Proofs.Ytbmejpghoafapaa
