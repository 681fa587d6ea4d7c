/-
  The walk of the law bolterlaw01.SetLists.
-/
import Derived.Test.YtbmejpghoafapaaDoorRanges
import Derived.BigQuiet
namespace Go.Proofs.YtbmejpghoafapaaDoor
open Go.RowKit

theorem bs_pre (f : Nat → Bool) (k : Nat) : ∀ d, ∃ r, bs f (k + d) = bs f k ++ r
  | 0 => ⟨[], by simp⟩
  | d + 1 => by
    obtain ⟨r, h⟩ := bs_pre f k d
    cases hf : f (k + d)
    · exact ⟨r, by rw [← Nat.add_assoc, bs_no hf, h]⟩
    · exact ⟨r ++ [k + d], by rw [← Nat.add_assoc, bs_yes hf, h, List.append_assoc]⟩
theorem bs_nil {f : Nat → Bool} {k : Nat} (h : ∀ j, j < k → f j = false) : bs f k = [] := by
  unfold bs
  rw [List.filter_eq_nil_iff]
  intro a ha
  simp [h a (by simpa using ha)]
theorem least_head {f : Nat → Bool} {b : Nat} (h : LeastIs f b) : (bs f 256)[0]? = some b := by
  obtain ⟨h1, h2, h3⟩ := h
  obtain ⟨r, hr⟩ := bs_pre f (b + 1) (256 - (b + 1))
  rw [show b + 1 + (256 - (b + 1)) = 256 from by omega, bs_yes h2, bs_nil h3] at hr
  rw [hr]; rfl
theorem flat_at {R : List (Nat × Nat)} {i : Nat} {p : Nat × Nat} (h : R[i]? = some p) {j : Nat} (hj : j < p.2 + 1 - p.1) : (R.flatMap rg)[((R.take i).flatMap rg).length + j]? = some (p.1 + j) := by
  have hi := (List.getElem?_eq_some_iff.1 h).1
  have h1 : R = R.take i ++ p :: R.drop (i + 1) := by
    have := List.take_append_drop i R
    rw [List.drop_eq_getElem_cons hi, (List.getElem?_eq_some_iff.1 h).2] at this
    exact this.symm
  have h2 : R.flatMap rg = (R.take i).flatMap rg ++ (rg p ++ (R.drop (i + 1)).flatMap rg) := by
    conv => lhs; rw [h1]
    rw [List.flatMap_append, List.flatMap_cons]
  have h3 : (rg p).length = p.2 + 1 - p.1 := by simp [rg]
  rw [h2, List.getElem?_append_right (by omega), Nat.add_sub_cancel_left, List.getElem?_append_left (by omega)]
  unfold rg
  rw [List.getElem?_range' hj]; simp
theorem flat_step {R : List (Nat × Nat)} {i : Nat} {p : Nat × Nat} (h : R[i]? = some p) : ((R.take (i + 1)).flatMap rg).length = ((R.take i).flatMap rg).length + (p.2 + 1 - p.1) := by
  rw [take_next h, List.flatMap_append, List.length_append, List.flatMap_singleton]
  simp [rg]

set_option maxRecDepth 100000 in
set_option maxHeartbeats 2000000 in
theorem setLists_any (f : Nat → Bool) (w : World) (hT : TabW w) : Calls Tryd.prog 4 #[sv f] w fun e w' => e = .returned (.bool true) ∧ Below w.heap.size w w' := by
  have hb0 := Below.alloc (Below.refl w.heap.size w) (Nat.le_refl _) (sob f)
  have hS0 := HoldsS.made w f
  have HT := Lib.hid hT
  have HC := Lib.hid (count_any f)
  have hlt256 : ∀ (k b : Nat), (bs f 256)[k]? = some b → b < 256 := fun k b h => bs_lt h
  have hlen := bs_len f 256
  obtain ⟨L, hL⟩ : ∃ L, bs f 256 = L := ⟨_, rfl⟩
  rw [hL] at hlt256 hlen HC
  go_enter Tryd.func4, Tryd.ntmps4
  go_wp2_with fail
  refine (awake1 _).mono ?_
  rintro e w1 ⟨rfl, hb1⟩
  have hs1 := hb1.size
  simp at hs1
  have hS1 := hS0.below hb1 (by simp)
  have hbl1 : Below w.heap.size w w1 := (by repeat (first | exact Below.refl _ _ | assumption | refine Below.drew ?_ | refine below_drewN' ?_ _ | refine Below.setCell ?_ (by first | omega | (simp; done) | (simp; omega)) _ | refine Below.alloc ?_ (by first | omega | (simp; done) | (simp; omega)) _ | refine Below.trans ?_ (Below.mono (by assumption) (by first | omega | (simp; done) | (simp; omega)))))
  obtain ⟨c0, c1, c2, c3⟩ := hS1.cells
  go_wp2_with (first | (go_at_call 11; refine (all_any f _).mono ?_; rintro e w2 ⟨⟨vA, rfl, hA⟩, hb2⟩; rw [hL] at hA; obtain ⟨sa, ca, rfl⟩ := row_shape hA; have hs2 := hb2.size; have hS2 := hS1.below hb2 hS1.lt; obtain ⟨d0, d1, d2, d3⟩ := hS2.cells; have hbl2 : Below w.heap.size w w2 := (by repeat (first | exact Below.refl _ _ | assumption | refine Below.drew ?_ | refine below_drewN' ?_ _ | refine Below.setCell ?_ (by first | omega | (simp; done) | (simp; omega)) _ | refine Below.alloc ?_ (by first | omega | (simp; done) | (simp; omega)) _ | refine Below.trans ?_ (Below.mono (by assumption) (by first | omega | (simp; done) | (simp; omega)))))) | (go_at_call 12; refine (bytes_any f _).mono ?_; rintro e w3 ⟨⟨vB, rfl, hB⟩, hb3⟩; rw [hL] at hB; obtain ⟨sb, cb, rfl⟩ := row_shape hB; have hs3 := hb3.size; have hS3 := hS2.below hb3 hS2.lt; obtain ⟨e0, e1, e2, e3⟩ := hS3.cells; have hbl3 : Below w.heap.size w w3 := (by repeat (first | exact Below.refl _ _ | assumption | refine Below.drew ?_ | refine below_drewN' ?_ _ | refine Below.setCell ?_ (by first | omega | (simp; done) | (simp; omega)) _ | refine Below.alloc ?_ (by first | omega | (simp; done) | (simp; omega)) _ | refine Below.trans ?_ (Below.mono (by assumption) (by first | omega | (simp; done) | (simp; omega)))))) | (go_at_call 13; refine (HC.out _).mono ?_; rintro e w4 ⟨rfl, hb4⟩))
  have hs4 := hb4.size
  have hS4 := hS3.below hb4 hS3.lt
  obtain ⟨g0, g1, g2, g3⟩ := hS4.cells
  have hbl4 : Below w.heap.size w w4 := (by repeat (first | exact Below.refl _ _ | assumption | refine Below.drew ?_ | refine below_drewN' ?_ _ | refine Below.setCell ?_ (by first | omega | (simp; done) | (simp; omega)) _ | refine Below.alloc ?_ (by first | omega | (simp; done) | (simp; omega)) _ | refine Below.trans ?_ (Below.mono (by assumption) (by first | omega | (simp; done) | (simp; omega)))))
  have hA4 := row_below (row_below hA hb3 (Nat.le_refl _)) hb4 (Nat.le_refl _)
  have hB4 := row_below hB hb4 (Nat.le_refl _)
  clear hA hB c0 c1 c2 c3 d0 d1 d2 d3 e0 e1 e2 e3 hS0 hS1 hS2 hS3
  go_loopw [32] (fun i wr => ∃ k : Nat, k ≤ L.length ∧ i = .int .i64 k ∧ Below w4.heap.size w4 wr) (fun i _ => (L.length - intOf i).toNat)
  case atStart => exact ⟨0, by omega, rfl, Below.refl _ _⟩
  case round =>
    obtain ⟨k, hk, rfl, hbl⟩ := hrel
    have hsz := hbl.size
    by_cases hlt : k < L.length
    · obtain ⟨b, hb⟩ : ∃ b, L[k]? = some b := ⟨L[k], List.getElem?_eq_getElem hlt⟩
      have hb256 := hlt256 k b hb
      obtain ⟨ga, rfl, hga, hca⟩ := OwnV.at (row_below hA4 hbl (Nat.le_refl _)) hb
      obtain ⟨gb, rfl, hgb, hcb⟩ := OwnV.at (row_below hB4 hbl (Nat.le_refl _)) hb
      have hd : decide ((b : Int) ≠ (b : Int)) = false := by simp
      go_wp2_with fail
      go_big_quiet (fail)
      go_wp2_with fail
      go_round
      case rel => exact ⟨k + 1, by omega, by go_num, (by repeat (first | exact Below.refl _ _ | assumption | refine Below.drew ?_ | refine below_drewN' ?_ _ | refine Below.setCell ?_ (by first | omega | (simp; done) | (simp; omega)) _ | refine Below.alloc ?_ (by first | omega | (simp; done) | (simp; omega)) _ | refine Below.trans ?_ (Below.mono (by assumption) (by first | omega | (simp; done) | (simp; omega)))))⟩
      case measure => first | (simp [intOf]; done) | (simp [intOf]; omega)
    · obtain rfl : k = L.length := by omega
      obtain ⟨g0, g1, g2, g3⟩ := (hS4.below hbl hS4.lt).cells
      have hbl5 : Below w.heap.size w wr := (by repeat (first | exact Below.refl _ _ | assumption | refine Below.drew ?_ | refine below_drewN' ?_ _ | refine Below.setCell ?_ (by first | omega | (simp; done) | (simp; omega)) _ | refine Below.alloc ?_ (by first | omega | (simp; done) | (simp; omega)) _ | refine Below.trans ?_ (Below.mono (by assumption) (by first | omega | (simp; done) | (simp; omega)))))
      go_wp2_with fail
      refine (least_any f _ (HT.out.below hbl5 (Nat.le_refl _))).mono ?_
      rintro e w6 ⟨he, hb6⟩
      have hs6 := hb6.size
      have hbl6 : Below w.heap.size w w6 := (by repeat (first | exact Below.refl _ _ | assumption | refine Below.drew ?_ | refine below_drewN' ?_ _ | refine Below.setCell ?_ (by first | omega | (simp; done) | (simp; omega)) _ | refine Below.alloc ?_ (by first | omega | (simp; done) | (simp; omega)) _ | refine Below.trans ?_ (Below.mono (by assumption) (by first | omega | (simp; done) | (simp; omega)))))
      have hS6 := (hS4.below hbl hS4.lt).below hb6 (by have := hS4.lt; omega)
      have hB6 := row_below (row_below hB4 hbl (Nat.le_refl _)) hb6 (Nat.le_refl _)
      clear g0 g1 g2 g3 hA4 hB4 hS4
      obtain ⟨g0, g1, g2, g3⟩ := hS6.cells
      rcases he with ⟨b, hbl, rfl⟩ | ⟨hno, rfl⟩
      · have hb := least_head hbl
        rw [hL] at hb
        clear hbl
        have hb256 := hlt256 0 b hb
        have hl0 : 0 < L.length := (List.getElem?_eq_some_iff.1 hb).1
        have hd0 : decide ((0 : Int) < (L.length : Int)) = true := by simp; omega
        obtain ⟨gb, rfl, hgb, hcb⟩ := OwnV.at hB6 hb
        go_wp2_with (go_at_call 15; refine (ranges_any f _).mono ?_; rintro e w7 ⟨⟨vR, R, rfl, hR, hG, hF⟩, hb7⟩; rw [hL] at hF; obtain ⟨sr, cr, rfl⟩ := row_shape hR)
        have hs7 := hb7.size
        have hbl7 : Below w.heap.size w w7 := (by repeat (first | exact Below.refl _ _ | assumption | refine Below.drew ?_ | refine below_drewN' ?_ _ | refine Below.setCell ?_ (by first | omega | (simp; done) | (simp; omega)) _ | refine Below.alloc ?_ (by first | omega | (simp; done) | (simp; omega)) _ | refine Below.trans ?_ (Below.mono (by assumption) (by first | omega | (simp; done) | (simp; omega)))))
        have hB7 := row_below hB6 hb7 (Nat.le_refl _)
        clear g0 g1 g2 g3 hS6 hB6
        have hRl : R.length ≤ 256 := by have h1 := hG.len; rw [hF] at h1; omega
        go_loopw [8, 79] (fun kv iv wx => ∃ i : Nat, i ≤ R.length ∧ iv = .int .i64 i ∧ kv = .int .i64 (((R.take i).flatMap rg).length : Nat) ∧ Below w7.heap.size w7 wx) (fun _ iv _ => (R.length - intOf iv).toNat)
        case atStart => exact ⟨0, by omega, rfl, rfl, Below.refl _ _⟩
        case round =>
          obtain ⟨i, hi, rfl, rfl, hbx⟩ := hrel
          have hsx := hbx.size
          by_cases hlt : i < R.length
          · obtain ⟨⟨x, y⟩, hp⟩ : ∃ p, R[i]? = some p := ⟨R[i], List.getElem?_eq_getElem hlt⟩
            have hp1 : x ≤ y := hG.le i (x, y) hp
            have hp2 : y < 256 := hG.lt i (x, y) hp
            have hR8 := row_below hR hbx (Nat.le_refl _)
            have hB8 := row_below hB7 hbx (Nat.le_refl _)
            obtain ⟨gr, hgr, hr0, hrl, hcx, _⟩ := row_cell hR8 (rc_at hp).1
            obtain ⟨gr2, hgr2, _, _, hcy, _⟩ := row_cell hR8 (rc_at hp).2
            cases hgr
            cases hgr2
            have hst := Lib.hid (flat_step hp)
            have hfl := Lib.hid (fun (j : Nat) (hj : j < y + 1 - x) => flat_at hp hj)
            rw [hF] at hfl
            have hLn : ((R.take i).flatMap rg).length + (y + 1 - x) ≤ L.length := by
              have h1 := flat_at hp (j := y - x) (by simp only; omega)
              rw [hF] at h1
              have := (List.getElem?_eq_some_iff.1 h1).1
              omega
            generalize ((R.take i).flatMap rg).length = pre at *
            have hd1n : decide (y < x) = false := decide_eq_false (by omega)
            have hd1 : decide ((y : Int) < (x : Int)) = false := by simp; omega
            go_wp2_with fail

            rcases Nat.eq_zero_or_pos i with hi0 | hi0
            · have hd2 : decide ((0 : Int) < (i : Int)) = false := decide_eq_false (by omega)
              have hd2n : decide (0 < i) = false := decide_eq_false (by omega)
              clear hi0
              go_big_quiet (fail)
              go_wp2_with fail
              obtain ⟨wo, rfl⟩ : ∃ wo : World, wo = wr := ⟨_, rfl⟩
              go_loopw [8, 11] (fun kv bv wz => ∃ j : Nat, j ≤ y + 1 - x ∧ bv = .int .i64 ((x + j : Nat) : Int) ∧ kv = .int .i64 ((pre + j : Nat) : Int) ∧ Below w7.heap.size w7 wz) (fun _ bv _ => (y + 1 - intOf bv).toNat)
              case atStart => exact ⟨0, by omega, by go_num, by go_num, (by repeat (first | exact Below.refl _ _ | assumption | refine Below.drew ?_ | refine below_drewN' ?_ _ | refine Below.setCell ?_ (by first | omega | (simp; done) | (simp; omega)) _ | refine Below.alloc ?_ (by first | omega | (simp; done) | (simp; omega)) _ | refine Below.trans ?_ (Below.mono (by assumption) (by first | omega | (simp; done) | (simp; omega)))))⟩
              case round =>
                obtain ⟨j, hj, rfl, rfl, hbz⟩ := hrel
                have hsz := hbz.size
                have hR9 := row_below hR hbz (Nat.le_refl _)
                obtain ⟨gr2, hgr2, _, _, hcz, _⟩ := row_cell hR9 (rc_at hp).2
                cases hgr2
                by_cases hlj : j < y + 1 - x
                · obtain ⟨gb2, hgb2, _, hcb2⟩ := OwnV.at (row_below hB7 hbz (Nat.le_refl _)) (hfl.out j hlj)
                  cases hgb2
                  go_wp2_with fail
                  go_round
                  case rel => exact ⟨j + 1, by omega, by go_num, by go_num, hbz⟩
                  case measure => first | (simp [intOf]; done) | (simp [intOf]; omega)
                · obtain rfl : j = y + 1 - x := by omega
                  go_wp2_with fail
                  go_round
                  case rel => exact ⟨i + 1, by omega, by go_num, by rw [hst.out], hbz⟩
                  case measure => first | (simp [intOf]; done) | (simp [intOf]; omega)
            · obtain ⟨m, rfl⟩ : ∃ m, i = m + 1 := ⟨i - 1, by omega⟩
              obtain ⟨⟨x0, y0⟩, hp0⟩ : ∃ p, R[m]? = some p := ⟨R[m], List.getElem?_eq_getElem (by omega)⟩
              have hgap : y0 + 1 < x := hG.gap m (x0, y0) (x, y) hp0 hp
              obtain ⟨gr2, hgr2, _, _, hcy0, _⟩ := row_cell hR8 (rc_at hp0).2
              cases hgr2
              have hd2 : decide ((0 : Int) < ((m : Int) + 1)) = true := decide_eq_true (by omega)
              have hd3n : decide (x ≤ y0 + 1) = false := decide_eq_false (by omega)
              have hd3 : decide ((x : Int) ≤ (y0 : Int) + 1) = false := decide_eq_false (by omega)
              go_big_quiet (fail)
              go_wp2_with fail
              obtain ⟨wo, rfl⟩ : ∃ wo : World, wo = wr := ⟨_, rfl⟩
              go_loopw [8, 11] (fun kv bv wz => ∃ j : Nat, j ≤ y + 1 - x ∧ bv = .int .i64 ((x + j : Nat) : Int) ∧ kv = .int .i64 ((pre + j : Nat) : Int) ∧ Below w7.heap.size w7 wz) (fun _ bv _ => (y + 1 - intOf bv).toNat)
              case atStart => exact ⟨0, by omega, by go_num, by go_num, (by repeat (first | exact Below.refl _ _ | assumption | refine Below.drew ?_ | refine below_drewN' ?_ _ | refine Below.setCell ?_ (by first | omega | (simp; done) | (simp; omega)) _ | refine Below.alloc ?_ (by first | omega | (simp; done) | (simp; omega)) _ | refine Below.trans ?_ (Below.mono (by assumption) (by first | omega | (simp; done) | (simp; omega)))))⟩
              case round =>
                obtain ⟨j, hj, rfl, rfl, hbz⟩ := hrel
                have hsz := hbz.size
                have hR9 := row_below hR hbz (Nat.le_refl _)
                obtain ⟨gr2, hgr2, _, _, hcz, _⟩ := row_cell hR9 (rc_at hp).2
                cases hgr2
                by_cases hlj : j < y + 1 - x
                · obtain ⟨gb2, hgb2, _, hcb2⟩ := OwnV.at (row_below hB7 hbz (Nat.le_refl _)) (hfl.out j hlj)
                  cases hgb2
                  go_wp2_with fail
                  go_round
                  case rel => exact ⟨j + 1, by omega, by go_num, by go_num, hbz⟩
                  case measure => first | (simp [intOf]; done) | (simp [intOf]; omega)
                · obtain rfl : j = y + 1 - x := by omega
                  go_wp2_with fail
                  go_round
                  case rel => exact ⟨m + 1 + 1, by omega, by go_num, by rw [hst.out], hbz⟩
                  case measure => first | (simp [intOf]; done) | (simp [intOf]; omega)
          · obtain rfl : i = R.length := by omega
            rw [List.take_length, hF]
            go_wp2_with fail
            go_ret
            exact ⟨rfl, hbl7.trans (hbx.mono (by omega))⟩
      · have hl0 : L = [] := by rw [← hL]; exact bs_nil hno
        have hlz : L.length = 0 := by rw [hl0]; rfl
        have hd0 : decide ((0 : Int) < (L.length : Int)) = false := decide_eq_false (by omega)
        have hd0n : decide (0 < L.length) = false := decide_eq_false (by omega)
        clear hl0
        go_wp2_with (go_at_call 15; refine (ranges_any f _).mono ?_; rintro e w7 ⟨⟨vR, R, rfl, hR, hG, hF⟩, hb7⟩; rw [hL] at hF; obtain ⟨sr, cr, rfl⟩ := row_shape hR)
        have hs7 := hb7.size
        have hbl7 : Below w.heap.size w w7 := (by repeat (first | exact Below.refl _ _ | assumption | refine Below.drew ?_ | refine below_drewN' ?_ _ | refine Below.setCell ?_ (by first | omega | (simp; done) | (simp; omega)) _ | refine Below.alloc ?_ (by first | omega | (simp; done) | (simp; omega)) _ | refine Below.trans ?_ (Below.mono (by assumption) (by first | omega | (simp; done) | (simp; omega)))))
        have hB7 := row_below hB6 hb7 (Nat.le_refl _)
        clear g0 g1 g2 g3 hS6 hB6
        have hRl : R.length ≤ 256 := by have h1 := hG.len; rw [hF] at h1; omega
        go_loopw [8, 79] (fun kv iv wx => ∃ i : Nat, i ≤ R.length ∧ iv = .int .i64 i ∧ kv = .int .i64 (((R.take i).flatMap rg).length : Nat) ∧ Below w7.heap.size w7 wx) (fun _ iv _ => (R.length - intOf iv).toNat)
        case atStart => exact ⟨0, by omega, rfl, rfl, Below.refl _ _⟩
        case round =>
          obtain ⟨i, hi, rfl, rfl, hbx⟩ := hrel
          have hsx := hbx.size
          by_cases hlt : i < R.length
          · exfalso; have h1 := hG.len; rw [hF] at h1; omega
          · obtain rfl : i = R.length := by omega
            rw [List.take_length, hF]
            go_wp2_with fail
            go_ret
            exact ⟨rfl, hbl7.trans (hbx.mono (by omega))⟩

end Go.Proofs.YtbmejpghoafapaaDoor
