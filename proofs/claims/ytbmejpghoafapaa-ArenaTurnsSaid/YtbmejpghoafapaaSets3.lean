/-
  The walk of bolterlaw01.SetMakes: the law answers true.
-/
import Derived.Test.YtbmejpghoafapaaSets2
import Derived.Test.YtbmejpghoafapaaOrder
import Derived.Test.YtbmejpghoafapaaEq
namespace Go.Proofs.Ytbmejpghoafapaa
open Go.RowKit

/-- Behind a store of a whole set. -/
theorem HoldsS.all {w : World} {b : Nat} {f : Nat → Bool} (h : HoldsS w b f) (g : Nat → Bool) :
    HoldsS ((((w.setCell ⟨b, 0, none⟩ (.int .u64 (wd g 0))).setCell ⟨b, 1, none⟩ (.int .u64 (wd g 1))).setCell ⟨b, 2, none⟩ (.int .u64 (wd g 2))).setCell ⟨b, 3, none⟩ (.int .u64 (wd g 3))) b g := by
  unfold HoldsS at *
  simp [World.setCell, Array.getElem?_modify, h, sob]
theorem HoldsS.other4 {w : World} {b c : Nat} {f : Nat → Bool} (h : HoldsS w c f) (hc : c ≠ b) (v0 v1 v2 v3 : Value) :
    HoldsS ((((w.setCell ⟨b, 0, none⟩ v0).setCell ⟨b, 1, none⟩ v1).setCell ⟨b, 2, none⟩ v2).setCell ⟨b, 3, none⟩ v3) c f :=
  HoldsS.other (HoldsS.other (HoldsS.other (HoldsS.other h hc _) hc _) hc _) hc _

theorem BytesAt.below {w w' : World} {n : Nat} {v : Value} {l : List Int} (h : BytesAt w v l) (hb : Below n w w') (hn : w.heap.size ≤ n) : BytesAt w' v l := by
  obtain ⟨hx, a, cap, rfl, hs⟩ := h
  refine ⟨hx, a, cap, rfl, fun hl => ?_⟩
  obtain ⟨b, off, rfl, hc⟩ := hs hl
  exact ⟨b, off, rfl, fun i hi => cell_later (hb.mono hn) (hc i hi)⟩

theorem ne_nil_of_lt {l : List Int} {k : Nat} (h : k < l.length) : l ≠ [] := fun e => by rw [e] at h; simp at h

set_option maxRecDepth 100000 in
set_option maxHeartbeats 2000000 in
theorem setMakes_short (l : List Int) (v : Value) (lo hi : Int) (w : World) (hv : BytesAt w v l) (h0 : 0 ≤ lo ∧ lo < 256) (h1 : 0 ≤ hi ∧ hi < 256) (hlen : l.length ≤ 500) :
    Calls Try.prog 3 #[v, .int .u8 lo, .int .u8 hi] w fun e w' => e = .returned (.bool true) ∧ Below w.heap.size w w' := by
  have hv0 := hv
  obtain ⟨hx, a, cap, rfl, hs⟩ := hv
  have hd : decide ((500 : Int) < (l.length : Int)) = false := by simp; omega
  obtain ⟨h00, h01⟩ := h0
  obtain ⟨h10, h11⟩ := h1
  go_enter Try.func3, Try.ntmps3
  go_wp2_with fail
  refine (awake1 _).mono ?_
  rintro e w1 ⟨rfl, hb1⟩
  go_wp2_with fail
  have hA0 := (HoldsS.zeros w1 rfl).alloc zeros
  have hB0 := HoldsS.zeros (w1.alloc zeros) (b := w1.heap.size + 1) (by simp)
  have hs1 := hb1.size
  go_loopw [9, 21] (fun _ i wr => ∃ k : Nat, k ≤ l.length ∧ i = .int .i64 k ∧ Below w.heap.size w wr ∧ HoldsS wr w1.heap.size (inl (l.take k)) ∧ HoldsS wr (w1.heap.size + 1) (fun _ => false)) (fun _ i _ => (500 - intOf i).toNat)
  case atStart => exact ⟨0, by omega, rfl, (by repeat (first | exact Below.refl _ _ | assumption | refine Below.drew ?_ | refine below_drewN' ?_ _ | refine Below.setCell ?_ (by first | omega | (simp; done) | (simp; omega)) _ | refine Below.alloc ?_ (by first | omega | (simp; done) | (simp; omega)) _ | refine Below.trans ?_ (Below.mono (by assumption) (by first | omega | (simp; done) | (simp; omega))))), hA0, hB0⟩
  case round =>
    obtain ⟨k, hk, rfl, hbl, hA, hB⟩ := hrel
    clear hA0 hB0
    by_cases hlt : k < l.length
    · obtain ⟨b, off, rfl, hc⟩ := hs (ne_nil_of_lt hlt)
      have hck := cell_later hbl (hc k hlt)
      have ⟨hx0, hx1⟩ : 0 ≤ l.getD k 0 ∧ l.getD k 0 < 256 := hx _ (by simp [hlt])
      have HT := Lib.hid (inl_take l k hlt)
      generalize l.getD k 0 = x at *
      generalize inl (l.take k) = f at *
      clear hc hx hs hv0
      have hu : ∀ u : Wk wr.heap.size wr, HoldsS u.val w1.heap.size f := fun u => hA.below u.ok hA.lt
      have hue : ∀ u : Wk wr.heap.size wr, u.val.cell? ⟨b, off + k, none⟩ = some (.int .u8 x) := fun u => cell_later u.ok hck
      have c0 := fun u => (hu u).cells.1
      have c1 := fun u => (hu u).cells.2.1
      have c2 := fun u => (hu u).cells.2.2.1
      have c3 := fun u => (hu u).cells.2.2.2
      have fz := fun u => (hu u).free
      go_wp2_with fail
      refine wp_region_tail (fun w' => ∃ u : Wk wr.heap.size wr, w' = u.val) 7 (by kernel_rfl) (by kernel_rfl) ⟨⟨_, (Below.refl _ _).drew⟩, rfl⟩ ?_
      simp only [List.take_succ_cons, List.take_zero, List.drop_succ_cons, List.drop_zero]
      repeat (go_big_quiet_step (first | (exact wk_call (Nat.le_refl _) _ (put_any _ _ _ (by omega) (by omega)))))
      refine wpQuiet_nil ?_
      rintro w' ⟨u, rfl⟩
      go_wp2_with fail
      go_round
      case rel =>
        have hbu := u.ok
        have hsz := hbl.size
        exact ⟨k + 1, by omega, by go_num, (by repeat (first | exact Below.refl _ _ | assumption | refine Below.drew ?_ | refine below_drewN' ?_ _ | refine Below.setCell ?_ (by first | omega | (simp; done) | (simp; omega)) _ | refine Below.alloc ?_ (by first | omega | (simp; done) | (simp; omega)) _ | refine Below.trans ?_ (Below.mono (by assumption) (by first | omega | (simp; done) | (simp; omega))))), by rw [HT.out]; exact (hu u).all _, HoldsS.other4 (hB.below hbu hB.lt) (by omega) _ _ _ _⟩
      case measure => simp [intOf]; omega
    · have HT : Hid (inl (l.take k) = inl l) := Lib.hid (by rw [List.take_of_length_le (by omega)])
      have hsz := hbl.size
      obtain ⟨wo, rfl⟩ : ∃ wo : World, wo = wr := ⟨_, rfl⟩
      go_wp2_with fail
      clear hs hx
      go_loopw [10] (fun i wr => ∃ k : Int, lo ≤ k ∧ (k ≤ hi + 1 ∨ k = lo) ∧ i = .int .i64 k ∧ Below w.heap.size w wr ∧ HoldsS wr w1.heap.size (inl l) ∧ HoldsS wr (w1.heap.size + 1) (span lo (k - 1))) (fun i _ => (256 - intOf i).toNat)
      case atStart => exact ⟨lo, by omega, by omega, rfl, hbl, by rw [← HT.out]; exact hA, by rw [span_nil lo (lo - 1) (by omega)]; exact hB⟩
      case round =>
        clear hbl hA hB HT
        obtain ⟨k, hk, hk2, rfl, hbl, hA, hB⟩ := hrel
        by_cases hlt : k ≤ hi
        · have HG := Lib.hid (span_snoc lo k h00 hk)
          generalize span lo (k - 1) = f at *
          obtain ⟨c0, c1, c2, c3⟩ := hB.cells
          go_wp2_with fail
          refine (put_any _ _ _ (by omega) (by omega)).mono ?_
          rintro e w2 ⟨rfl, hb2⟩
          obtain ⟨d0, d1, d2, d3⟩ := (hB.below hb2 hB.lt).cells
          have fz := (hB.below hb2 hB.lt).free
          go_wp2_with fail
          go_round
          case rel =>
            have hsz := hbl.size
            exact ⟨k + 1, by omega, by omega, rfl, (by repeat (first | exact Below.refl _ _ | assumption | refine Below.drew ?_ | refine below_drewN' ?_ _ | refine Below.setCell ?_ (by first | omega | (simp; done) | (simp; omega)) _ | refine Below.alloc ?_ (by first | omega | (simp; done) | (simp; omega)) _ | refine Below.trans ?_ (Below.mono (by assumption) (by first | omega | (simp; done) | (simp; omega))))), HoldsS.other4 (hA.below hb2 hA.lt) (by omega) _ _ _ _, by rw [← HG.out]; exact (hB.below hb2 hB.lt).all _⟩
          case measure => simp [intOf]; omega
        · have HG : Hid (span lo (k - 1) = span lo hi) := Lib.hid (by
            rcases hk2 with h | h
            · have : k - 1 = hi := by omega
              rw [this]
            · rw [span_nil lo hi (by omega), span_nil lo (k - 1) (by omega)])
          rw [HG.out] at hB
          have hua : ∀ u : Wk wr.heap.size wr, HoldsS u.val w1.heap.size (inl l) := fun u => hA.below u.ok hA.lt
          have hub : ∀ u : Wk wr.heap.size wr, HoldsS u.val (w1.heap.size + 1) (span lo hi) := fun u => hB.below u.ok hB.lt
          have hue : ∀ u : Wk wr.heap.size wr, BytesAt u.val (.slice a l.length cap) l := fun u => hv0.below (hbl.trans (u.ok.mono hbl.size)) (Nat.le_refl _)
          have c0 := fun u => (hua u).cells.1
          have c1 := fun u => (hua u).cells.2.1
          have c2 := fun u => (hua u).cells.2.2.1
          have c3 := fun u => (hua u).cells.2.2.2
          have d0 := fun u => (hub u).cells.1
          have d1 := fun u => (hub u).cells.2.1
          have d2 := fun u => (hub u).cells.2.2.1
          have d3 := fun u => (hub u).cells.2.2.2
          clear hk hk2 hv0
          go_wp2_with fail
          refine wp_region_class (fun w' => ∃ u : Wk wr.heap.size wr, w' = u.val) (by kernel_rfl) (by kernel_rfl) ⟨⟨_, (Below.refl _ _).drew⟩, rfl⟩ ?_
          repeat (go_big_quiet_step (first | (go_at_call 14; exact wk_call (Nat.le_refl _) _ (of_any l _ _ (hue _) (by omega))) | (go_at_call 15; exact wk_call (Nat.le_refl _) _ (range_any _ _ _ ⟨by omega, by omega⟩ ⟨by omega, by omega⟩))))
          refine wpQuiet_nil ?_
          rintro w' ⟨u, rfl⟩
          have hbu := u.ok
          have hsz := hbl.size
          go_wp2_with fail
          go_ret
          exact ⟨rfl, (by repeat (first | exact Below.refl _ _ | assumption | refine Below.drew ?_ | refine below_drewN' ?_ _ | refine Below.setCell ?_ (by first | omega | (simp; done) | (simp; omega)) _ | refine Below.alloc ?_ (by first | omega | (simp; done) | (simp; omega)) _ | refine Below.trans ?_ (Below.mono (by assumption) (by first | omega | (simp; done) | (simp; omega)))))⟩

set_option maxHeartbeats 400000 in
theorem setMakes_long (n : Nat) (a : Option Addr) (cap : Nat) (lo hi : Int) (w : World) (hn : 500 < n) (hm : n ≤ maxLen) :
    Calls Try.prog 3 #[.slice a n cap, .int .u8 lo, .int .u8 hi] w fun e w' => e = .returned (.bool true) ∧ Below w.heap.size w w' := by
  unfold maxLen at hm
  have hd : decide ((500 : Int) < (n : Int)) = true := by simp; omega
  go_enter Try.func3, Try.ntmps3
  go_wp2_with fail
  refine (awake1 _).mono ?_
  rintro e w1 ⟨rfl, hb1⟩
  go_wp2_with fail
  refine (awake1 _).mono ?_
  rintro e w2 ⟨rfl, hb2⟩
  have hs1 := hb1.size
  go_wp2_with fail
  go_ret
  exact ⟨rfl, (by repeat (first | exact Below.refl _ _ | assumption | refine Below.drew ?_ | refine below_drewN' ?_ _ | refine Below.setCell ?_ (by first | omega | (simp; done) | (simp; omega)) _ | refine Below.alloc ?_ (by first | omega | (simp; done) | (simp; omega)) _ | refine Below.trans ?_ (Below.mono (by assumption) (by first | omega | (simp; done) | (simp; omega)))))⟩

theorem setMakes_any (l : List Int) (v : Value) (lo hi : Int) (w : World) (hv : BytesAt w v l) (h0 : 0 ≤ lo ∧ lo < 256) (h1 : 0 ≤ hi ∧ hi < 256) (hm : l.length ≤ maxLen) :
    Calls Try.prog 3 #[v, .int .u8 lo, .int .u8 hi] w fun e w' => e = .returned (.bool true) ∧ Below w.heap.size w w' := by
  rcases Nat.lt_or_ge 500 l.length with h | h
  · obtain ⟨_, a, cap, rfl, _⟩ := hv
    exact setMakes_long l.length a cap lo hi w h hm
  · exact setMakes_short l v lo hi w hv h0 h1 h

end Go.Proofs.Ytbmejpghoafapaa
