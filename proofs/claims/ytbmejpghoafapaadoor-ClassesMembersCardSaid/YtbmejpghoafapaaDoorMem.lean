/-
  The walks of classes.Members, classes.First and the law bolterlaw02.ClassesMembers.
-/
import Derived.Test.YtbmejpghoafapaaDoorLeast
import Derived.Deep.RegionWith
namespace Go.Proofs.YtbmejpghoafapaaDoor
open Go.RowKit

/-- Is byte b of class cl? -/
def isOf (o : Nat → Int) (n cl : Int) (b : Nat) : Bool := decide (0 ≤ cl) && decide (cl < n) && (o b == cl)
/-- The bytes of a class among the first k. -/
def mem (o : Nat → Int) (n cl : Int) (k : Nat) : Nat → Bool := fun b => decide (b < k) && isOf o n cl b
theorem mem_zero (o : Nat → Int) (n cl : Int) : mem o n cl 0 = fun _ => false := by funext b; simp [mem]
theorem mem_yes {o : Nat → Int} {n cl : Int} {k : Nat} (h : isOf o n cl k = true) : (fun b => mem o n cl k b || inl [(k : Int)] b) = mem o n cl (k + 1) := by
  funext b
  unfold mem inl
  by_cases hb : b = k
  · subst hb
    simp [h]
  · have h1 : decide (b < k + 1) = decide (b < k) := by
      have : (b < k + 1) ↔ (b < k) := by omega
      simp [this]
    rw [h1]
    simp [hb]
theorem mem_no {o : Nat → Int} {n cl : Int} {k : Nat} (h : isOf o n cl k = false) : mem o n cl (k + 1) = mem o n cl k := by
  funext b
  unfold mem
  by_cases hb : b = k
  · subst hb
    simp [h]
  · have h1 : decide (b < k + 1) = decide (b < k) := by
      have : (b < k + 1) ↔ (b < k) := by omega
      simp [this]
    rw [h1]

theorem HoldsS.all {w : World} {b : Nat} {f : Nat → Bool} (h : HoldsS w b f) (g : Nat → Bool) :
    HoldsS ((((w.setCell ⟨b, 0, none⟩ (.int .u64 (wd g 0))).setCell ⟨b, 1, none⟩ (.int .u64 (wd g 1))).setCell ⟨b, 2, none⟩ (.int .u64 (wd g 2))).setCell ⟨b, 3, none⟩ (.int .u64 (wd g 3))) b g := by
  unfold HoldsS at *
  simp [World.setCell, Array.getElem?_modify, h, sob]
theorem HoldsS.other4 {w : World} {b c : Nat} {f : Nat → Bool} (h : HoldsS w c f) (hc : c ≠ b) (v0 v1 v2 v3 : Value) :
    HoldsS ((((w.setCell ⟨b, 0, none⟩ v0).setCell ⟨b, 1, none⟩ v1).setCell ⟨b, 2, none⟩ v2).setCell ⟨b, 3, none⟩ v3) c f :=
  HoldsS.other (HoldsS.other (HoldsS.other (HoldsS.other h hc _) hc _) hc _) hc _
theorem HoldsC.other4 {w : World} {b c : Nat} {o : Nat → Int} {n : Int} (h : HoldsC w c o n) (hc : c ≠ b) (v0 v1 v2 v3 : Value) :
    HoldsC ((((w.setCell ⟨b, 0, none⟩ v0).setCell ⟨b, 1, none⟩ v1).setCell ⟨b, 2, none⟩ v2).setCell ⟨b, 3, none⟩ v3) c o n :=
  HoldsC.other (HoldsC.other (HoldsC.other (HoldsC.other h hc _) hc _) hc _) hc _

/-- The tests of a class, as they go. -/
theorem of_cases (o : Nat → Int) (n cl : Int) (k : Nat) : (decide (0 ≤ cl) = false ∧ isOf o n cl k = false) ∨ (decide (0 ≤ cl) = true ∧ decide (cl < n) = false ∧ isOf o n cl k = false) ∨
    (decide (0 ≤ cl) = true ∧ decide (cl < n) = true ∧ (o k == cl) = false ∧ isOf o n cl k = false) ∨ (decide (0 ≤ cl) = true ∧ decide (cl < n) = true ∧ (o k == cl) = true ∧ isOf o n cl k = true) := by
  unfold isOf
  cases decide (0 ≤ cl) <;> cases decide (cl < n) <;> cases (o k == cl) <;> simp

set_option maxRecDepth 100000 in
set_option maxHeartbeats 4000000 in
theorem members_any (o : Nat → Int) (n cl : Int) (w : World) (ho : ∀ i, i < 256 → 0 ≤ o i ∧ o i < 256) :
    Calls Tryd.prog 7 #[cv o n, .int .i64 cl] w fun e w' => e = .returned (sv (mem o n cl 256)) ∧ Below w.heap.size w w' := by
  have hC0 := ((HoldsC.made w o n rfl).alloc zeros).alloc zeros
  have hR0 := (HoldsS.zeros (w.alloc (cob o n)) (b := w.heap.size + 1) (by simp)).alloc zeros
  have hS0 := HoldsS.zeros ((w.alloc (cob o n)).alloc zeros) (b := w.heap.size + 1 + 1) (by simp)
  have HO := Lib.hid ho
  clear ho
  go_enter Tryd.func7, Tryd.ntmps7
  go_wp2_with fail
  go_loopw [7] (fun i wr => ∃ k : Nat, k ≤ 256 ∧ i = .int .i64 k ∧ Below w.heap.size w wr ∧ HoldsC wr w.heap.size o n ∧ HoldsS wr (w.heap.size + 1) (fun _ => false) ∧ HoldsS wr (w.heap.size + 1 + 1) (mem o n cl k)) (fun i _ => (256 - intOf i).toNat)
  case atStart => exact ⟨0, by omega, rfl, (by repeat (first | exact Below.refl _ _ | assumption | refine Below.drew ?_ | refine below_drewN' ?_ _ | refine Below.setCell ?_ (by first | omega | (simp; done) | (simp; omega)) _ | refine Below.alloc ?_ (by first | omega | (simp; done) | (simp; omega)) _ | refine Below.trans ?_ (Below.mono (by assumption) (by first | omega | (simp; done) | (simp; omega))))), hC0, hR0, by rw [mem_zero]; exact hS0⟩
  case round =>
    clear hC0 hR0 hS0
    obtain ⟨k, hk, rfl, hbl, hC, hR, hS⟩ := hrel
    by_cases hlt : k < 256
    · have hc := hC.of k hlt
      have hn := hC.n
      obtain ⟨hx0, hx1⟩ := HO.out k hlt
      have hsz := hbl.size
      have hY := Lib.hid (fun h => mem_yes (o := o) (n := n) (cl := cl) (k := k) h)
      have hN := Lib.hid (fun h => mem_no (o := o) (n := n) (cl := cl) (k := k) h)
      rcases of_cases o n cl k with ⟨t1, t4⟩ | ⟨t1, t2, t4⟩ | ⟨t1, t2, t3, t4⟩ | ⟨t1, t2, t3, t4⟩
      rotate_left 3
      · have HM := Lib.hid (hY.out t4)
        clear hY hN t4
        generalize o k = x at *
        have hw8 : IntKind.u8.wrap (k : Int) = (k : Int) := by rw [IntKind.wrap_u8]; omega
        obtain ⟨c0, c1, c2, c3⟩ := hS.cells
        have hltc := hC.lt
        have hltr := hR.lt
        have hlts := hS.lt
        go_wp2_with fail
        go_region_with (first | (go_at_call 18; refine (of_any [(k : Int)] _ _ (by exact bytes_one wr _ ⟨by omega, by omega⟩) (by simp)).mono ?_; rintro e w3 ⟨rfl, hb3⟩; have hS3 := ((hS.alloc _).drew.below hb3 (by simp; omega)); have hR3 := ((hR.alloc _).drew.below hb3 (by simp; omega)); have hC3 := ((hC.alloc _).drew.below hb3 (by simp; omega)); obtain ⟨d0, d1, d2, d3⟩ := hS3.cells) | (go_at_call 17; refine (union_any _ _ _).mono ?_; rintro e w4 ⟨rfl, hb4⟩; have hS4 := hS3.below hb4 hS3.lt; have hR4 := hR3.below hb4 hR3.lt; have hC4 := hC3.below hb4 hC3.lt; obtain ⟨e0, e1, e2, e3⟩ := hS4.cells; have fz := hS4.free))
        all_goals
          have hs3 := hb3.size
          have hs4 := hb4.size
          simp at hs3
          clear d0 d1 d2 d3 e0 e1 e2 e3 c0 c1 c2 c3 fz
          rw [HM.out]
          go_wp2_with fail
          go_round
          case rel => exact ⟨k + 1, by omega, by go_num, (by repeat (first | exact Below.refl _ _ | assumption | refine Below.drew ?_ | refine below_drewN' ?_ _ | refine Below.setCell ?_ (by first | omega | (simp; done) | (simp; omega)) _ | refine Below.alloc ?_ (by first | omega | (simp; done) | (simp; omega)) _ | refine Below.trans ?_ (Below.mono (by assumption) (by first | omega | (simp; done) | (simp; omega))))), HoldsC.other4 hC4 (by omega) _ _ _ _, HoldsS.other4 hR4 (by omega) _ _ _ _, hS4.all _⟩
          case measure => simp [intOf]; omega
      all_goals
        have HM := Lib.hid (hN.out t4)
        clear hY hN t4
        generalize o k = x at *
        go_wp2_with fail
        go_round
        case rel => exact ⟨k + 1, by omega, by go_num, hbl, hC, hR, by rw [HM.out]; exact hS⟩
        case measure => simp [intOf]; omega
    · obtain rfl : k = 256 := by omega
      generalize hm : mem o n cl 256 = m at *
      obtain ⟨c0, c1, c2, c3⟩ := hS.cells
      obtain ⟨e0, e1, e2, e3⟩ := hR.cells
      have fc := hR.free
      have HM := Lib.hid hm
      clear hm
      go_wp2_with fail
      exact bodyPost_ret (v := sv m) (by simp [results, Tryd.results7, go_sem, e0, e1, e2, e3]) rfl ⟨by rw [HM.out], (by repeat (first | exact Below.refl _ _ | assumption | refine Below.drew ?_ | refine below_drewN' ?_ _ | refine Below.setCell ?_ (by first | omega | (simp; done) | (simp; omega)) _ | refine Below.alloc ?_ (by first | omega | (simp; done) | (simp; omega)) _ | refine Below.trans ?_ (Below.mono (by assumption) (by first | omega | (simp; done) | (simp; omega)))))⟩

end Go.Proofs.YtbmejpghoafapaaDoor
