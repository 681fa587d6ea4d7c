/-
  The walk of turner.turn: what is done already; nodes without parts.
-/
import Derived.Test.YtbmejpghoafapaaTurn1
import Derived.Deep.CutRange
namespace Go.Proofs.Ytbmejpghoafapaa
open Go.RowKit Go.Maps
variable {n0 K b m d : Nat} {w w' w1 : World} {v v' : Value} {L0 L L' : List Nd} {M M' : Nat → Option Nat}

/-- Block x holds the turner. -/
def HoldsX (w : World) (x b d : Nat) : Prop := w.heap[x]? = some (.cells #[.pointer (some ⟨b, 0, none⟩), .map (some d)] 82 (0, 0))
theorem HoldsX.made (w : World) {x : Nat} (hx : x = w.heap.size) : HoldsX (w.alloc (.cells #[.pointer (some ⟨b, 0, none⟩), .map (some d)] 82)) x b d := by subst hx; exact heap_alloc_new w _
theorem HoldsX.c0 {x : Nat} (h : HoldsX w x b d) : w.cell? ⟨x, 0, none⟩ = some (.pointer (some ⟨b, 0, none⟩)) := by rw [cell_of_row w x 0 _ 82 (0, 0) h]; rfl
theorem HoldsX.c1 {x : Nat} (h : HoldsX w x b d) : w.cell? ⟨x, 1, none⟩ = some (.map (some d)) := by rw [cell_of_row w x 1 _ 82 (0, 0) h]; rfl
theorem HoldsX.lt {x : Nat} (h : HoldsX w x b d) : x < w.heap.size := heap_lt h
theorem HoldsX.keep {x : Nat} (h : HoldsX w x b d) (hk : w'.heap[x]? = w.heap[x]?) : HoldsX w' x b d := hk.trans h

set_option maxRecDepth 100000 in
set_option maxHeartbeats 1000000 in
theorem turn_old (hS : St n0 K w b m d v L0 L M) (hn0 : n0 ≤ w.heap.size) (hK : K ≤ 100) {id x : Nat} (hid : id < K) (hx : M id = some x) :
    Calls Try.prog 47 #[tv b d, .int .i64 (id : Int)] w fun e w' => TurnE n0 K b m d L0 id w v L M e w' := by
  have hX := Below.alloc (Below.refl w.heap.size w) (Nat.le_refl _) (.cells #[.pointer (some ⟨b, 0, none⟩), .map (some d)] 82)
  have hS1 := hS.below hX (Nat.le_refl _)
  have hrun := hS1.im.yes (by omega) hx
  have hR : TurnR n0 K b m d L0 id w v L M _ x v L M := ⟨hS1, hS1.mir id x hx, pre_refl L, fun _ _ => rfl, Fr.of_below hX, ow_refl w v, hX.mono hn0⟩
  have hb1 := (HoldsX.made (b := b) (d := d) w rfl).c1
  clear hS1 hX
  generalize hw1 : w.alloc (.cells #[.pointer (some ⟨b, 0, none⟩), .map (some d)] 82) = w1 at *
  go_enter Try.func47, Try.ntmps47
  go_wp2_with fail
  go_ret
  exact turnE hR

set_option maxRecDepth 100000 in
set_option maxHeartbeats 2000000 in
theorem turn_leaf (hS : St n0 K w b m d v L0 L M) (hn0 : n0 ≤ w.heap.size) (hK : K ≤ 100) {id : Nat} (hid : id < K) (hno : M id = none) {kd na nb : Int} {f : Nat → Bool} {ng : Bool} (hn : L[id]? = some ⟨kd, f, na, nb, ng⟩) (hkd : kd < 3 ∨ kd = 8) :
    Calls Try.prog 47 #[tv b d, .int .i64 (id : Int)] w fun e w' => TurnE n0 K b m d L0 id w v L M e w' := by
  have hX := Below.alloc (Below.refl w.heap.size w) (Nat.le_refl _) (.cells #[.pointer (some ⟨b, 0, none⟩), .map (some d)] 82)
  have hB1 := HoldsX.made (b := b) (d := d) w rfl
  have hS1 := hS.below hX (Nat.le_refl _)
  have hrun := hS1.im.no (by omega) hno
  have hfr1 : Fr w _ b m d v := Fr.of_below hX
  generalize hw1 : w.alloc (.cells #[.pointer (some ⟨b, 0, none⟩), .map (some d)] 82) = w1 at *
  have hs1 : w1.heap.size = w.heap.size + 1 := by rw [← hw1]; simp
  have c0 := hS1.ar.c0
  obtain ⟨gv, cv, rfl, hE⟩ := hS1.ar.eight hn
  obtain ⟨e0, e1, e2, e3, e4, e5, e6, e7⟩ := hE
  simp only at e0 e1 e2 e3 e4 e5 e6 e7
  have hN1 := HoldsN.made w1 na0 rfl
  have hil := (List.getElem?_eq_some_iff.1 hn).1
  have hr : okN L.length kd f na nb ng = true := ok_leaf (n := ⟨kd, f, na, nb, ng⟩) (hS.wf id _ hn) hkd
  have hLl : L.length ≤ 200 := by have := hS.len; have := cnt_le K M; omega
  have hnok : Nd.ok ⟨kd, f, na, nb, ng⟩ := hS.ar.ok _ (List.mem_of_getElem? hn)
  have hk3 : (kd == 3) = false := by simp; omega
  have hk4 : (kd == 4) = false := by simp; omega
  have hk5 : (kd == 5) = false := by simp; omega
  have hk6 : (kd == 6) = false := by simp; omega
  have hk7 : (kd == 7) = false := by simp; omega
  have hR := Lib.hid (putR_ok (n := ⟨kd, f, na, nb, ng⟩) hr)
  have hFin := Lib.hid (fin_leaf hn hkd hr)
  have hsm := idN_small (n := ⟨kd, f, na, nb, ng⟩) hr hLl
  replace hn := Lib.hid hn
  replace hr := Lib.hid hr
  clear hkd
  have hb0 := hB1.c0
  have hb1 := hB1.c1
  go_enter Try.func47, Try.ntmps47
  go_upto_region 1 with fail
  go_wp2_with fail
  have hb4 : Below w1.heap.size w1 (w1.alloc (.cells (Nd.cells ⟨kd, f, na, nb, ng⟩).toArray 56)) := (Below.refl _ _).alloc (Nat.le_refl _) _
  have hs4 := hb4.size
  have hS4 := hS1.below hb4 (Nat.le_refl _)
  have hB4 : HoldsX _ w.heap.size b d := hB1.keep (hb4.block _ (by omega))
  refine (aput_any hS4.ar (by omega) ⟨kd, f, na, nb, ng⟩ hnok (by omega)).mono ?_
  generalize hw4 : w1.alloc (.cells (Nd.cells ⟨kd, f, na, nb, ng⟩).toArray 56) = w4 at *
  rintro e w5 ⟨rfl, ⟨v5, hA5, ho5⟩, hb5, hOnly⟩
  rw [hR.out]
  have hof := hS.off (Nat.le_refl w.heap.size)
  have hof2 := hof
  obtain ⟨f1, f2, f3, f4⟩ := hof2
  have hB5 : HoldsX w5 w.heap.size b d := hB4.keep (hOnly _ (by omega) f1 f2 f4)
  have hI5 : IM w5 d K M := hS4.im.keep (hOnly d hS4.dlt hS4.dnb hS4.ne hS4.dnv)
  obtain ⟨w6, hrun6, hI6, hg6⟩ := hI5.put (by omega) hid hK hno hsm
  obtain ⟨hS6, hF6, hO6, hb6⟩ := hS4.fin (by omega) hno hid hA5 ho5 hb5 hOnly hFin.out hI6 hg6
  have hb04 : Below w.heap.size w w4 := hX.trans (hb4.mono (by omega))
  have hTR : TurnR n0 K b m d L0 id w _ L M w6 _ v5 _ _ := ⟨hS6, hFin.out, pre_put _ _, fun j hj => by
    have : ¬ j = id := by omega
    simp only [setM, this, if_false], (Fr.of_below hb04).trans (ow_refl w _) hb04.size hF6, (ow_refl w _).trans hO6 hb04.size, (hb04.mono hn0).trans hb6⟩
  have x1 := hB5.c1
  clear hS6 hF6 hO6 hb6 hI6 hg6 hI5 hA5 ho5 hb5 hOnly hFin hS4 hB4 hb4 hS1 hS hR
  generalize idN L ⟨kd, f, na, nb, ng⟩ = xx at *
  go_wp2_with fail
  go_ret
  exact turnE hTR

end Go.Proofs.Ytbmejpghoafapaa
