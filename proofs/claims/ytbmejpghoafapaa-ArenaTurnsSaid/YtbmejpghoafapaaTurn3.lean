/-
  The walk of turner.turn: nodes with parts.
-/
import Derived.Test.YtbmejpghoafapaaTurn2
import Derived.Test.YtbmejpghoafapaaInvOps
namespace Go.Proofs.Ytbmejpghoafapaa
open Go.RowKit Go.Maps
variable {n0 K b m d : Nat} {w w' w1 : World} {v v' : Value} {L0 L L' : List Nd} {M M' : Nat → Option Nat}
theorem Fr.cell {w5 : World} (h : Fr w w5 b m d v) {nd : Nat} (hn : w.heap.size ≤ nd) (i : Nat) (u : Value) : Fr w (w5.setCell ⟨nd, i, none⟩ u) b m d v :=
  fun x hx ho => (Below.heap_setCell w5 _ _ x (by show x ≠ nd; omega)).trans (h x hx ho)
theorem node_put5 {nd : Nat} {x0 x1 x2 x3 x4 x5 x6 x7 : Value} (h : HoldsN w nd #[x0, x1, x2, x3, x4, x5, x6, x7]) (y : Value) : HoldsN (w.setCell ⟨nd, 5, none⟩ y) nd #[x0, x1, x2, x3, x4, y, x6, x7] := by
  have h1 := heap_setCell_same w nd 5 _ 56 y h
  exact h1
theorem node_put6 {nd : Nat} {x0 x1 x2 x3 x4 x5 x6 x7 : Value} (h : HoldsN w nd #[x0, x1, x2, x3, x4, x5, x6, x7]) (y : Value) : HoldsN (w.setCell ⟨nd, 6, none⟩ y) nd #[x0, x1, x2, x3, x4, x5, y, x7] := by
  have h1 := heap_setCell_same w nd 6 _ 56 y h
  exact h1
theorem HoldsX.other {x y : Nat} (h : HoldsX w x b d) (hxy : x ≠ y) (i : Nat) (u : Value) : HoldsX (w.setCell ⟨y, i, none⟩ u) x b d := (Below.heap_setCell w _ _ x hxy).trans h
theorem ok_mk {k : Int} {f : Nat → Bool} {a c : Int} {g : Bool} (h : Nd.ok ⟨k, f, a, c, g⟩) {x : Nat} (hx : x < 20000) : Nd.ok ⟨k, f, (x : Int), c, g⟩ := ⟨h.1, wf_len hx, h.2.2⟩
theorem ok_mk2 {k : Int} {f : Nat → Bool} {a c : Int} {g : Bool} (h : Nd.ok ⟨k, f, a, c, g⟩) {x y : Nat} (hx : x < 20000) (hy : y < 20000) : Nd.ok ⟨k, f, (x : Int), (y : Int), g⟩ := ⟨h.1, wf_len hx, wf_len hy⟩

set_option maxRecDepth 100000 in
set_option maxHeartbeats 2000000 in
theorem turn_k6 (hS : St n0 K w b m d v L0 L M) (hn0 : n0 ≤ w.heap.size) (hK : K ≤ 100) {id : Nat} (hid : id < K) (hno : M id = none) {c : Nat} {nb : Int} {f : Nat → Bool} {ng : Bool} (hn : L[id]? = some ⟨6, f, (c : Int), nb, ng⟩) (hc : c < id) (hC : TurnC n0 K b m d L0 c) :
    Calls Try.prog 47 #[tv b d, .int .i64 (id : Int)] w fun e w' => TurnE n0 K b m d L0 id w v L M e w' := by
  have hX := Below.alloc (Below.refl w.heap.size w) (Nat.le_refl _) (.cells #[.pointer (some ⟨b, 0, none⟩), .map (some d)] 82)
  have hB1 := HoldsX.made (b := b) (d := d) w rfl
  have hS1 := hS.below hX (Nat.le_refl _)
  have hrun := hS1.im.no (by omega) hno
  generalize hw1 : w.alloc (.cells #[.pointer (some ⟨b, 0, none⟩), .map (some d)] 82) = w1 at *
  have hs1 : w1.heap.size = w.heap.size + 1 := by rw [← hw1]; simp
  have c0 := hS1.ar.c0
  obtain ⟨gv, cv, hvv, hE⟩ := hS1.ar.eight hn
  rw [hvv] at c0
  clear hvv
  obtain ⟨e0, e1, e2, e3, e4, e5, e6, e7⟩ := hE
  simp only at e0 e1 e2 e3 e4 e5 e6 e7
  have hN1 := HoldsN.made w1 (Nd.cells ⟨6, f, (c : Int), nb, ng⟩).toArray rfl
  have hil := (List.getElem?_eq_some_iff.1 hn).1
  have hok := hS.wf id _ hn
  simp only at hok
  have hnok : Nd.ok ⟨6, f, (c : Int), nb, ng⟩ := hS.ar.ok _ (List.mem_of_getElem? hn)
  have hb0 := hB1.c0
  have hb1 := hB1.c1
  have hb4 : Below w1.heap.size w1 (w1.alloc (.cells (Nd.cells ⟨6, f, (c : Int), nb, ng⟩).toArray 56)) := (Below.refl _ _).alloc (Nat.le_refl _) _
  have hs4 := hb4.size
  have hS4 := hS1.below hb4 (Nat.le_refl _)
  have hB4 : HoldsX _ w.heap.size b d := hB1.keep (hb4.block _ (by omega))
  have hs4e : (w1.alloc (.cells (Nd.cells ⟨6, f, (c : Int), nb, ng⟩).toArray 56)).heap.size = w1.heap.size + 1 := by simp
  have hofx := hS.off (Nat.le_refl w.heap.size)
  have hofn := hS1.off (Nat.le_refl w1.heap.size)
  have hb04 : Below w.heap.size w _ := hX.trans (hb4.mono (by omega))
  rw [hs1] at hN1 hofn
  replace hn := Lib.hid hn
  replace hok := Lib.hid hok
  go_enter Try.func47, Try.ntmps47
  go_wp2_with fail
  refine (hC _ v L M hS4 (by omega)).mono ?_
  generalize hw4 : w1.alloc (.cells (Nd.cells ⟨6, f, (c : Int), nb, ng⟩).toArray 56) = w4 at *
  rintro e w5 ⟨x5, v5, L5, M5, rfl, hT⟩
  have hs5 := hT.bel.size
  have hs45 : w4.heap.size ≤ w5.heap.size := by have := hT.st.ar.lt; exact hT.bel.size
  have hN5 : HoldsN w5 (w.heap.size + 1) _ := (hT.fr _ (by omega) hofn).trans hN1
  have hB5 : HoldsX w5 w.heap.size b d := hB4.keep (hT.fr _ (by omega) hofx)
  have hofn5 := hofn.next hT.ow (by omega)
  have hofx6 := hofx.next hT.ow (by omega)
  have q5 := hN5.cells.2.2.2.2.2.1
  have qf := hN5.free 5
  go_upto_region 14 with fail
  have hN6 := node_put5 hN5 (.int .i64 (x5 : Int))
  have hB6 := hB5.other (y := w.heap.size + 1) (by omega) 5 (.int .i64 (x5 : Int))
  have hS6 := hT.st.other hofn5 5 (.int .i64 (x5 : Int))
  have hFr : Fr w _ b m d v := ((Fr.of_below hb04).trans (ow_refl w v) hb04.size hT.fr).cell (nd := w.heap.size + 1) (by omega) 5 (.int .i64 (x5 : Int))
  have hOw : Ow w v v5 := (ow_refl w v).trans hT.ow hb04.size
  have hBel : Below n0 w _ := Below.setCell ((hb04.mono hn0).trans hT.bel) (show n0 ≤ (⟨w.heap.size + 1, 5, none⟩ : Addr).block by simp; omega) (.int .i64 (x5 : Int))
  generalize hw6 : w5.setCell ⟨w.heap.size + 1, 5, none⟩ (.int .i64 (x5 : Int)) = w6 at *
  have hpre := hT.pre
  have hlow : ∀ j, id < j → M5 j = M j := fun j hj => hT.low j (by omega)
  have hno5 : M5 id = none := (hT.low id hc).trans hno
  have hx5 := hT.mir.lt
  have hLs : L5.length ≤ 200 := by have := hT.st.len; have := cnt_le K M5; omega
  have hr6 : okN L5.length 6 f (x5 : Int) nb ng = true := ok_new1 hok.out (by omega) hx5
  have hnok6 : Nd.ok ⟨6, f, (x5 : Int), nb, ng⟩ := ok_mk hnok (by omega)
  clear hrun c0 e0 e1 e2 e3 e4 e5 e6 e7 q5 qf hw4 hw6 hw1 hb0 hb1
  have hR := Lib.hid (putR_ok (n := ⟨6, f, (x5 : Int), nb, ng⟩) hr6)
  have hLl : L5.length ≤ 200 := by have := hS6.len; have := cnt_le K M5; omega
  have hsm := idN_small (n := ⟨6, f, (x5 : Int), nb, ng⟩) hr6 hLl
  have hFin := Lib.hid (fin_one (by omega) (hT.pre _ _ hn.out) hT.mir hr6)
  replace hr6 := Lib.hid hr6
  have hs6 := hBel.size
  obtain ⟨p0, p1, p2, p3, p4, p5, p6, p7⟩ := hN6.cells
  have y0 := hB6.c0
  go_wp2_with fail
  refine (aput_any hS6.ar (by omega) ⟨6, f, (x5 : Int), nb, ng⟩ hnok6 (by omega)).mono ?_
  rintro e w7 ⟨rfl, ⟨v7, hA7, ho7⟩, hb7, hOnly⟩
  rw [hR.out]
  have hof2 := hofx6
  obtain ⟨f1, f2, f3, f4⟩ := hof2
  have hB7 : HoldsX w7 w.heap.size b d := hB6.keep (hOnly _ hB6.lt f1 f2 f4)
  have hI7 : IM w7 d K M5 := hS6.im.keep (hOnly d hS6.dlt hS6.dnb hS6.ne hS6.dnv)
  obtain ⟨w8, hrun8, hI8, hg8⟩ := hI7.put (by omega) hid hK hno5 hsm
  obtain ⟨hS8, hF8, hO8, hb8⟩ := hS6.fin (by omega) hno5 hid hA7 ho7 hb7 hOnly hFin.out hI8 hg8
  have hTR : TurnR n0 K b m d L0 id w v L M w8 _ v7 _ _ := ⟨hS8, hFin.out, hpre.trans (pre_put _ _), fun j hj => by
    have : ¬ j = id := by omega
    simp only [setM, this, if_false]
    exact hlow j hj, hFr.trans hOw (by omega) hF8, hOw.trans hO8 (by omega), hBel.trans hb8⟩
  have z1 := hB7.c1
  clear hS8 hF8 hO8 hb8 hI8 hg8 hI7 hA7 ho7 hb7 hOnly hFin hS6 hR y0 p0 p1 p2 p3 p4 p5 p6 p7
  generalize idN L5 ⟨6, f, (x5 : Int), nb, ng⟩ = xx at *
  go_wp2_with fail
  go_ret
  exact turnE hTR

set_option maxRecDepth 100000 in
set_option maxHeartbeats 2000000 in
theorem turn_k7 (hS : St n0 K w b m d v L0 L M) (hn0 : n0 ≤ w.heap.size) (hK : K ≤ 100) {id : Nat} (hid : id < K) (hno : M id = none) {c : Nat} {nb : Int} {f : Nat → Bool} {ng : Bool} (hn : L[id]? = some ⟨7, f, (c : Int), nb, ng⟩) (hc : c < id) (hC : TurnC n0 K b m d L0 c) :
    Calls Try.prog 47 #[tv b d, .int .i64 (id : Int)] w fun e w' => TurnE n0 K b m d L0 id w v L M e w' := by
  have hX := Below.alloc (Below.refl w.heap.size w) (Nat.le_refl _) (.cells #[.pointer (some ⟨b, 0, none⟩), .map (some d)] 82)
  have hB1 := HoldsX.made (b := b) (d := d) w rfl
  have hS1 := hS.below hX (Nat.le_refl _)
  have hrun := hS1.im.no (by omega) hno
  generalize hw1 : w.alloc (.cells #[.pointer (some ⟨b, 0, none⟩), .map (some d)] 82) = w1 at *
  have hs1 : w1.heap.size = w.heap.size + 1 := by rw [← hw1]; simp
  have c0 := hS1.ar.c0
  obtain ⟨gv, cv, hvv, hE⟩ := hS1.ar.eight hn
  rw [hvv] at c0
  clear hvv
  obtain ⟨e0, e1, e2, e3, e4, e5, e6, e7⟩ := hE
  simp only at e0 e1 e2 e3 e4 e5 e6 e7
  have hN1 := HoldsN.made w1 (Nd.cells ⟨7, f, (c : Int), nb, ng⟩).toArray rfl
  have hil := (List.getElem?_eq_some_iff.1 hn).1
  have hok := hS.wf id _ hn
  simp only at hok
  have hnok : Nd.ok ⟨7, f, (c : Int), nb, ng⟩ := hS.ar.ok _ (List.mem_of_getElem? hn)
  have hb0 := hB1.c0
  have hb1 := hB1.c1
  have hb4 : Below w1.heap.size w1 (w1.alloc (.cells (Nd.cells ⟨7, f, (c : Int), nb, ng⟩).toArray 56)) := (Below.refl _ _).alloc (Nat.le_refl _) _
  have hs4 := hb4.size
  have hS4 := hS1.below hb4 (Nat.le_refl _)
  have hB4 : HoldsX _ w.heap.size b d := hB1.keep (hb4.block _ (by omega))
  have hs4e : (w1.alloc (.cells (Nd.cells ⟨7, f, (c : Int), nb, ng⟩).toArray 56)).heap.size = w1.heap.size + 1 := by simp
  have hofx := hS.off (Nat.le_refl w.heap.size)
  have hofn := hS1.off (Nat.le_refl w1.heap.size)
  have hb04 : Below w.heap.size w _ := hX.trans (hb4.mono (by omega))
  rw [hs1] at hN1 hofn
  replace hn := Lib.hid hn
  replace hok := Lib.hid hok
  go_enter Try.func47, Try.ntmps47
  go_wp2_with fail
  refine (hC _ v L M hS4 (by omega)).mono ?_
  generalize hw4 : w1.alloc (.cells (Nd.cells ⟨7, f, (c : Int), nb, ng⟩).toArray 56) = w4 at *
  rintro e w5 ⟨x5, v5, L5, M5, rfl, hT⟩
  have hs5 := hT.bel.size
  have hs45 : w4.heap.size ≤ w5.heap.size := by have := hT.st.ar.lt; exact hT.bel.size
  have hN5 : HoldsN w5 (w.heap.size + 1) _ := (hT.fr _ (by omega) hofn).trans hN1
  have hB5 : HoldsX w5 w.heap.size b d := hB4.keep (hT.fr _ (by omega) hofx)
  have hofn5 := hofn.next hT.ow (by omega)
  have hofx6 := hofx.next hT.ow (by omega)
  have q5 := hN5.cells.2.2.2.2.2.1
  have qf := hN5.free 5
  go_upto_region 14 with fail
  have hN6 := node_put5 hN5 (.int .i64 (x5 : Int))
  have hB6 := hB5.other (y := w.heap.size + 1) (by omega) 5 (.int .i64 (x5 : Int))
  have hS6 := hT.st.other hofn5 5 (.int .i64 (x5 : Int))
  have hFr : Fr w _ b m d v := ((Fr.of_below hb04).trans (ow_refl w v) hb04.size hT.fr).cell (nd := w.heap.size + 1) (by omega) 5 (.int .i64 (x5 : Int))
  have hOw : Ow w v v5 := (ow_refl w v).trans hT.ow hb04.size
  have hBel : Below n0 w _ := Below.setCell ((hb04.mono hn0).trans hT.bel) (show n0 ≤ (⟨w.heap.size + 1, 5, none⟩ : Addr).block by simp; omega) (.int .i64 (x5 : Int))
  generalize hw6 : w5.setCell ⟨w.heap.size + 1, 5, none⟩ (.int .i64 (x5 : Int)) = w6 at *
  have hpre := hT.pre
  have hlow : ∀ j, id < j → M5 j = M j := fun j hj => hT.low j (by omega)
  have hno5 : M5 id = none := (hT.low id hc).trans hno
  have hx5 := hT.mir.lt
  have hLs : L5.length ≤ 200 := by have := hT.st.len; have := cnt_le K M5; omega
  have hr6 : okN L5.length 7 f (x5 : Int) nb ng = true := ok_new1 hok.out (by omega) hx5
  have hnok6 : Nd.ok ⟨7, f, (x5 : Int), nb, ng⟩ := ok_mk hnok (by omega)
  clear hrun c0 e0 e1 e2 e3 e4 e5 e6 e7 q5 qf hw4 hw6 hw1 hb0 hb1
  have hR := Lib.hid (putR_ok (n := ⟨7, f, (x5 : Int), nb, ng⟩) hr6)
  have hLl : L5.length ≤ 200 := by have := hS6.len; have := cnt_le K M5; omega
  have hsm := idN_small (n := ⟨7, f, (x5 : Int), nb, ng⟩) hr6 hLl
  have hFin := Lib.hid (fin_one (by omega) (hT.pre _ _ hn.out) hT.mir hr6)
  replace hr6 := Lib.hid hr6
  have hs6 := hBel.size
  obtain ⟨p0, p1, p2, p3, p4, p5, p6, p7⟩ := hN6.cells
  have y0 := hB6.c0
  go_wp2_with fail
  refine (aput_any hS6.ar (by omega) ⟨7, f, (x5 : Int), nb, ng⟩ hnok6 (by omega)).mono ?_
  rintro e w7 ⟨rfl, ⟨v7, hA7, ho7⟩, hb7, hOnly⟩
  rw [hR.out]
  have hof2 := hofx6
  obtain ⟨f1, f2, f3, f4⟩ := hof2
  have hB7 : HoldsX w7 w.heap.size b d := hB6.keep (hOnly _ hB6.lt f1 f2 f4)
  have hI7 : IM w7 d K M5 := hS6.im.keep (hOnly d hS6.dlt hS6.dnb hS6.ne hS6.dnv)
  obtain ⟨w8, hrun8, hI8, hg8⟩ := hI7.put (by omega) hid hK hno5 hsm
  obtain ⟨hS8, hF8, hO8, hb8⟩ := hS6.fin (by omega) hno5 hid hA7 ho7 hb7 hOnly hFin.out hI8 hg8
  have hTR : TurnR n0 K b m d L0 id w v L M w8 _ v7 _ _ := ⟨hS8, hFin.out, hpre.trans (pre_put _ _), fun j hj => by
    have : ¬ j = id := by omega
    simp only [setM, this, if_false]
    exact hlow j hj, hFr.trans hOw (by omega) hF8, hOw.trans hO8 (by omega), hBel.trans hb8⟩
  have z1 := hB7.c1
  clear hS8 hF8 hO8 hb8 hI8 hg8 hI7 hA7 ho7 hb7 hOnly hFin hS6 hR y0 p0 p1 p2 p3 p4 p5 p6 p7
  generalize idN L5 ⟨7, f, (x5 : Int), nb, ng⟩ = xx at *
  go_wp2_with fail
  go_ret
  exact turnE hTR

end Go.Proofs.Ytbmejpghoafapaa
