/-
  The walk of turner.turn: nodes with two parts.
-/
import Derived.Test.YtbmejpghoafapaaTurn4
namespace Go.Proofs.Ytbmejpghoafapaa
open Go.RowKit Go.Maps
variable {n0 K b m d : Nat} {w w' w1 : World} {v v' : Value} {L0 L L' : List Nd} {M M' : Nat → Option Nat}

set_option maxRecDepth 100000 in
set_option maxHeartbeats 4000000 in
theorem turn_k3 (hS : St n0 K w b m d v L0 L M) (hn0 : n0 ≤ w.heap.size) (hK : K ≤ 100) {id : Nat} (hid : id < K) (hno : M id = none) {c e : Nat} {f : Nat → Bool} {ng : Bool} (hn : L[id]? = some ⟨3, f, (c : Int), (e : Int), ng⟩) (hc : c < id) (he : e < id) (hCc : TurnC n0 K b m d L0 c) (hCe : TurnC n0 K b m d L0 e) :
    Calls Try.prog 47 #[tv b d, .int .i64 (id : Int)] w fun e w' => TurnE n0 K b m d L0 id w v L M e w' := by
  have hX := Below.alloc (Below.refl w.heap.size w) (Nat.le_refl _) (.cells #[.pointer (some ⟨b, 0, none⟩), .map (some d)] 82)
  have hB1 := HoldsX.made (b := b) (d := d) w rfl
  have hS1 := hS.below hX (Nat.le_refl _)
  have hrun := hS1.im.no (by omega) hno
  generalize hw1 : w.alloc (.cells #[.pointer (some ⟨b, 0, none⟩), .map (some d)] 82) = w1 at *
  have hs1 : w1.heap.size = w.heap.size + 1 := by rw [← hw1]; simp
  have c0 := hS1.ar.c0
  obtain ⟨gv, cv, hvv, hE⟩ := hS1.ar.eight hn
  rw [hvv] at c0
  clear hvv
  obtain ⟨e0, e1, e2, e3, e4, e5, e6, e7⟩ := hE
  simp only at e0 e1 e2 e3 e4 e5 e6 e7
  have hN1 := HoldsN.made w1 #[.int .i64 3, .int .u64 (wd f 0), .int .u64 (wd f 1), .int .u64 (wd f 2), .int .u64 (wd f 3), .int .i64 (c : Int), .int .i64 (e : Int), .bool ng] rfl
  have hil := (List.getElem?_eq_some_iff.1 hn).1
  have hok := hS.wf id _ hn
  simp only at hok
  have hnok : Nd.ok ⟨3, f, (c : Int), (e : Int), ng⟩ := hS.ar.ok _ (List.mem_of_getElem? hn)
  have hb0 := hB1.c0
  have hb1 := hB1.c1
  have hb4 : Below w1.heap.size w1 (w1.alloc (.cells #[.int .i64 3, .int .u64 (wd f 0), .int .u64 (wd f 1), .int .u64 (wd f 2), .int .u64 (wd f 3), .int .i64 (c : Int), .int .i64 (e : Int), .bool ng] 56)) := (Below.refl _ _).alloc (Nat.le_refl _) _
  have hs4 := hb4.size
  have hS4 := hS1.below hb4 (Nat.le_refl _)
  have hB4 : HoldsX _ w.heap.size b d := hB1.keep (hb4.block _ (by omega))
  have hs4e : (w1.alloc (.cells #[.int .i64 3, .int .u64 (wd f 0), .int .u64 (wd f 1), .int .u64 (wd f 2), .int .u64 (wd f 3), .int .i64 (c : Int), .int .i64 (e : Int), .bool ng] 56)).heap.size = w1.heap.size + 1 := by simp
  have hofx := hS.off (Nat.le_refl w.heap.size)
  have hofn := hS1.off (Nat.le_refl w1.heap.size)
  have hb04 : Below w.heap.size w _ := hX.trans (hb4.mono (by omega))
  rw [hs1] at hN1 hofn
  replace hn := Lib.hid hn
  replace hok := Lib.hid hok
  go_enter Try.func47, Try.ntmps47
  go_wp2_with fail
  generalize hw4 : w1.alloc (.cells #[.int .i64 3, .int .u64 (wd f 0), .int .u64 (wd f 1), .int .u64 (wd f 2), .int .u64 (wd f 3), .int .i64 (c : Int), .int .i64 (e : Int), .bool ng] 56) = w4 at *
  have hn4 : n0 ≤ w4.heap.size := by omega
  have hbx : w.heap.size < w4.heap.size := by omega
  have hnd : w.heap.size + 1 < w4.heap.size := by omega
  have hndl : n0 ≤ w.heap.size + 1 := by omega
  have hnexn : w.heap.size ≠ w.heap.size + 1 := by omega
  have hI0 : TJ n0 K b m d L0 w4 v L M id w.heap.size (w.heap.size + 1) 3 f c e ng e c (0, 0) (fun _ => false) w4.drew :=
    ⟨v, L, M, hS4.below (Below.drew (Below.refl w4.heap.size w4)) (Nat.le_refl _), pre_refl L, fun _ _ => rfl, fun _ _ _ _ => rfl, ow_refl w4 v, Below.drew (Below.refl n0 w4), hofx, hofn, hB4, hN1, (fun h => by cases h), (fun h => by cases h), (fun h => by cases h), (fun h => by cases h)⟩
  clear hrun c0 e0 e1 e2 e3 e4 e5 e6 e7 hb0 hb1
  refine wp_region_inv (σ := Nat × Nat) (rv7 b d (w.heap.size + 1) 6 5 e c) (fun s done wx => TJ n0 K b m d L0 w4 v L M id w.heap.size (w.heap.size + 1) 3 f c e ng e c s done wx) (by kernel_rfl) (by kernel_rfl) (by kernel_rfl) (by kernel_rfl) (by rfl) (0, 0) ?_ ⟨?_, ?_, ?_, ?_, ?_, ?_, ?_, ?_, ?_, ?_, ?_, ?_, trivial⟩ ?_
  · exact hI0
  · intro s done a' wx hI hn ha hv
    exact wp_load_tv (.tmp 2) rfl (hv.out 2 rfl) hI.box ⟨s, rfl, fun _ _ => rfl, hI.quiet (by decide) (by decide) (by decide) (by decide)⟩
  · intro s done a' wx hI hn ha hv
    exact wp_field56 (.tmp 7) 3 6 (by decide) rfl (hv.out 7 rfl) ⟨s, rfl, fun _ _ => rfl, hI.quiet (by decide) (by decide) (by decide) (by decide)⟩
  · intro s done a' wx hI hn ha hv
    exact wp_load3 (.tmp 32) rfl (hv.inn 1 _ 32 rfl rfl (ha ⟨1, .data⟩ (by simp) rfl)) (hI.fb (.inl hn)) ⟨s, rfl, fun _ _ => rfl, hI.quiet (by decide) (by decide) (by decide) (by decide)⟩
  · intro s done a' wx hI hn ha hv
    have e1 := (hv.inn 0 _ 31 rfl rfl (ha ⟨0, .data⟩ (by simp) rfl))
    have e2 := (hv.inn 2 _ 33 rfl rfl (ha ⟨2, .data⟩ (by simp) rfl))
    refine wp_call 47 enter47 #[.tmp 31, .tmp 33] #[82, 3] rfl ?_
    simp only [List.map_toArray, List.map_cons, List.map_nil, e1, e2]
    refine (hI.call1 hn4 hbx hnd he hCe hn).mono ?_
    rintro en w'' ⟨x, rfl, hI'⟩
    exact ⟨_, rfl, (x, s.2), rfl, fun j hj => rv7_1 (fun e => by rw [e, hn] at hj; cases hj), hI'⟩
  · intro s done a' wx hI hn ha hv
    exact wp_load_tv (.tmp 2) rfl (hv.out 2 rfl) hI.box ⟨s, rfl, fun _ _ => rfl, hI.quiet (by decide) (by decide) (by decide) (by decide)⟩
  · intro s done a' wx hI hn ha hv
    exact wp_field56 (.tmp 7) 2 5 (by decide) rfl (hv.out 7 rfl) ⟨s, rfl, fun _ _ => rfl, hI.quiet (by decide) (by decide) (by decide) (by decide)⟩
  · intro s done a' wx hI hn ha hv
    exact wp_load3 (.tmp 36) rfl (hv.inn 5 _ 36 rfl rfl (ha ⟨5, .data⟩ (by simp) rfl)) (hI.fa (.inr hn)) ⟨s, rfl, fun _ _ => rfl, hI.quiet (by decide) (by decide) (by decide) (by decide)⟩
  · intro s done a' wx hI hn ha hv
    have e1 := (hv.inn 4 _ 35 rfl rfl (ha ⟨4, .data⟩ (by simp) rfl))
    have e2 := (hv.inn 6 _ 37 rfl rfl (ha ⟨6, .data⟩ (by simp) rfl))
    refine wp_call 47 enter47 #[.tmp 35, .tmp 37] #[82, 3] rfl ?_
    simp only [List.map_toArray, List.map_cons, List.map_nil, e1, e2]
    refine (hI.call2 hn4 hbx hnd hc hCc hn).mono ?_
    rintro en w'' ⟨x, rfl, hI'⟩
    exact ⟨_, rfl, (s.1, x), rfl, fun j hj => rv7_2 (fun e => by rw [e, hn] at hj; cases hj), hI'⟩
  · intro s done a' wx hI hn ha hv
    exact wp_field56 (.tmp 7) 2 5 (by decide) rfl (hv.out 7 rfl) ⟨s, rfl, fun _ _ => rfl, hI.quiet (by decide) (by decide) (by decide) (by decide)⟩
  · intro s done a' wx hI hn ha hv
    obtain ⟨⟨z, hz⟩, hf⟩ := hI.c5
    exact wp_store3 (.tmp 39) (.tmp 34) rfl (hv.inn 8 _ 39 rfl rfl (ha ⟨8, .data⟩ (by simp) rfl)) (hv.inn 3 _ 34 rfl rfl (ha ⟨3, .data⟩ (by simp) rfl)) hz hf ⟨s, rfl, fun _ _ => rfl, hI.st9 hndl hnexn (ha ⟨2, .phase⟩ (by simp) rfl) (ha ⟨3, .phase⟩ (by simp) rfl) (ha ⟨6, .phase⟩ (by simp) rfl)⟩
  · intro s done a' wx hI hn ha hv
    exact wp_field56 (.tmp 7) 3 6 (by decide) rfl (hv.out 7 rfl) ⟨s, rfl, fun _ _ => rfl, hI.quiet (by decide) (by decide) (by decide) (by decide)⟩
  · intro s done a' wx hI hn ha hv
    obtain ⟨⟨z, hz⟩, hf⟩ := hI.c6
    exact wp_store3 (.tmp 40) (.tmp 38) rfl (hv.inn 10 _ 40 rfl rfl (ha ⟨10, .data⟩ (by simp) rfl)) (hv.inn 7 _ 38 rfl rfl (ha ⟨7, .data⟩ (by simp) rfl)) hz hf ⟨s, rfl, fun _ _ => rfl, hI.st11 hndl hnexn (ha ⟨2, .phase⟩ (by simp) rfl) (ha ⟨3, .phase⟩ (by simp) rfl) (ha ⟨6, .phase⟩ (by simp) rfl) (ha ⟨7, .phase⟩ (by simp) rfl)⟩
  · intro s done w6 hI hall
    obtain ⟨v5, L5, M5, hTI⟩ := hI
    obtain ⟨x1, x2⟩ := s
    have hd9 := hall 9 (by decide)
    have hd11 := hall 11 (by decide)
    have hm1 := hTI.m1 (hall 3 (by decide))
    have hm2 := hTI.m2 (hall 7 (by decide))
    have hN6 := hTI.hn
    have eA : fA c (x1, x2) done = x1 := by simp [fA, hd9]
    have eB : fB e (x1, x2) done = x2 := by simp [fB, hd11]
    rw [eA, eB] at hN6
    simp only at hm1 hm2
    have hS6 := hTI.st
    have hB6 := hTI.hx
    have hofx6 := hTI.ofx
    have hBel : Below n0 w w6 := (hb04.mono hn0).trans hTI.bel
    have hFr : Fr w w6 b m d v := fun y hy ho => (hTI.fr y (by omega) ho (by omega)).trans (hb04.block y hy)
    have hOw : Ow w v v5 := (ow_refl w v).trans hTI.ow hb04.size
    have hpre := hTI.pre
    have hlow : ∀ j, id < j → M5 j = M j := fun j hj => hTI.low j (by omega)
    have hno5 : M5 id = none := (hTI.low id (Nat.le_refl _)).trans hno
    have hx1 := hm1.lt
    have hx2 := hm2.lt
    have hLs : L5.length ≤ 200 := by have := hTI.st.len; have := cnt_le K M5; omega
    have hr6 : okN L5.length 3 f (x1 : Int) (x2 : Int) ng = true := ok_new2 hok.out (by omega) hx1 hx2
    have hnok6 : Nd.ok ⟨3, f, (x1 : Int), (x2 : Int), ng⟩ := ok_mk2 hnok (by omega) (by omega)
    simp only [fill, if_true, rv7]
    simp only [Act.put, List.setIfInBounds_toArray, List.set_cons_zero, List.set_cons_succ]
    have hR := Lib.hid (putR_ok (n := ⟨3, f, (x1 : Int), (x2 : Int), ng⟩) hr6)
    have hLl : L5.length ≤ 200 := by have := hS6.len; have := cnt_le K M5; omega
    have hsm := idN_small (n := ⟨3, f, (x1 : Int), (x2 : Int), ng⟩) hr6 hLl
    have hFin := Lib.hid (fin_cat (hTI.pre _ _ hn.out) hm1 hm2 hr6)
    replace hr6 := Lib.hid hr6
    have hs6 := hBel.size
    obtain ⟨p0, p1, p2, p3, p4, p5, p6, p7⟩ := hN6.cells
    have y0 := hB6.c0
    go_wp2_with fail
    refine (aput_any hS6.ar (by omega) ⟨3, f, (x1 : Int), (x2 : Int), ng⟩ hnok6 (by omega)).mono ?_
    rintro e w7 ⟨rfl, ⟨v7, hA7, ho7⟩, hb7, hOnly⟩
    rw [hR.out]
    have hof2 := hofx6
    obtain ⟨f1, f2, f3, f4⟩ := hof2
    have hB7 : HoldsX w7 w.heap.size b d := hB6.keep (hOnly _ hB6.lt f1 f2 f4)
    have hI7 : IM w7 d K M5 := hS6.im.keep (hOnly d hS6.dlt hS6.dnb hS6.ne hS6.dnv)
    obtain ⟨w8, hrun8, hI8, hg8⟩ := hI7.put (by omega) hid hK hno5 hsm
    obtain ⟨hS8, hF8, hO8, hb8⟩ := hS6.fin (by omega) hno5 hid hA7 ho7 hb7 hOnly hFin.out hI8 hg8
    have hTR : TurnR n0 K b m d L0 id w v L M w8 _ v7 _ _ := ⟨hS8, hFin.out, hpre.trans (pre_put _ _), fun j hj => by
      have : ¬ j = id := by omega
      simp only [setM, this, if_false]
      exact hlow j hj, hFr.trans hOw (by omega) hF8, hOw.trans hO8 (by omega), hBel.trans hb8⟩
    have z1 := hB7.c1
    clear hS8 hF8 hO8 hb8 hI8 hg8 hI7 hA7 ho7 hb7 hOnly hFin hS6 hR y0 p0 p1 p2 p3 p4 p5 p6 p7
    generalize idN L5 ⟨3, f, (x1 : Int), (x2 : Int), ng⟩ = xx at *
    go_wp2_with fail
    go_ret
    exact turnE hTR

set_option maxRecDepth 100000 in
set_option maxHeartbeats 4000000 in
theorem turn_k4 (hS : St n0 K w b m d v L0 L M) (hn0 : n0 ≤ w.heap.size) (hK : K ≤ 100) {id : Nat} (hid : id < K) (hno : M id = none) {c e : Nat} {f : Nat → Bool} {ng : Bool} (hn : L[id]? = some ⟨4, f, (c : Int), (e : Int), ng⟩) (hc : c < id) (he : e < id) (hCc : TurnC n0 K b m d L0 c) (hCe : TurnC n0 K b m d L0 e) :
    Calls Try.prog 47 #[tv b d, .int .i64 (id : Int)] w fun e w' => TurnE n0 K b m d L0 id w v L M e w' := by
  have hX := Below.alloc (Below.refl w.heap.size w) (Nat.le_refl _) (.cells #[.pointer (some ⟨b, 0, none⟩), .map (some d)] 82)
  have hB1 := HoldsX.made (b := b) (d := d) w rfl
  have hS1 := hS.below hX (Nat.le_refl _)
  have hrun := hS1.im.no (by omega) hno
  generalize hw1 : w.alloc (.cells #[.pointer (some ⟨b, 0, none⟩), .map (some d)] 82) = w1 at *
  have hs1 : w1.heap.size = w.heap.size + 1 := by rw [← hw1]; simp
  have c0 := hS1.ar.c0
  obtain ⟨gv, cv, hvv, hE⟩ := hS1.ar.eight hn
  rw [hvv] at c0
  clear hvv
  obtain ⟨e0, e1, e2, e3, e4, e5, e6, e7⟩ := hE
  simp only at e0 e1 e2 e3 e4 e5 e6 e7
  have hN1 := HoldsN.made w1 #[.int .i64 4, .int .u64 (wd f 0), .int .u64 (wd f 1), .int .u64 (wd f 2), .int .u64 (wd f 3), .int .i64 (c : Int), .int .i64 (e : Int), .bool ng] rfl
  have hil := (List.getElem?_eq_some_iff.1 hn).1
  have hok := hS.wf id _ hn
  simp only at hok
  have hnok : Nd.ok ⟨4, f, (c : Int), (e : Int), ng⟩ := hS.ar.ok _ (List.mem_of_getElem? hn)
  have hb0 := hB1.c0
  have hb1 := hB1.c1
  have hb4 : Below w1.heap.size w1 (w1.alloc (.cells #[.int .i64 4, .int .u64 (wd f 0), .int .u64 (wd f 1), .int .u64 (wd f 2), .int .u64 (wd f 3), .int .i64 (c : Int), .int .i64 (e : Int), .bool ng] 56)) := (Below.refl _ _).alloc (Nat.le_refl _) _
  have hs4 := hb4.size
  have hS4 := hS1.below hb4 (Nat.le_refl _)
  have hB4 : HoldsX _ w.heap.size b d := hB1.keep (hb4.block _ (by omega))
  have hs4e : (w1.alloc (.cells #[.int .i64 4, .int .u64 (wd f 0), .int .u64 (wd f 1), .int .u64 (wd f 2), .int .u64 (wd f 3), .int .i64 (c : Int), .int .i64 (e : Int), .bool ng] 56)).heap.size = w1.heap.size + 1 := by simp
  have hofx := hS.off (Nat.le_refl w.heap.size)
  have hofn := hS1.off (Nat.le_refl w1.heap.size)
  have hb04 : Below w.heap.size w _ := hX.trans (hb4.mono (by omega))
  rw [hs1] at hN1 hofn
  replace hn := Lib.hid hn
  replace hok := Lib.hid hok
  go_enter Try.func47, Try.ntmps47
  go_wp2_with fail
  generalize hw4 : w1.alloc (.cells #[.int .i64 4, .int .u64 (wd f 0), .int .u64 (wd f 1), .int .u64 (wd f 2), .int .u64 (wd f 3), .int .i64 (c : Int), .int .i64 (e : Int), .bool ng] 56) = w4 at *
  have hn4 : n0 ≤ w4.heap.size := by omega
  have hbx : w.heap.size < w4.heap.size := by omega
  have hnd : w.heap.size + 1 < w4.heap.size := by omega
  have hndl : n0 ≤ w.heap.size + 1 := by omega
  have hnexn : w.heap.size ≠ w.heap.size + 1 := by omega
  have hI0 : TJ n0 K b m d L0 w4 v L M id w.heap.size (w.heap.size + 1) 4 f c e ng c e (0, 0) (fun _ => false) w4.drew :=
    ⟨v, L, M, hS4.below (Below.drew (Below.refl w4.heap.size w4)) (Nat.le_refl _), pre_refl L, fun _ _ => rfl, fun _ _ _ _ => rfl, ow_refl w4 v, Below.drew (Below.refl n0 w4), hofx, hofn, hB4, hN1, (fun h => by cases h), (fun h => by cases h), (fun h => by cases h), (fun h => by cases h)⟩
  clear hrun c0 e0 e1 e2 e3 e4 e5 e6 e7 hb0 hb1
  refine wp_region_inv (σ := Nat × Nat) (rv7 b d (w.heap.size + 1) 5 6 c e) (fun s done wx => TJ n0 K b m d L0 w4 v L M id w.heap.size (w.heap.size + 1) 4 f c e ng c e s done wx) (by kernel_rfl) (by kernel_rfl) (by kernel_rfl) (by kernel_rfl) (by rfl) (0, 0) ?_ ⟨?_, ?_, ?_, ?_, ?_, ?_, ?_, ?_, ?_, ?_, ?_, ?_, trivial⟩ ?_
  · exact hI0
  · intro s done a' wx hI hn ha hv
    exact wp_load_tv (.tmp 2) rfl (hv.out 2 rfl) hI.box ⟨s, rfl, fun _ _ => rfl, hI.quiet (by decide) (by decide) (by decide) (by decide)⟩
  · intro s done a' wx hI hn ha hv
    exact wp_field56 (.tmp 7) 2 5 (by decide) rfl (hv.out 7 rfl) ⟨s, rfl, fun _ _ => rfl, hI.quiet (by decide) (by decide) (by decide) (by decide)⟩
  · intro s done a' wx hI hn ha hv
    exact wp_load3 (.tmp 45) rfl (hv.inn 1 _ 45 rfl rfl (ha ⟨1, .data⟩ (by simp) rfl)) (hI.fa (.inl hn)) ⟨s, rfl, fun _ _ => rfl, hI.quiet (by decide) (by decide) (by decide) (by decide)⟩
  · intro s done a' wx hI hn ha hv
    have e1 := (hv.inn 0 _ 44 rfl rfl (ha ⟨0, .data⟩ (by simp) rfl))
    have e2 := (hv.inn 2 _ 46 rfl rfl (ha ⟨2, .data⟩ (by simp) rfl))
    refine wp_call 47 enter47 #[.tmp 44, .tmp 46] #[82, 3] rfl ?_
    simp only [List.map_toArray, List.map_cons, List.map_nil, e1, e2]
    refine (hI.call1 hn4 hbx hnd hc hCc hn).mono ?_
    rintro en w'' ⟨x, rfl, hI'⟩
    exact ⟨_, rfl, (x, s.2), rfl, fun j hj => rv7_1 (fun e => by rw [e, hn] at hj; cases hj), hI'⟩
  · intro s done a' wx hI hn ha hv
    exact wp_load_tv (.tmp 2) rfl (hv.out 2 rfl) hI.box ⟨s, rfl, fun _ _ => rfl, hI.quiet (by decide) (by decide) (by decide) (by decide)⟩
  · intro s done a' wx hI hn ha hv
    exact wp_field56 (.tmp 7) 3 6 (by decide) rfl (hv.out 7 rfl) ⟨s, rfl, fun _ _ => rfl, hI.quiet (by decide) (by decide) (by decide) (by decide)⟩
  · intro s done a' wx hI hn ha hv
    exact wp_load3 (.tmp 49) rfl (hv.inn 5 _ 49 rfl rfl (ha ⟨5, .data⟩ (by simp) rfl)) (hI.fb (.inr hn)) ⟨s, rfl, fun _ _ => rfl, hI.quiet (by decide) (by decide) (by decide) (by decide)⟩
  · intro s done a' wx hI hn ha hv
    have e1 := (hv.inn 4 _ 48 rfl rfl (ha ⟨4, .data⟩ (by simp) rfl))
    have e2 := (hv.inn 6 _ 50 rfl rfl (ha ⟨6, .data⟩ (by simp) rfl))
    refine wp_call 47 enter47 #[.tmp 48, .tmp 50] #[82, 3] rfl ?_
    simp only [List.map_toArray, List.map_cons, List.map_nil, e1, e2]
    refine (hI.call2 hn4 hbx hnd he hCe hn).mono ?_
    rintro en w'' ⟨x, rfl, hI'⟩
    exact ⟨_, rfl, (s.1, x), rfl, fun j hj => rv7_2 (fun e => by rw [e, hn] at hj; cases hj), hI'⟩
  · intro s done a' wx hI hn ha hv
    exact wp_field56 (.tmp 7) 2 5 (by decide) rfl (hv.out 7 rfl) ⟨s, rfl, fun _ _ => rfl, hI.quiet (by decide) (by decide) (by decide) (by decide)⟩
  · intro s done a' wx hI hn ha hv
    obtain ⟨⟨z, hz⟩, hf⟩ := hI.c5
    exact wp_store3 (.tmp 52) (.tmp 47) rfl (hv.inn 8 _ 52 rfl rfl (ha ⟨8, .data⟩ (by simp) rfl)) (hv.inn 3 _ 47 rfl rfl (ha ⟨3, .data⟩ (by simp) rfl)) hz hf ⟨s, rfl, fun _ _ => rfl, hI.st9 hndl hnexn (ha ⟨2, .phase⟩ (by simp) rfl) (ha ⟨3, .phase⟩ (by simp) rfl) (ha ⟨6, .phase⟩ (by simp) rfl)⟩
  · intro s done a' wx hI hn ha hv
    exact wp_field56 (.tmp 7) 3 6 (by decide) rfl (hv.out 7 rfl) ⟨s, rfl, fun _ _ => rfl, hI.quiet (by decide) (by decide) (by decide) (by decide)⟩
  · intro s done a' wx hI hn ha hv
    obtain ⟨⟨z, hz⟩, hf⟩ := hI.c6
    exact wp_store3 (.tmp 53) (.tmp 51) rfl (hv.inn 10 _ 53 rfl rfl (ha ⟨10, .data⟩ (by simp) rfl)) (hv.inn 7 _ 51 rfl rfl (ha ⟨7, .data⟩ (by simp) rfl)) hz hf ⟨s, rfl, fun _ _ => rfl, hI.st11 hndl hnexn (ha ⟨2, .phase⟩ (by simp) rfl) (ha ⟨3, .phase⟩ (by simp) rfl) (ha ⟨6, .phase⟩ (by simp) rfl) (ha ⟨7, .phase⟩ (by simp) rfl)⟩
  · intro s done w6 hI hall
    obtain ⟨v5, L5, M5, hTI⟩ := hI
    obtain ⟨x1, x2⟩ := s
    have hd9 := hall 9 (by decide)
    have hd11 := hall 11 (by decide)
    have hm1 := hTI.m1 (hall 3 (by decide))
    have hm2 := hTI.m2 (hall 7 (by decide))
    have hN6 := hTI.hn
    have eA : fA c (x1, x2) done = x1 := by simp [fA, hd9]
    have eB : fB e (x1, x2) done = x2 := by simp [fB, hd11]
    rw [eA, eB] at hN6
    simp only at hm1 hm2
    have hS6 := hTI.st
    have hB6 := hTI.hx
    have hofx6 := hTI.ofx
    have hBel : Below n0 w w6 := (hb04.mono hn0).trans hTI.bel
    have hFr : Fr w w6 b m d v := fun y hy ho => (hTI.fr y (by omega) ho (by omega)).trans (hb04.block y hy)
    have hOw : Ow w v v5 := (ow_refl w v).trans hTI.ow hb04.size
    have hpre := hTI.pre
    have hlow : ∀ j, id < j → M5 j = M j := fun j hj => hTI.low j (by omega)
    have hno5 : M5 id = none := (hTI.low id (Nat.le_refl _)).trans hno
    have hx1 := hm1.lt
    have hx2 := hm2.lt
    have hLs : L5.length ≤ 200 := by have := hTI.st.len; have := cnt_le K M5; omega
    have hr6 : okN L5.length 4 f (x1 : Int) (x2 : Int) ng = true := ok_new2 hok.out (by omega) hx1 hx2
    have hnok6 : Nd.ok ⟨4, f, (x1 : Int), (x2 : Int), ng⟩ := ok_mk2 hnok (by omega) (by omega)
    simp only [fill, if_true, rv7]
    simp only [Act.put, List.setIfInBounds_toArray, List.set_cons_zero, List.set_cons_succ]
    have hR := Lib.hid (putR_ok (n := ⟨4, f, (x1 : Int), (x2 : Int), ng⟩) hr6)
    have hLl : L5.length ≤ 200 := by have := hS6.len; have := cnt_le K M5; omega
    have hsm := idN_small (n := ⟨4, f, (x1 : Int), (x2 : Int), ng⟩) hr6 hLl
    have hFin := Lib.hid (fin_two (by omega) (hTI.pre _ _ hn.out) hm1 hm2 hr6)
    replace hr6 := Lib.hid hr6
    have hs6 := hBel.size
    obtain ⟨p0, p1, p2, p3, p4, p5, p6, p7⟩ := hN6.cells
    have y0 := hB6.c0
    go_wp2_with fail
    refine (aput_any hS6.ar (by omega) ⟨4, f, (x1 : Int), (x2 : Int), ng⟩ hnok6 (by omega)).mono ?_
    rintro e w7 ⟨rfl, ⟨v7, hA7, ho7⟩, hb7, hOnly⟩
    rw [hR.out]
    have hof2 := hofx6
    obtain ⟨f1, f2, f3, f4⟩ := hof2
    have hB7 : HoldsX w7 w.heap.size b d := hB6.keep (hOnly _ hB6.lt f1 f2 f4)
    have hI7 : IM w7 d K M5 := hS6.im.keep (hOnly d hS6.dlt hS6.dnb hS6.ne hS6.dnv)
    obtain ⟨w8, hrun8, hI8, hg8⟩ := hI7.put (by omega) hid hK hno5 hsm
    obtain ⟨hS8, hF8, hO8, hb8⟩ := hS6.fin (by omega) hno5 hid hA7 ho7 hb7 hOnly hFin.out hI8 hg8
    have hTR : TurnR n0 K b m d L0 id w v L M w8 _ v7 _ _ := ⟨hS8, hFin.out, hpre.trans (pre_put _ _), fun j hj => by
      have : ¬ j = id := by omega
      simp only [setM, this, if_false]
      exact hlow j hj, hFr.trans hOw (by omega) hF8, hOw.trans hO8 (by omega), hBel.trans hb8⟩
    have z1 := hB7.c1
    clear hS8 hF8 hO8 hb8 hI8 hg8 hI7 hA7 ho7 hb7 hOnly hFin hS6 hR y0 p0 p1 p2 p3 p4 p5 p6 p7
    generalize idN L5 ⟨4, f, (x1 : Int), (x2 : Int), ng⟩ = xx at *
    go_wp2_with fail
    go_ret
    exact turnE hTR

set_option maxRecDepth 100000 in
set_option maxHeartbeats 4000000 in
theorem turn_k5 (hS : St n0 K w b m d v L0 L M) (hn0 : n0 ≤ w.heap.size) (hK : K ≤ 100) {id : Nat} (hid : id < K) (hno : M id = none) {c e : Nat} {f : Nat → Bool} {ng : Bool} (hn : L[id]? = some ⟨5, f, (c : Int), (e : Int), ng⟩) (hc : c < id) (he : e < id) (hCc : TurnC n0 K b m d L0 c) (hCe : TurnC n0 K b m d L0 e) :
    Calls Try.prog 47 #[tv b d, .int .i64 (id : Int)] w fun e w' => TurnE n0 K b m d L0 id w v L M e w' := by
  have hX := Below.alloc (Below.refl w.heap.size w) (Nat.le_refl _) (.cells #[.pointer (some ⟨b, 0, none⟩), .map (some d)] 82)
  have hB1 := HoldsX.made (b := b) (d := d) w rfl
  have hS1 := hS.below hX (Nat.le_refl _)
  have hrun := hS1.im.no (by omega) hno
  generalize hw1 : w.alloc (.cells #[.pointer (some ⟨b, 0, none⟩), .map (some d)] 82) = w1 at *
  have hs1 : w1.heap.size = w.heap.size + 1 := by rw [← hw1]; simp
  have c0 := hS1.ar.c0
  obtain ⟨gv, cv, hvv, hE⟩ := hS1.ar.eight hn
  rw [hvv] at c0
  clear hvv
  obtain ⟨e0, e1, e2, e3, e4, e5, e6, e7⟩ := hE
  simp only at e0 e1 e2 e3 e4 e5 e6 e7
  have hN1 := HoldsN.made w1 #[.int .i64 5, .int .u64 (wd f 0), .int .u64 (wd f 1), .int .u64 (wd f 2), .int .u64 (wd f 3), .int .i64 (c : Int), .int .i64 (e : Int), .bool ng] rfl
  have hil := (List.getElem?_eq_some_iff.1 hn).1
  have hok := hS.wf id _ hn
  simp only at hok
  have hnok : Nd.ok ⟨5, f, (c : Int), (e : Int), ng⟩ := hS.ar.ok _ (List.mem_of_getElem? hn)
  have hb0 := hB1.c0
  have hb1 := hB1.c1
  have hb4 : Below w1.heap.size w1 (w1.alloc (.cells #[.int .i64 5, .int .u64 (wd f 0), .int .u64 (wd f 1), .int .u64 (wd f 2), .int .u64 (wd f 3), .int .i64 (c : Int), .int .i64 (e : Int), .bool ng] 56)) := (Below.refl _ _).alloc (Nat.le_refl _) _
  have hs4 := hb4.size
  have hS4 := hS1.below hb4 (Nat.le_refl _)
  have hB4 : HoldsX _ w.heap.size b d := hB1.keep (hb4.block _ (by omega))
  have hs4e : (w1.alloc (.cells #[.int .i64 5, .int .u64 (wd f 0), .int .u64 (wd f 1), .int .u64 (wd f 2), .int .u64 (wd f 3), .int .i64 (c : Int), .int .i64 (e : Int), .bool ng] 56)).heap.size = w1.heap.size + 1 := by simp
  have hofx := hS.off (Nat.le_refl w.heap.size)
  have hofn := hS1.off (Nat.le_refl w1.heap.size)
  have hb04 : Below w.heap.size w _ := hX.trans (hb4.mono (by omega))
  rw [hs1] at hN1 hofn
  replace hn := Lib.hid hn
  replace hok := Lib.hid hok
  go_enter Try.func47, Try.ntmps47
  go_wp2_with fail
  generalize hw4 : w1.alloc (.cells #[.int .i64 5, .int .u64 (wd f 0), .int .u64 (wd f 1), .int .u64 (wd f 2), .int .u64 (wd f 3), .int .i64 (c : Int), .int .i64 (e : Int), .bool ng] 56) = w4 at *
  have hn4 : n0 ≤ w4.heap.size := by omega
  have hbx : w.heap.size < w4.heap.size := by omega
  have hnd : w.heap.size + 1 < w4.heap.size := by omega
  have hndl : n0 ≤ w.heap.size + 1 := by omega
  have hnexn : w.heap.size ≠ w.heap.size + 1 := by omega
  have hI0 : TJ n0 K b m d L0 w4 v L M id w.heap.size (w.heap.size + 1) 5 f c e ng c e (0, 0) (fun _ => false) w4.drew :=
    ⟨v, L, M, hS4.below (Below.drew (Below.refl w4.heap.size w4)) (Nat.le_refl _), pre_refl L, fun _ _ => rfl, fun _ _ _ _ => rfl, ow_refl w4 v, Below.drew (Below.refl n0 w4), hofx, hofn, hB4, hN1, (fun h => by cases h), (fun h => by cases h), (fun h => by cases h), (fun h => by cases h)⟩
  clear hrun c0 e0 e1 e2 e3 e4 e5 e6 e7 hb0 hb1
  refine wp_region_inv (σ := Nat × Nat) (rv7 b d (w.heap.size + 1) 5 6 c e) (fun s done wx => TJ n0 K b m d L0 w4 v L M id w.heap.size (w.heap.size + 1) 5 f c e ng c e s done wx) (by kernel_rfl) (by kernel_rfl) (by kernel_rfl) (by kernel_rfl) (by rfl) (0, 0) ?_ ⟨?_, ?_, ?_, ?_, ?_, ?_, ?_, ?_, ?_, ?_, ?_, ?_, trivial⟩ ?_
  · exact hI0
  · intro s done a' wx hI hn ha hv
    exact wp_load_tv (.tmp 2) rfl (hv.out 2 rfl) hI.box ⟨s, rfl, fun _ _ => rfl, hI.quiet (by decide) (by decide) (by decide) (by decide)⟩
  · intro s done a' wx hI hn ha hv
    exact wp_field56 (.tmp 7) 2 5 (by decide) rfl (hv.out 7 rfl) ⟨s, rfl, fun _ _ => rfl, hI.quiet (by decide) (by decide) (by decide) (by decide)⟩
  · intro s done a' wx hI hn ha hv
    exact wp_load3 (.tmp 45) rfl (hv.inn 1 _ 45 rfl rfl (ha ⟨1, .data⟩ (by simp) rfl)) (hI.fa (.inl hn)) ⟨s, rfl, fun _ _ => rfl, hI.quiet (by decide) (by decide) (by decide) (by decide)⟩
  · intro s done a' wx hI hn ha hv
    have e1 := (hv.inn 0 _ 44 rfl rfl (ha ⟨0, .data⟩ (by simp) rfl))
    have e2 := (hv.inn 2 _ 46 rfl rfl (ha ⟨2, .data⟩ (by simp) rfl))
    refine wp_call 47 enter47 #[.tmp 44, .tmp 46] #[82, 3] rfl ?_
    simp only [List.map_toArray, List.map_cons, List.map_nil, e1, e2]
    refine (hI.call1 hn4 hbx hnd hc hCc hn).mono ?_
    rintro en w'' ⟨x, rfl, hI'⟩
    exact ⟨_, rfl, (x, s.2), rfl, fun j hj => rv7_1 (fun e => by rw [e, hn] at hj; cases hj), hI'⟩
  · intro s done a' wx hI hn ha hv
    exact wp_load_tv (.tmp 2) rfl (hv.out 2 rfl) hI.box ⟨s, rfl, fun _ _ => rfl, hI.quiet (by decide) (by decide) (by decide) (by decide)⟩
  · intro s done a' wx hI hn ha hv
    exact wp_field56 (.tmp 7) 3 6 (by decide) rfl (hv.out 7 rfl) ⟨s, rfl, fun _ _ => rfl, hI.quiet (by decide) (by decide) (by decide) (by decide)⟩
  · intro s done a' wx hI hn ha hv
    exact wp_load3 (.tmp 49) rfl (hv.inn 5 _ 49 rfl rfl (ha ⟨5, .data⟩ (by simp) rfl)) (hI.fb (.inr hn)) ⟨s, rfl, fun _ _ => rfl, hI.quiet (by decide) (by decide) (by decide) (by decide)⟩
  · intro s done a' wx hI hn ha hv
    have e1 := (hv.inn 4 _ 48 rfl rfl (ha ⟨4, .data⟩ (by simp) rfl))
    have e2 := (hv.inn 6 _ 50 rfl rfl (ha ⟨6, .data⟩ (by simp) rfl))
    refine wp_call 47 enter47 #[.tmp 48, .tmp 50] #[82, 3] rfl ?_
    simp only [List.map_toArray, List.map_cons, List.map_nil, e1, e2]
    refine (hI.call2 hn4 hbx hnd he hCe hn).mono ?_
    rintro en w'' ⟨x, rfl, hI'⟩
    exact ⟨_, rfl, (s.1, x), rfl, fun j hj => rv7_2 (fun e => by rw [e, hn] at hj; cases hj), hI'⟩
  · intro s done a' wx hI hn ha hv
    exact wp_field56 (.tmp 7) 2 5 (by decide) rfl (hv.out 7 rfl) ⟨s, rfl, fun _ _ => rfl, hI.quiet (by decide) (by decide) (by decide) (by decide)⟩
  · intro s done a' wx hI hn ha hv
    obtain ⟨⟨z, hz⟩, hf⟩ := hI.c5
    exact wp_store3 (.tmp 52) (.tmp 47) rfl (hv.inn 8 _ 52 rfl rfl (ha ⟨8, .data⟩ (by simp) rfl)) (hv.inn 3 _ 47 rfl rfl (ha ⟨3, .data⟩ (by simp) rfl)) hz hf ⟨s, rfl, fun _ _ => rfl, hI.st9 hndl hnexn (ha ⟨2, .phase⟩ (by simp) rfl) (ha ⟨3, .phase⟩ (by simp) rfl) (ha ⟨6, .phase⟩ (by simp) rfl)⟩
  · intro s done a' wx hI hn ha hv
    exact wp_field56 (.tmp 7) 3 6 (by decide) rfl (hv.out 7 rfl) ⟨s, rfl, fun _ _ => rfl, hI.quiet (by decide) (by decide) (by decide) (by decide)⟩
  · intro s done a' wx hI hn ha hv
    obtain ⟨⟨z, hz⟩, hf⟩ := hI.c6
    exact wp_store3 (.tmp 53) (.tmp 51) rfl (hv.inn 10 _ 53 rfl rfl (ha ⟨10, .data⟩ (by simp) rfl)) (hv.inn 7 _ 51 rfl rfl (ha ⟨7, .data⟩ (by simp) rfl)) hz hf ⟨s, rfl, fun _ _ => rfl, hI.st11 hndl hnexn (ha ⟨2, .phase⟩ (by simp) rfl) (ha ⟨3, .phase⟩ (by simp) rfl) (ha ⟨6, .phase⟩ (by simp) rfl) (ha ⟨7, .phase⟩ (by simp) rfl)⟩
  · intro s done w6 hI hall
    obtain ⟨v5, L5, M5, hTI⟩ := hI
    obtain ⟨x1, x2⟩ := s
    have hd9 := hall 9 (by decide)
    have hd11 := hall 11 (by decide)
    have hm1 := hTI.m1 (hall 3 (by decide))
    have hm2 := hTI.m2 (hall 7 (by decide))
    have hN6 := hTI.hn
    have eA : fA c (x1, x2) done = x1 := by simp [fA, hd9]
    have eB : fB e (x1, x2) done = x2 := by simp [fB, hd11]
    rw [eA, eB] at hN6
    simp only at hm1 hm2
    have hS6 := hTI.st
    have hB6 := hTI.hx
    have hofx6 := hTI.ofx
    have hBel : Below n0 w w6 := (hb04.mono hn0).trans hTI.bel
    have hFr : Fr w w6 b m d v := fun y hy ho => (hTI.fr y (by omega) ho (by omega)).trans (hb04.block y hy)
    have hOw : Ow w v v5 := (ow_refl w v).trans hTI.ow hb04.size
    have hpre := hTI.pre
    have hlow : ∀ j, id < j → M5 j = M j := fun j hj => hTI.low j (by omega)
    have hno5 : M5 id = none := (hTI.low id (Nat.le_refl _)).trans hno
    have hx1 := hm1.lt
    have hx2 := hm2.lt
    have hLs : L5.length ≤ 200 := by have := hTI.st.len; have := cnt_le K M5; omega
    have hr6 : okN L5.length 5 f (x1 : Int) (x2 : Int) ng = true := ok_new2 hok.out (by omega) hx1 hx2
    have hnok6 : Nd.ok ⟨5, f, (x1 : Int), (x2 : Int), ng⟩ := ok_mk2 hnok (by omega) (by omega)
    simp only [fill, if_true, rv7]
    simp only [Act.put, List.setIfInBounds_toArray, List.set_cons_zero, List.set_cons_succ]
    have hR := Lib.hid (putR_ok (n := ⟨5, f, (x1 : Int), (x2 : Int), ng⟩) hr6)
    have hLl : L5.length ≤ 200 := by have := hS6.len; have := cnt_le K M5; omega
    have hsm := idN_small (n := ⟨5, f, (x1 : Int), (x2 : Int), ng⟩) hr6 hLl
    have hFin := Lib.hid (fin_two (by omega) (hTI.pre _ _ hn.out) hm1 hm2 hr6)
    replace hr6 := Lib.hid hr6
    have hs6 := hBel.size
    obtain ⟨p0, p1, p2, p3, p4, p5, p6, p7⟩ := hN6.cells
    have y0 := hB6.c0
    go_wp2_with fail
    refine (aput_any hS6.ar (by omega) ⟨5, f, (x1 : Int), (x2 : Int), ng⟩ hnok6 (by omega)).mono ?_
    rintro e w7 ⟨rfl, ⟨v7, hA7, ho7⟩, hb7, hOnly⟩
    rw [hR.out]
    have hof2 := hofx6
    obtain ⟨f1, f2, f3, f4⟩ := hof2
    have hB7 : HoldsX w7 w.heap.size b d := hB6.keep (hOnly _ hB6.lt f1 f2 f4)
    have hI7 : IM w7 d K M5 := hS6.im.keep (hOnly d hS6.dlt hS6.dnb hS6.ne hS6.dnv)
    obtain ⟨w8, hrun8, hI8, hg8⟩ := hI7.put (by omega) hid hK hno5 hsm
    obtain ⟨hS8, hF8, hO8, hb8⟩ := hS6.fin (by omega) hno5 hid hA7 ho7 hb7 hOnly hFin.out hI8 hg8
    have hTR : TurnR n0 K b m d L0 id w v L M w8 _ v7 _ _ := ⟨hS8, hFin.out, hpre.trans (pre_put _ _), fun j hj => by
      have : ¬ j = id := by omega
      simp only [setM, this, if_false]
      exact hlow j hj, hFr.trans hOw (by omega) hF8, hOw.trans hO8 (by omega), hBel.trans hb8⟩
    have z1 := hB7.c1
    clear hS8 hF8 hO8 hb8 hI8 hg8 hI7 hA7 ho7 hb7 hOnly hFin hS6 hR y0 p0 p1 p2 p3 p4 p5 p6 p7
    generalize idN L5 ⟨5, f, (x1 : Int), (x2 : Int), ng⟩ = xx at *
    go_wp2_with fail
    go_ret
    exact turnE hTR

end Go.Proofs.Ytbmejpghoafapaa
