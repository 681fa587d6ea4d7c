/-
  The law bolterlaw01.SetOps.
-/
import Derived.Test.YtbmejpghoafapaaInvOps
import Derived.Test.YtbmejpghoafapaaMake
namespace Go.Proofs.Ytbmejpghoafapaa
open Go.RowKit

/-- What the operations of the region of the four calls yield. -/
def ov (f g : Nat → Bool) (p : Nat → Nat) : Nat → Value
  | 0 => sv f | 1 => sv g | 2 => sv (fun b => f b || g b)
  | 3 => sv f | 4 => sv g | 5 => sv (fun b => f b && g b)
  | 6 => sv f | 7 => sv g | 8 => sv (fun b => f b && !g b)
  | 9 => sv f | 10 => sv (fun b => !f b)
  | 11 => .pointer (some ⟨p 11, 0, none⟩) | 12 => .pointer (some ⟨p 12, 0, none⟩) | 13 => .pointer (some ⟨p 13, 0, none⟩) | 14 => .pointer (some ⟨p 14, 0, none⟩)
  | _ => undef
def oh (f g : Nat → Bool) : Nat → Nat → Bool
  | 11 => fun b => f b || g b | 12 => fun b => f b && g b | 13 => fun b => f b && !g b | 14 => fun b => !f b | _ => fun _ => false
structure OI (w0 : World) (f g : Nat → Bool) (p : Nat → Nat) (done : Nat → Bool) (w : World) : Prop where
  bel : Below w0.heap.size w0 w
  blk : ∀ k, 11 ≤ k → k < 15 → done k = true → w0.heap.size ≤ p k ∧ HoldsS w (p k) (if done (k + 4) = true then oh f g k else fun _ => false)
  ne : ∀ j k, 11 ≤ j → j < 15 → 11 ≤ k → k < 15 → done j = true → done k = true → j ≠ k → p j ≠ p k
  ord : ∀ k, 11 ≤ k → k < 15 → done (k + 4) = true → done k = true
variable {w0 w w' : World} {f g : Nat → Bool} {p : Nat → Nat} {done : Nat → Bool} {i k : Nat}
theorem OI.quiet (h : OI w0 f g p done w) (hb : Below w.heap.size w w') (hi : i < 11) : OI w0 f g p (also done i) w' := by
  have e : ∀ j, 11 ≤ j → also done i j = done j := fun j hj => also_other (by omega)
  refine ⟨h.bel.trans (hb.mono h.bel.size), fun k h1 h2 h3 => ?_, fun j k h1 h2 h3 h4 h5 h6 => ?_, fun k h1 h2 h3 => ?_⟩
  · rw [e k h1] at h3
    obtain ⟨h4, h5⟩ := h.blk k h1 h2 h3
    rw [e (k + 4) (by omega)]
    exact ⟨h4, h5.below hb h5.lt⟩
  · rw [e j h1] at h5
    rw [e k h3] at h6
    exact h.ne j k h1 h2 h3 h4 h5 h6
  · rw [e k h1]
    rw [e (k + 4) (by omega)] at h3
    exact h.ord k h1 h2 h3
theorem OI.alloc (h : OI w0 f g p done w) (hi : 11 ≤ i) (hi2 : i < 15) (hn : done i = false) : OI w0 f g (fun j => if j = i then w.heap.size else p j) (also done i) (w.alloc (sob fun _ => false)) := by
  have hns : done (i + 4) = false := by
    cases hd : done (i + 4)
    · rfl
    · rw [h.ord i hi hi2 hd] at hn; cases hn
  have e4 : ∀ j, 11 ≤ j → also done i (j + 4) = done (j + 4) := fun j hj => also_other (by omega)
  refine ⟨h.bel.alloc h.bel.size _, fun k h1 h2 h3 => ?_, fun j k h1 h2 h3 h4 h5 h6 hjk => ?_, fun k h1 h2 h3 => ?_⟩
  · rw [e4 k h1]
    by_cases hk : k = i
    · subst hk
      simp only [if_true, hns, Bool.false_eq_true, if_false]
      exact ⟨h.bel.size, HoldsS.made w _⟩
    · rw [also_other hk] at h3
      obtain ⟨h4, h5⟩ := h.blk k h1 h2 h3
      simp only [hk, if_false]
      exact ⟨h4, h5.alloc _⟩
  · by_cases hj : j = i
    · subst hj
      have hk : k ≠ j := fun e => hjk e.symm
      rw [also_other hk] at h6
      have := (h.blk k h3 h4 h6).2.lt
      simp only [if_true, hk, if_false]
      omega
    · rw [also_other hj] at h5
      by_cases hk : k = i
      · subst hk
        have := (h.blk j h1 h2 h5).2.lt
        simp only [if_true, hj, if_false]
        omega
      · rw [also_other hk] at h6
        simp only [hj, hk, if_false]
        exact h.ne j k h1 h2 h3 h4 h5 h6 hjk
  · rw [e4 k h1] at h3
    exact also_old (h.ord k h1 h2 h3)
theorem OI.store (h : OI w0 f g p done w) (hk : 11 ≤ k) (hk2 : k < 15) (hd : done k = true) (hw : HoldsS w' (p k) (oh f g k)) (hg : w.grownBy w' (some (p k))) : OI w0 f g p (also done (k + 4)) w' := by
  have e : ∀ j, j < 15 → also done (k + 4) j = done j := fun j hj => also_other (by omega)
  refine ⟨h.bel.grown hg h.bel.size (fun j hj => by cases hj; exact (h.blk k hk hk2 hd).1), fun j h1 h2 h3 => ?_, fun i j h1 h2 h3 h4 h5 h6 => ?_, fun j h1 h2 h3 => ?_⟩
  · rw [e j h2] at h3
    obtain ⟨h4, h5⟩ := h.blk j h1 h2 h3
    refine ⟨h4, ?_⟩
    by_cases hj : j = k
    · subst hj
      rw [also_self, if_pos rfl]
      exact hw
    · rw [also_other (by omega)]
      have := h.ne j k h1 h2 hk hk2 h3 hd hj
      exact h5.kept hg (by simpa using this)
  · rw [e i h2] at h5
    rw [e j h4] at h6
    exact h.ne i j h1 h2 h3 h4 h5 h6
  · rw [e j h2]
    by_cases hj : j = k
    · subst hj; exact hd
    · rw [also_other (by omega)] at h3
      exact h.ord j h1 h2 h3

theorem has_val {f : Nat → Bool} {b : Int} {v : Bool} (hv : f b.toNat = v) (w : World) (h0 : 0 ≤ b) (h1 : b < 256) :
    Calls Try.prog 23 #[sv f, .int .u8 b] w fun e w' => e = .returned (.bool v) ∧ Below w.heap.size w w' := by rw [← hv]; exact has_any f b w h0 h1
theorem ov_congr {q : Nat} {j : Nat} (h : j ≠ i) : ov f g (fun j => if j = i then q else p j) j = ov f g p j := by
  unfold ov
  split <;> simp_all
set_option maxRecDepth 100000 in
set_option maxHeartbeats 4000000 in
theorem setOps_any (f g : Nat → Bool) (w : World) : Calls Try.prog 5 #[sv f, sv g] w fun e w' => e = .returned (.bool true) ∧ Below w.heap.size w w' := by
  have hA0 := (HoldsS.made w f).alloc (sob g)
  have hB0 := HoldsS.made (w.alloc (sob f)) g
  rw [World.size_alloc] at hB0
  go_enter Try.func5, Try.ntmps5
  go_wp2_with (go_at_call 12; refine (awake1 _).mono ?_; rintro e w1 ⟨rfl, hb1⟩)
  have hs1 := hb1.size
  simp at hs1
  have hA1 := hA0.below hb1 (by simp; omega)
  have hB1 := hB0.below hb1 (by simp)
  have hbl1 : Below w.heap.size w w1 := (by repeat (first | exact Below.refl _ _ | assumption | refine Below.drew ?_ | refine below_drewN' ?_ _ | refine Below.setCell ?_ (by first | omega | (simp; done) | (simp; omega)) _ | refine Below.alloc ?_ (by first | omega | (simp; done) | (simp; omega)) _ | refine Below.trans ?_ (Below.mono (by assumption) (by first | omega | (simp; done) | (simp; omega)))))
  clear hA0 hB0
  refine wp_region_inv (σ := Nat → Nat) (ov f g) (OI w1 f g) (by kernel_rfl) (by kernel_rfl) (by kernel_rfl) (by kernel_rfl) (by rfl) (fun _ => 0) ?_ ?_ ?_
  · exact ⟨(Below.refl _ _).drew, (fun k _ _ h => by cases h), (fun j k _ _ _ _ h => by cases h), (fun k _ _ h => by cases h)⟩
  · refine ⟨?_, ?_, ?_, ?_, ?_, ?_, ?_, ?_, ?_, ?_, ?_, ?_, ?_, ?_, ?_, ?_, ?_, ?_, ?_, trivial⟩
    · intro p done a wx hI hn ha hv
      refine wp_load_set (.tmp 2) rfl (b := w.heap.size) (f := f) (hv.out 2 rfl) (hA1.below hI.bel (by omega)) ?_
      exact ⟨p, rfl, fun _ _ => rfl, hI.quiet (Below.refl _ _) (by omega)⟩
    · intro p done a wx hI hn ha hv
      refine wp_load_set (.tmp 3) rfl (b := (w.heap.size + 1)) (f := g) (hv.out 3 rfl) (hB1.below hI.bel (by omega)) ?_
      exact ⟨p, rfl, fun _ _ => rfl, hI.quiet (Below.refl _ _) (by omega)⟩
    · intro p done a wx hI hn ha hv
      have e0 : a.eval (.tmp 15) = sv f := hv.inn 0 _ 15 rfl rfl (ha ⟨0, .data⟩ (by simp) rfl)
      have e1 : a.eval (.tmp 16) = sv g := hv.inn 1 _ 16 rfl rfl (ha ⟨1, .data⟩ (by simp) rfl)
      refine wp_call 19 enter19 #[.tmp 15, .tmp 16] #[26, 26] rfl ?_
      simp only [List.map_toArray, List.map_cons, List.map_nil, e0, e1]
      refine (union_any f g wx).mono ?_
      rintro e w' ⟨rfl, hb⟩
      exact ⟨_, rfl, p, rfl, fun _ _ => rfl, hI.quiet hb (by omega)⟩
    · intro p done a wx hI hn ha hv
      refine wp_load_set (.tmp 2) rfl (b := w.heap.size) (f := f) (hv.out 2 rfl) (hA1.below hI.bel (by omega)) ?_
      exact ⟨p, rfl, fun _ _ => rfl, hI.quiet (Below.refl _ _) (by omega)⟩
    · intro p done a wx hI hn ha hv
      refine wp_load_set (.tmp 3) rfl (b := (w.heap.size + 1)) (f := g) (hv.out 3 rfl) (hB1.below hI.bel (by omega)) ?_
      exact ⟨p, rfl, fun _ _ => rfl, hI.quiet (Below.refl _ _) (by omega)⟩
    · intro p done a wx hI hn ha hv
      have e3 : a.eval (.tmp 18) = sv f := hv.inn 3 _ 18 rfl rfl (ha ⟨3, .data⟩ (by simp) rfl)
      have e4 : a.eval (.tmp 19) = sv g := hv.inn 4 _ 19 rfl rfl (ha ⟨4, .data⟩ (by simp) rfl)
      refine wp_call 20 enter20 #[.tmp 18, .tmp 19] #[26, 26] rfl ?_
      simp only [List.map_toArray, List.map_cons, List.map_nil, e3, e4]
      refine (inter_any f g wx).mono ?_
      rintro e w' ⟨rfl, hb⟩
      exact ⟨_, rfl, p, rfl, fun _ _ => rfl, hI.quiet hb (by omega)⟩
    · intro p done a wx hI hn ha hv
      refine wp_load_set (.tmp 2) rfl (b := w.heap.size) (f := f) (hv.out 2 rfl) (hA1.below hI.bel (by omega)) ?_
      exact ⟨p, rfl, fun _ _ => rfl, hI.quiet (Below.refl _ _) (by omega)⟩
    · intro p done a wx hI hn ha hv
      refine wp_load_set (.tmp 3) rfl (b := (w.heap.size + 1)) (f := g) (hv.out 3 rfl) (hB1.below hI.bel (by omega)) ?_
      exact ⟨p, rfl, fun _ _ => rfl, hI.quiet (Below.refl _ _) (by omega)⟩
    · intro p done a wx hI hn ha hv
      have e6 : a.eval (.tmp 21) = sv f := hv.inn 6 _ 21 rfl rfl (ha ⟨6, .data⟩ (by simp) rfl)
      have e7 : a.eval (.tmp 22) = sv g := hv.inn 7 _ 22 rfl rfl (ha ⟨7, .data⟩ (by simp) rfl)
      refine wp_call 21 enter21 #[.tmp 21, .tmp 22] #[26, 26] rfl ?_
      simp only [List.map_toArray, List.map_cons, List.map_nil, e6, e7]
      refine (minus_any f g wx).mono ?_
      rintro e w' ⟨rfl, hb⟩
      exact ⟨_, rfl, p, rfl, fun _ _ => rfl, hI.quiet hb (by omega)⟩
    · intro p done a wx hI hn ha hv
      refine wp_load_set (.tmp 2) rfl (b := w.heap.size) (f := f) (hv.out 2 rfl) (hA1.below hI.bel (by omega)) ?_
      exact ⟨p, rfl, fun _ _ => rfl, hI.quiet (Below.refl _ _) (by omega)⟩
    · intro p done a wx hI hn ha hv
      have e9 : a.eval (.tmp 24) = sv f := hv.inn 9 _ 24 rfl rfl (ha ⟨9, .data⟩ (by simp) rfl)
      refine wp_call 22 enter22 #[.tmp 24] #[26] rfl ?_
      simp only [List.map_toArray, List.map_cons, List.map_nil, e9]
      refine (not_any f wx).mono ?_
      rintro e w' ⟨rfl, hb⟩
      exact ⟨_, rfl, p, rfl, fun _ _ => rfl, hI.quiet hb (by omega)⟩
    · intro p done a wx hI hn ha hv
      refine wp_alloc_set rfl ?_
      refine ⟨fun j => if j = 11 then wx.heap.size else p j, rfl, fun j hj => ?_, hI.alloc (by omega) (by omega) hn⟩
      have hne : j ≠ 11 := fun e => by rw [e, hn] at hj; cases hj
      exact ov_congr hne
    · intro p done a wx hI hn ha hv
      refine wp_alloc_set rfl ?_
      refine ⟨fun j => if j = 12 then wx.heap.size else p j, rfl, fun j hj => ?_, hI.alloc (by omega) (by omega) hn⟩
      have hne : j ≠ 12 := fun e => by rw [e, hn] at hj; cases hj
      exact ov_congr hne
    · intro p done a wx hI hn ha hv
      refine wp_alloc_set rfl ?_
      refine ⟨fun j => if j = 13 then wx.heap.size else p j, rfl, fun j hj => ?_, hI.alloc (by omega) (by omega) hn⟩
      have hne : j ≠ 13 := fun e => by rw [e, hn] at hj; cases hj
      exact ov_congr hne
    · intro p done a wx hI hn ha hv
      refine wp_alloc_set rfl ?_
      refine ⟨fun j => if j = 14 then wx.heap.size else p j, rfl, fun j hj => ?_, hI.alloc (by omega) (by omega) hn⟩
      have hne : j ≠ 14 := fun e => by rw [e, hn] at hj; cases hj
      exact ov_congr hne
    · intro p done a wx hI hn ha hv
      have hd : done 11 = true := ha ⟨11, .data⟩ (by simp) rfl
      refine wp_store_set (.tmp 5) (.tmp 17) rfl (g := oh f g 11) (hv.inn 11 _ 5 rfl rfl hd) (hv.inn 2 _ 17 rfl rfl (ha ⟨2, .data⟩ (by simp) rfl)) (hI.blk 11 (by omega) (by omega) hd).2 ?_
      intro w' hw' hg'
      exact ⟨p, rfl, fun _ _ => rfl, hI.store (by omega) (by omega) hd hw' hg'⟩
    · intro p done a wx hI hn ha hv
      have hd : done 12 = true := ha ⟨12, .data⟩ (by simp) rfl
      refine wp_store_set (.tmp 6) (.tmp 20) rfl (g := oh f g 12) (hv.inn 12 _ 6 rfl rfl hd) (hv.inn 5 _ 20 rfl rfl (ha ⟨5, .data⟩ (by simp) rfl)) (hI.blk 12 (by omega) (by omega) hd).2 ?_
      intro w' hw' hg'
      exact ⟨p, rfl, fun _ _ => rfl, hI.store (by omega) (by omega) hd hw' hg'⟩
    · intro p done a wx hI hn ha hv
      have hd : done 13 = true := ha ⟨13, .data⟩ (by simp) rfl
      refine wp_store_set (.tmp 7) (.tmp 23) rfl (g := oh f g 13) (hv.inn 13 _ 7 rfl rfl hd) (hv.inn 8 _ 23 rfl rfl (ha ⟨8, .data⟩ (by simp) rfl)) (hI.blk 13 (by omega) (by omega) hd).2 ?_
      intro w' hw' hg'
      exact ⟨p, rfl, fun _ _ => rfl, hI.store (by omega) (by omega) hd hw' hg'⟩
    · intro p done a wx hI hn ha hv
      have hd : done 14 = true := ha ⟨14, .data⟩ (by simp) rfl
      refine wp_store_set (.tmp 8) (.tmp 25) rfl (g := oh f g 14) (hv.inn 14 _ 8 rfl rfl hd) (hv.inn 10 _ 25 rfl rfl (ha ⟨10, .data⟩ (by simp) rfl)) (hI.blk 14 (by omega) (by omega) hd).2 ?_
      intro w' hw' hg'
      exact ⟨p, rfl, fun _ _ => rfl, hI.store (by omega) (by omega) hd hw' hg'⟩
  · intro p done w2 hI hall
    have hp := fun k h1 h2 => hI.blk k h1 h2 (hall k (by simp; omega))
    have hne := hI.ne
    have HA2 := hA1.below hI.bel (by omega)
    have HB2 := hB1.below hI.bel (by omega)
    obtain ⟨q11, HU⟩ := hp 11 (by omega) (by omega)
    obtain ⟨q12, HV⟩ := hp 12 (by omega) (by omega)
    obtain ⟨q13, HM⟩ := hp 13 (by omega) (by omega)
    obtain ⟨q14, HN⟩ := hp 14 (by omega) (by omega)
    rw [if_pos (hall 15 (by simp))] at HU
    rw [if_pos (hall 16 (by simp))] at HV
    rw [if_pos (hall 17 (by simp))] at HM
    rw [if_pos (hall 18 (by simp))] at HN
    have hbl2 := hbl1.trans (hI.bel.mono (by omega))
    simp only [fill, if_true, ov]
    simp only [oh] at HU HV HM HN
    clear hp hne hI hall hA1 hB1
    generalize p 11 = p5 at *
    generalize p 12 = p6 at *
    generalize p 13 = p7 at *
    generalize p 14 = p8 at *
    have hU : ∀ k, (f k || g k) = (fun b => f b || g b) k := fun _ => rfl
    have hV : ∀ k, (f k && g k) = (fun b => f b && g b) k := fun _ => rfl
    have hM : ∀ k, (f k && !g k) = (fun b => f b && !g b) k := fun _ => rfl
    have hN : ∀ k, (!f k) = (fun b => !f b) k := fun _ => rfl
    generalize (fun b => f b || g b) = U at *
    generalize (fun b => f b && g b) = V at *
    generalize (fun b => f b && !g b) = M at *
    generalize (fun b => !f b) = N at *
    replace hU := Lib.hid hU
    replace hV := Lib.hid hV
    replace hM := Lib.hid hM
    replace hN := Lib.hid hN
    go_wp2_with fail
    go_loopw [26] (fun i wr => ∃ k : Nat, k ≤ 256 ∧ i = .int .i64 k ∧ Below w.heap.size w wr ∧ HoldsS wr w.heap.size f ∧ HoldsS wr (w.heap.size + 1) g ∧ HoldsS wr p5 U ∧ HoldsS wr p6 V ∧ HoldsS wr p7 M ∧ HoldsS wr p8 N) (fun i _ => (256 - intOf i).toNat)
    case atStart => exact ⟨0, by omega, rfl, hbl2, HA2, HB2, HU, HV, HM, HN⟩
    case round =>
      clear hbl2 HA2 HB2 HU HV HM HN
      obtain ⟨k, hk, rfl, hbl, hF, hG, h5, h6, h7, h8⟩ := hrel
      by_cases hlt : k < 256
      · have hU' := hU.out k
        have hV' := hV.out k
        have hM' := hM.out k
        have hN' := hN.out k
        have hsz := hbl.size
        have hw8 : IntKind.u8.wrap (k : Int) = (k : Int) := by rw [IntKind.wrap_u8]; omega
        have cF := fun u : Wk wr.heap.size wr => (hF.below u.ok hF.lt).cells
        have c0 := fun u => (cF u).1
        have c1 := fun u => (cF u).2.1
        have c2 := fun u => (cF u).2.2.1
        have c3 := fun u => (cF u).2.2.2
        have cG := fun u : Wk wr.heap.size wr => (hG.below u.ok hG.lt).cells
        have d0 := fun u => (cG u).1
        have d1 := fun u => (cG u).2.1
        have d2 := fun u => (cG u).2.2.1
        have d3 := fun u => (cG u).2.2.2
        clear cF cG
        have hkt : (k : Int).toNat = k := by omega
        cases hf : f k <;> cases hg : g k
        all_goals
          rw [hf, hg] at hU' hV' hM'
          rw [hf] at hN'
          simp only [Bool.or_false, Bool.or_true, Bool.and_false, Bool.and_true, Bool.not_true, Bool.not_false] at hU' hV' hM' hN'
          have HF := Lib.hid ((congrArg f hkt).trans hf)
          have HG := Lib.hid ((congrArg g hkt).trans hg)
          have HU := Lib.hid ((congrArg U hkt).trans hU'.symm)
          have HV := Lib.hid ((congrArg V hkt).trans hV'.symm)
          have HM := Lib.hid ((congrArg M hkt).trans hM'.symm)
          have HN := Lib.hid ((congrArg N hkt).trans hN'.symm)
          clear hU' hV' hM' hN' hf hg hkt
          go_wp2_with fail
          refine wp_region_class (fun w' => ∃ u : Wk wr.heap.size wr, w' = u.val) (by kernel_rfl) (by kernel_rfl) ⟨⟨_, (Below.refl _ _).drew⟩, rfl⟩ ?_
          repeat (go_big_quiet_step (first | (go_at_call 17; first | (with_reducible exact wk_call (Nat.le_refl _) _ (refHas_val HF.out _ (by omega) (by omega))) | (with_reducible exact wk_call (Nat.le_refl _) _ (refHas_val HG.out _ (by omega) (by omega))))))
          refine wpQuiet_nil ?_
          rintro w' ⟨u, rfl⟩
          have hbu := u.ok
          clear c0 c1 c2 c3 d0 d1 d2 d3
          generalize u.val = wu at *
          have hF1 := hF.below hbu hF.lt
          have h51 := h5.below hbu h5.lt
          have h61 := h6.below hbu h6.lt
          have h71 := h7.below hbu h7.lt
          have h81 := h8.below hbu h8.lt
          obtain ⟨c0, c1, c2, c3⟩ := hF1.cells
          go_wp2_with (go_at_call 23; first | ((with_reducible refine (has_val HF.out _ (by omega) (by omega)).mono ?_); rintro e wa ⟨rfl, hba⟩; clear c0 c1 c2 c3; have h52 := h51.below hba h51.lt; obtain ⟨c0, c1, c2, c3⟩ := h52.cells) | ((with_reducible refine (has_val HU.out _ (by omega) (by omega)).mono ?_); rintro e wb ⟨rfl, hbb⟩; clear c0 c1 c2 c3; have h62 := (h61.below hba h61.lt).below hbb (h61.below hba h61.lt).lt; obtain ⟨c0, c1, c2, c3⟩ := h62.cells) | ((with_reducible refine (has_val HV.out _ (by omega) (by omega)).mono ?_); rintro e wc ⟨rfl, hbc⟩; clear c0 c1 c2 c3; have h72 := (h71.below hba h71.lt).below hbb (h71.below hba h71.lt).lt; have h73 := h72.below hbc h72.lt; obtain ⟨c0, c1, c2, c3⟩ := h73.cells) | ((with_reducible refine (has_val HM.out _ (by omega) (by omega)).mono ?_); rintro e wd' ⟨rfl, hbd⟩; clear c0 c1 c2 c3; have h82 := (h81.below hba h81.lt).below hbb (h81.below hba h81.lt).lt; have h83 := h82.below hbc h82.lt; have h84 := h83.below hbd h83.lt; obtain ⟨c0, c1, c2, c3⟩ := h84.cells) | ((with_reducible refine (has_val HN.out _ (by omega) (by omega)).mono ?_); rintro e we ⟨rfl, hbe⟩; clear c0 c1 c2 c3))
          have hsu := hbu.size
          have hsa := hba.size
          have hsb := hbb.size
          have hsc := hbc.size
          have hsd := hbd.size
          have hse := hbe.size
          have hall : Below wr.heap.size wr we := (by repeat (first | exact Below.refl _ _ | assumption | refine Below.drew ?_ | refine below_drewN' ?_ _ | refine Below.setCell ?_ (by first | omega | (simp; done) | (simp; omega)) _ | refine Below.alloc ?_ (by first | omega | (simp; done) | (simp; omega)) _ | refine Below.trans ?_ (Below.mono (by assumption) (by first | omega | (simp; done) | (simp; omega)))))
          go_round
          case rel => exact ⟨k + 1, by omega, by go_num, hbl.trans (hall.mono hsz), hF.below hall hF.lt, hG.below hall hG.lt, h5.below hall h5.lt, h6.below hall h6.lt, h7.below hall h7.lt, h8.below hall h8.lt⟩
          case measure => simp [intOf]; omega
      · go_wp2_with fail
        go_ret
        exact ⟨rfl, hbl⟩

end Go.Proofs.Ytbmejpghoafapaa
