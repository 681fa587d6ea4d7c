/-
  The walk of the law bolterlaw02.ClassesRefine.
-/
import Derived.Test.YtbmejpghoafapaaOwnS
namespace Go.Proofs.Ytbmejpghoafapaa
open Go.RowKit Go.Maps

/-- What the operations of the last region yield. -/
def rv (v0 : Value) (l : List (Nat → Bool)) (s : Nat → Bool) (p : Nat → Value) : Nat → Value
  | 0 => v0 | 1 => cv (mk l).1 (mk l).2 | 2 => sv s | 3 => cv (mk (l ++ [s])).1 (mk (l ++ [s])).2
  | 4 => p 4 | 5 => v0 | 6 => p 6 | 7 => sv s | 8 => p 8 | 9 => p 9
  | 10 => cv (mk (l ++ [s])).1 (mk (l ++ [s])).2 | 11 => .bool true | 12 => .bool true | _ => undef
theorem rv_congr {v0 : Value} {l : List (Nat → Bool)} {s : Nat → Bool} {p : Nat → Value} {i j : Nat} {q : Value} (h : j ≠ i) : rv v0 l s (fun j => if j = i then q else p j) j = rv v0 l s p j := by
  unfold rv
  split <;> simp_all
structure RI (w0 : World) (l : List (Nat → Bool)) (s : Nat → Bool) (p : Nat → Value) (done : Nat → Bool) (w : World) : Prop where
  bel : Below w0.heap.size w0 w
  r4 : done 4 = true → done 6 = false → OwnS w0.heap.size w (p 4) []
  r6 : done 6 = true → done 9 = false → OwnS w0.heap.size w (p 6) l
  r8 : done 8 = true → done 9 = false → ∃ b, p 8 = .slice (some ⟨b, 0, none⟩) 1 1 ∧ HoldsS w b s ∧ (done 4 = true → done 6 = false → (p 4).ownBlock ≠ some b)
  r9 : done 9 = true → OwnS w0.heap.size w (p 9) (l ++ [s])
  o6 : done 6 = true → done 4 = true
  o9 : done 9 = true → done 6 = true ∧ done 8 = true
variable {w0 w w' : World} {l : List (Nat → Bool)} {s : Nat → Bool} {p : Nat → Value} {done : Nat → Bool} {i : Nat}
theorem RI.quiet (h : RI w0 l s p done w) (hb : Below w.heap.size w w') (h4 : i ≠ 4) (h6 : i ≠ 6) (h8 : i ≠ 8) (h9 : i ≠ 9) : RI w0 l s p (also done i) w' := by
  have e4 : also done i 4 = done 4 := also_other (Ne.symm h4)
  have e6 : also done i 6 = done 6 := also_other (Ne.symm h6)
  have e8 : also done i 8 = done 8 := also_other (Ne.symm h8)
  have e9 : also done i 9 = done 9 := also_other (Ne.symm h9)
  constructor
  · exact h.bel.trans (hb.mono h.bel.size)
  · rw [e4, e6]; intro a b; exact (h.r4 a b).below hb (Nat.le_refl _)
  · rw [e6, e9]; intro a b; exact (h.r6 a b).below hb (Nat.le_refl _)
  · rw [e8, e9, e4, e6]; intro a b
    obtain ⟨b, h1, h2, h3⟩ := h.r8 a b
    exact ⟨b, h1, h2.below hb h2.lt, h3⟩
  · rw [e9]; intro a; exact (h.r9 a).below hb (Nat.le_refl _)
  · rw [e4, e6]; exact h.o6
  · rw [e6, e8, e9]; exact h.o9
theorem RI.s4 (h : RI w0 l s p done w) (hn : done 4 = false) : RI w0 l s (fun j => if j = 4 then .slice (some ⟨w.heap.size, 0, none⟩) 0 0 else p j) (also done 4) (w.alloc (.cells #[] 26)) := by
  have n6 : done 6 = false := by
    cases hd : done 6
    · rfl
    · rw [h.o6 hd] at hn; cases hn
  have n9 : done 9 = false := by
    cases hd : done 9
    · rfl
    · rw [(h.o9 hd).1] at n6; cases n6
  have e6 : also done 4 6 = false := (also_other (by omega)).trans n6
  have e8 : also done 4 8 = done 8 := also_other (by omega)
  have e9 : also done 4 9 = false := (also_other (by omega)).trans n9
  constructor
  · exact h.bel.alloc h.bel.size _
  · intro _ _
    simp only [if_true]
    exact World.ownsRow_lit w #[] 0 h.bel.size (by unfold maxLen; omega) rfl
  · rw [e6]; intro a; cases a
  · rw [e8]; intro a _
    obtain ⟨b, h1, h2, _⟩ := h.r8 a n9
    refine ⟨b, by simpa using h1, h2.alloc _, fun _ _ e => ?_⟩
    have h3 := h2.lt
    have h4 : w.heap.size = b := by simpa [Value.ownBlock] using e
    omega
  · rw [e9]; intro a; cases a
  · rw [e6]; intro a; cases a
  · rw [e9]; intro a; cases a
theorem RI.s8 (h : RI w0 l s p done w) (hn : done 8 = false) : RI w0 l s (fun j => if j = 8 then .slice (some ⟨w.heap.size, 0, none⟩) 1 1 else p j) (also done 8) (w.alloc (sob s)) := by
  have n9 : done 9 = false := by
    cases hd : done 9
    · rfl
    · rw [(h.o9 hd).2] at hn; cases hn
  have e4 : also done 8 4 = done 4 := also_other (by omega)
  have e6 : also done 8 6 = done 6 := also_other (by omega)
  have e9 : also done 8 9 = false := (also_other (by omega)).trans n9
  have hb := Below.alloc (Below.refl w.heap.size w) (Nat.le_refl _) (sob s)
  constructor
  · exact h.bel.alloc h.bel.size _
  · rw [e4, e6]; intro a b; simpa using (h.r4 a b).below hb (Nat.le_refl _)
  · rw [e6]; intro a _; simpa using (h.r6 a n9).below hb (Nat.le_refl _)
  · intro _ _
    refine ⟨w.heap.size, by simp, HoldsS.made w s, fun a b e => ?_⟩
    rw [e4] at a
    rw [e6] at b
    have := (own_blk (h.r4 a b) (g := w.heap.size) (by simpa using e)).2.1
    omega
  · rw [e9]; intro a; cases a
  · rw [e4, e6]; exact h.o6
  · rw [e9]; intro a; cases a
theorem RI.s6 (h : RI w0 l s p done w) (h4 : done 4 = true) (hn : done 6 = false) {v' : Value} (ho : OwnS w0.heap.size w' v' l) (hg : w.grownBy w' (p 4).ownBlock) : RI w0 l s (fun j => if j = 6 then v' else p j) (also done 6) w' := by
  have n9 : done 9 = false := by
    cases hd : done 9
    · rfl
    · rw [(h.o9 hd).1] at hn; cases hn
  have e4 : also done 6 4 = done 4 := also_other (by omega)
  have e8 : also done 6 8 = done 8 := also_other (by omega)
  have e9 : also done 6 9 = false := (also_other (by omega)).trans n9
  constructor
  · exact h.bel.trans (OwnS.grown_below (h.r4 h4 hn) h.bel.size hg)
  · rw [also_self]; intro _ b; cases b
  · intro _ _; simpa using ho
  · rw [e8]; intro a _
    obtain ⟨b, h1, h2, h3⟩ := h.r8 a n9
    refine ⟨b, by simpa using h1, h2.kept hg (fun e => h3 h4 hn e.symm), fun _ c => ?_⟩
    rw [also_self] at c
    cases c
  · rw [e9]; intro a; cases a
  · rw [e4]; intro _; exact h4
  · rw [e9]; intro a; cases a
theorem RI.s9 (h : RI w0 l s p done w) (h6 : done 6 = true) (h8 : done 8 = true) (hn : done 9 = false) {v' : Value} (ho : OwnS w0.heap.size w' v' (l ++ [s])) (hg : w.grownBy w' (p 6).ownBlock) : RI w0 l s (fun j => if j = 9 then v' else p j) (also done 9) w' := by
  have e4 : also done 9 4 = done 4 := also_other (by omega)
  have e6 : also done 9 6 = done 6 := also_other (by omega)
  have e8 : also done 9 8 = done 8 := also_other (by omega)
  constructor
  · exact h.bel.trans (OwnS.grown_below (h.r6 h6 hn) h.bel.size hg)
  · rw [e6, h6]; intro _ b; cases b
  · rw [also_self]; intro _ b; cases b
  · rw [also_self]; intro _ b; cases b
  · intro _; simpa using ho
  · rw [e4, e6]; exact h.o6
  · rw [e6, e8]; intro _; exact ⟨h6, h8⟩
theorem sets_one {b : Nat} (h : HoldsS w b s) : SetsAt w (.slice (some ⟨b, 0, none⟩) 1 1) [s] := by
  refine ⟨_, 1, rfl, fun _ => ⟨b, 0, rfl, fun i f hi => ?_⟩⟩
  obtain rfl : i = 0 := by have := (List.getElem?_eq_some_iff.1 hi).1; simp at this; omega
  obtain rfl : f = s := by simpa using hi.symm
  exact h.cells

theorem refine_made (l : List (Nat → Bool)) (s : Nat → Bool) (w : World) : Calls Try.prog 29 #[cv (mk l).1 (mk l).2, sv s] w fun e w' => e = .returned (cv (mk (l ++ [s])).1 (mk (l ++ [s])).2) ∧ Below w.heap.size w w' := by
  have h := refine_any (mk l).1 (mk l).2 s w (mk_range l)
  rw [mk_right, if_pos rfl] at h
  rw [mk_snoc]
  exact h

set_option maxRecDepth 100000 in
set_option maxHeartbeats 4000000 in
theorem classesRefine_short (l : List (Nat → Bool)) (v : Value) (s : Nat → Bool) (o : Nat → Int) (n : Int) (w : World) (hv : SetsAt w v l) (ho : ∀ i, i < 256 → 0 ≤ o i ∧ o i < 256) (hlen : l.length ≤ 30) :
    Calls Try.prog 7 #[v, sv s, cv o n] w fun e w' => e = .returned (.bool true) ∧ Below w.heap.size w w' := by
  have hv0 := hv
  obtain ⟨a, cap, rfl, hs⟩ := hv
  clear hs
  have hd : decide ((30 : Int) < (l.length : Int)) = false := by simp; omega
  have hS0 := (HoldsS.made w s).alloc (cob o n)
  have hO0 := HoldsC.made (w.alloc (sob s)) o n (b := w.heap.size + 1) (by simp)
  have HO := Lib.hid ho
  obtain ⟨rr, hrr⟩ : ∃ r, rightB o n = r := ⟨_, rfl⟩
  have hRe := Lib.hid (fun w => refine_any o n s w ho)
  have hlR := Lib.hid (fun w => lawRight_any o n w ho)
  have hcR := Lib.hid (fun w => clsRight_any o n w ho)
  rw [hrr] at hRe hlR hcR
  clear ho
  obtain ⟨x, hx, hxr⟩ : ∃ x : (Nat → Int) × Int, (if rr then cv (parted (o, n) s).1 (parted (o, n) s).2 else cv (fun _ => 0) 0) = cv x.1 x.2 ∧ (rr = true → ∀ w, Calls Try.prog 27 #[cv x.1 x.2] w fun e w' => e = .returned (.bool true) ∧ Below w.heap.size w w') ∧ (rr = false → x = (fun _ => 0, 0)) := by
    cases rr
    · exact ⟨(fun _ => 0, 0), rfl, (fun h => by cases h), fun _ => rfl⟩
    · refine ⟨parted (o, n) s, rfl, (fun _ w => ?_), (fun h => by cases h)⟩
      have := lawRight_any (parted (o, n) s).1 (parted (o, n) s).2 w (fun i hi => spl_range _ i hi)
      rwa [parted_right] at this
  rw [hx] at hRe
  replace hxr := Lib.hid hxr
  clear hx
  go_enter Try.func7, Try.ntmps7
  go_wp2_with (first | (go_at_call 24; refine (awake2 _).mono ?_; rintro e w1 ⟨rfl, hb1⟩; have hO1 := hO0.below hb1 (by simp); have hS1 := hS0.below hb1 (by simp; omega); obtain ⟨q0, q1, q2, q3⟩ := hS1.cells) | (refine wpList_load_cls rfl (.tmp 5) rfl rfl hO1 ?_) | (go_at_call 29; refine (hRe.out _).mono ?_; rintro e w2 ⟨rfl, hb2⟩; have hX2 := HoldsC.made w2 (fun _ => 0) 0 rfl) | (refine wpList_store_cls rfl (.tmp 7) (.tmp 18) rfl rfl rfl hX2 ?_; intro w3 hX3 hg3))
  have hs1 := hb1.size
  have hs2 := hb2.size
  simp at hs1
  have hb3 := below_grown hg3 (n := w.heap.size) (by omega) (by simp; omega)
  have hbl3 : Below w.heap.size w w3 := (by repeat (first | exact Below.refl _ _ | assumption | refine Below.drew ?_ | refine below_drewN' ?_ _ | refine Below.setCell ?_ (by first | omega | (simp; done) | (simp; omega)) _ | refine Below.alloc ?_ (by first | omega | (simp; done) | (simp; omega)) _ | refine Below.trans ?_ (Below.mono (by assumption) (by first | omega | (simp; done) | (simp; omega)))))
  have hs3 := hg3.size
  simp at hs3
  have hO3 := ((hO1.below hb2 (by omega)).alloc (cob (fun _ => 0) 0)).kept hg3 (by simp; omega)
  have hS3 := ((hS1.below hb2 (by omega)).alloc (cob (fun _ => 0) 0)).kept hg3 (by simp; omega)
  have fO : ∀ w', (∃ u : Wk w3.heap.size w3, w' = u.val) → HoldsC w' (w.heap.size + 1) o n := fun w' ⟨u, hu⟩ => hu ▸ hO3.below u.ok hO3.lt
  have fX : ∀ w', (∃ u : Wk w3.heap.size w3, w' = u.val) → HoldsC w' w2.heap.size x.1 x.2 := fun w' ⟨u, hu⟩ => hu ▸ hX3.below u.ok hX3.lt
  clear q0 q1 q2 q3 hb1 hb2 hb3 hg3 hX2 hO1 hS1 hS0 hO0
  cases rr
  case' false =>
    obtain rfl := hxr.out.2 rfl
    simp only [Act.put]
    refine wp_region_class (fun w' => ∃ u : Wk w3.heap.size w3, w' = u.val) (by kernel_rfl) (by kernel_rfl) ⟨⟨_, (Below.refl _ _).drew⟩, rfl⟩ ?_
    repeat (first | (go_big_quiet_want; (first | (refine quiet_load_cls (.tmp 5) rfl rfl fO ?_) | (refine quiet_load_cls (.tmp 7) rfl rfl fX ?_)); go_simp; go_big_quiet_on) | go_big_quiet_step (first | (go_at_call 28; exact wk_call (Nat.le_refl _) _ (hcR.out _)) | (go_at_call 27; first | (with_reducible exact wk_call (Nat.le_refl _) _ (hlR.out _)) | (with_reducible exact wk_call (Nat.le_refl _) _ (hxr1.out _)))))
    refine wpQuiet_nil ?_
    rintro w' ⟨u, rfl⟩
    go_wp2_with fail
  case' true =>
    have hxr1 := Lib.hid (hxr.out.1 rfl)
    simp only [Act.put]
    refine wp_region_class (fun w' => ∃ u : Wk w3.heap.size w3, w' = u.val) (by kernel_rfl) (by kernel_rfl) ⟨⟨_, (Below.refl _ _).drew⟩, rfl⟩ ?_
    repeat (first | (go_big_quiet_want; (first | (refine quiet_load_cls (.tmp 5) rfl rfl fO ?_) | (refine quiet_load_cls (.tmp 7) rfl rfl fX ?_)); go_simp; go_big_quiet_on) | go_big_quiet_step (first | (go_at_call 28; exact wk_call (Nat.le_refl _) _ (hcR.out _)) | (go_at_call 27; first | (with_reducible exact wk_call (Nat.le_refl _) _ (hlR.out _)) | (with_reducible exact wk_call (Nat.le_refl _) _ (hxr1.out _)))))
    refine wpQuiet_nil ?_
    rintro w' ⟨u, rfl⟩
    go_wp2_with fail
  all_goals
    have hbu := u.ok
    have hblu := hbl3.trans (hbu.mono hbl3.size)
    have hSu := hS3.below hbu hS3.lt
    have hvu := hv0.below hblu (Nat.le_refl _)
    clear fO fX hO3 hS3 hX3
    generalize u.val = wu at *
    refine wp_region_inv (σ := Nat → Value) (rv (.slice a l.length cap) l s) (RI wu l s) (by kernel_rfl) (by kernel_rfl) (by kernel_rfl) (by kernel_rfl) (by rfl) (fun _ => undef) ?_ ⟨?_, ?_, ?_, ?_, ?_, ?_, ?_, ?_, ?_, ?_, ?_, ?_, ?_, trivial⟩ ?_
    · exact ⟨(Below.refl _ _).drew, (fun h => by cases h), (fun h => by cases h), (fun h => by cases h), (fun h => by cases h), (fun h => by cases h), (fun h => by cases h)⟩
    · intro p done a' wx hI hn ha hv
      exact wp_move (.tmp 0) rfl (hv.out 0 rfl) ⟨p, rfl, fun _ _ => rfl, hI.quiet (Below.refl _ _) (by omega) (by omega) (by omega) (by omega)⟩
    · intro p done a' wx hI hn ha hv
      have e0 : a'.eval (.tmp 43) = .slice a l.length cap := hv.inn 0 _ 43 rfl rfl (ha ⟨0, .data⟩ (by simp) rfl)
      refine wp_call 25 enter25 #[.tmp 43] #[38] rfl ?_
      simp only [List.map_toArray, List.map_cons, List.map_nil, e0]
      refine (make_any l _ wx (hvu.below hI.bel (Nat.le_refl _)) (by omega)).mono ?_
      rintro e w' ⟨rfl, hb⟩
      exact ⟨_, rfl, p, rfl, fun _ _ => rfl, hI.quiet hb (by omega) (by omega) (by omega) (by omega)⟩
    · intro p done a' wx hI hn ha hv
      exact wp_load_set (.tmp 4) rfl (b := w.heap.size) (f := s) (hv.out 4 rfl) (hSu.below hI.bel hSu.lt) ⟨p, rfl, fun _ _ => rfl, hI.quiet (Below.refl _ _) (by omega) (by omega) (by omega) (by omega)⟩
    · intro p done a' wx hI hn ha hv
      have e1 : a'.eval (.tmp 44) = cv (mk l).1 (mk l).2 := hv.inn 1 _ 44 rfl rfl (ha ⟨1, .data⟩ (by simp) rfl)
      have e2 : a'.eval (.tmp 45) = sv s := hv.inn 2 _ 45 rfl rfl (ha ⟨2, .data⟩ (by simp) rfl)
      refine wp_call 29 enter29 #[.tmp 44, .tmp 45] #[41, 26] rfl ?_
      simp only [List.map_toArray, List.map_cons, List.map_nil, e1, e2]
      refine (refine_made l s wx).mono ?_
      rintro e w' ⟨rfl, hb⟩
      exact ⟨_, rfl, p, rfl, fun _ _ => rfl, hI.quiet hb (by omega) (by omega) (by omega) (by omega)⟩
    · intro p done a' wx hI hn ha hv
      exact wp_bs0 rfl ⟨fun j => if j = 4 then .slice (some ⟨wx.heap.size, 0, none⟩) 0 0 else p j, rfl, (fun j hj => rv_congr (fun e => by rw [e, hn] at hj; cases hj)), hI.s4 hn⟩
    · intro p done a' wx hI hn ha hv
      exact wp_move (.tmp 0) rfl (hv.out 0 rfl) ⟨p, rfl, fun _ _ => rfl, hI.quiet (Below.refl _ _) (by omega) (by omega) (by omega) (by omega)⟩
    · intro p done a' wx hI hn ha hv
      have d4 : done 4 = true := ha ⟨4, .data⟩ (by simp) rfl
      obtain ⟨v', w', hr, ho', hg', _⟩ := app_sets (hI.r4 d4 hn) (hvu.below hI.bel (Nat.le_refl _)) hI.bel.size (by simp; omega) 38
      exact wp_append (.tmp 47) (.tmp 48) 38 rfl (hv.inn 4 _ 47 rfl rfl d4) (hv.inn 5 _ 48 rfl rfl (ha ⟨5, .data⟩ (by simp) rfl)) hr ⟨fun j => if j = 6 then v' else p j, rfl, (fun j hj => rv_congr (fun e => by rw [e, hn] at hj; cases hj)), hI.s6 d4 hn (by simpa using ho') hg'⟩
    · intro p done a' wx hI hn ha hv
      exact wp_load_set (.tmp 4) rfl (b := w.heap.size) (f := s) (hv.out 4 rfl) (hSu.below hI.bel hSu.lt) ⟨p, rfl, fun _ _ => rfl, hI.quiet (Below.refl _ _) (by omega) (by omega) (by omega) (by omega)⟩
    · intro p done a' wx hI hn ha hv
      exact wp_bs1 (.tmp 50) rfl (hv.inn 7 _ 50 rfl rfl (ha ⟨7, .data⟩ (by simp) rfl)) ⟨fun j => if j = 8 then .slice (some ⟨wx.heap.size, 0, none⟩) 1 1 else p j, rfl, (fun j hj => rv_congr (fun e => by rw [e, hn] at hj; cases hj)), hI.s8 hn⟩
    · intro p done a' wx hI hn ha hv
      have d6 : done 6 = true := ha ⟨6, .data⟩ (by simp) rfl
      have d8 : done 8 = true := ha ⟨8, .data⟩ (by simp) rfl
      obtain ⟨b8, h81, h82, _⟩ := hI.r8 d8 hn
      obtain ⟨v', w', hr, ho', hg', _⟩ := app_sets (hI.r6 d6 hn) (sets_one h82) hI.bel.size (by simp; omega) 38
      exact wp_append (.tmp 49) (.tmp 51) 38 rfl (hv.inn 6 _ 49 rfl rfl d6) ((hv.inn 8 _ 51 rfl rfl d8).trans h81) hr ⟨fun j => if j = 9 then v' else p j, rfl, (fun j hj => rv_congr (fun e => by rw [e, hn] at hj; cases hj)), hI.s9 d6 d8 hn ho' hg'⟩
    · intro p done a' wx hI hn ha hv
      have d9 : done 9 = true := ha ⟨9, .data⟩ (by simp) rfl
      have e9 : a'.eval (.tmp 52) = p 9 := hv.inn 9 _ 52 rfl rfl d9
      refine wp_call 25 enter25 #[.tmp 52] #[38] rfl ?_
      simp only [List.map_toArray, List.map_cons, List.map_nil, e9]
      refine (make_any (l ++ [s]) _ wx (hI.r9 d9).sets (by simp; omega)).mono ?_
      rintro e w' ⟨rfl, hb⟩
      exact ⟨_, rfl, p, rfl, fun _ _ => rfl, hI.quiet hb (by omega) (by omega) (by omega) (by omega)⟩
    · intro p done a' wx hI hn ha hv
      have e3 : a'.eval (.tmp 46) = cv (mk (l ++ [s])).1 (mk (l ++ [s])).2 := hv.inn 3 _ 46 rfl rfl (ha ⟨3, .data⟩ (by simp) rfl)
      have e10 : a'.eval (.tmp 53) = cv (mk (l ++ [s])).1 (mk (l ++ [s])).2 := hv.inn 10 _ 53 rfl rfl (ha ⟨10, .data⟩ (by simp) rfl)
      refine wp_eql_cls (.tmp 46) (.tmp 53) rfl e3 e10 ?_
      exact ⟨p, rfl, fun _ _ => rfl, hI.quiet (Below.refl _ _) (by omega) (by omega) (by omega) (by omega)⟩
    · intro p done a' wx hI hn ha hv
      have e11 : a'.eval (.tmp 54) = .bool true := hv.inn 11 _ 54 rfl rfl (ha ⟨11, .data⟩ (by simp) rfl)
      refine wp_assign (.tmp 54) rfl e11 ?_
      exact ⟨p, rfl, fun _ _ => rfl, hI.quiet (Below.refl _ _) (by omega) (by omega) (by omega) (by omega)⟩
    · intro p done w4 hI hall
      have hbe := hblu.trans (hI.bel.mono hblu.size)
      simp only [fill, if_true, rv]
      generalize mk (l ++ [s]) = c2
      generalize mk l = c1
      clear hI hall hxr
      simp only [Act.put, List.setIfInBounds_toArray, List.set_cons_zero, List.set_cons_succ]
      go_wp2_with fail
      go_ret
      exact ⟨rfl, hbe⟩

set_option maxRecDepth 100000 in
set_option maxHeartbeats 400000 in
theorem classesRefine_long (n : Nat) (a : Option Addr) (cap : Nat) (s : Nat → Bool) (o : Nat → Int) (k : Int) (w : World) (hn : 30 < n) (hm : n ≤ maxLen) :
    Calls Try.prog 7 #[.slice a n cap, sv s, cv o k] w fun e w' => e = .returned (.bool true) ∧ Below w.heap.size w w' := by
  unfold maxLen at hm
  have hd : decide ((30 : Int) < (n : Int)) = true := by simp; omega
  go_enter Try.func7, Try.ntmps7
  go_wp2_with fail
  refine (awake2 _).mono ?_
  rintro e w1 ⟨rfl, hb1⟩
  go_wp2_with fail
  refine (awake2 _).mono ?_
  rintro e w2 ⟨rfl, hb2⟩
  have hs1 := hb1.size
  simp at hs1
  go_wp2_with fail
  go_ret
  exact ⟨rfl, (by repeat (first | exact Below.refl _ _ | assumption | refine Below.drew ?_ | refine below_drewN' ?_ _ | refine Below.setCell ?_ (by first | omega | (simp; done) | (simp; omega)) _ | refine Below.alloc ?_ (by first | omega | (simp; done) | (simp; omega)) _ | refine Below.trans ?_ (Below.mono (by assumption) (by first | omega | (simp; done) | (simp; omega)))))⟩

theorem classesRefine_any (l : List (Nat → Bool)) (v : Value) (s : Nat → Bool) (o : Nat → Int) (k : Int) (w : World) (hv : SetsAt w v l) (ho : ∀ i, i < 256 → 0 ≤ o i ∧ o i < 256) (hm : l.length ≤ maxLen) :
    Calls Try.prog 7 #[v, sv s, cv o k] w fun e w' => e = .returned (.bool true) ∧ Below w.heap.size w w' := by
  rcases Nat.lt_or_ge 30 l.length with h | h
  · obtain ⟨a, cap, rfl, _⟩ := hv
    exact classesRefine_long l.length a cap s o k w h hm
  · exact classesRefine_short l v s o k w hv ho h

end Go.Proofs.Ytbmejpghoafapaa
