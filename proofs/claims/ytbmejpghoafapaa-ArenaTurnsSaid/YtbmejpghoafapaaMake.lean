/-
  The walks of classes.Make, classes.Refine, bolterlaw02.awake, bolterref01.Alike.
-/
import Derived.Test.YtbmejpghoafapaaSplit
namespace Go.Proofs.Ytbmejpghoafapaa
open Go.RowKit

attribute [go_sem] cvA_setN cvA_size cvA_n

/-- A slice of sets that reads as a list. -/
def SetsAt (w : World) (v : Value) (l : List (Nat → Bool)) : Prop :=
  ∃ a cap, v = .slice a l.length cap ∧ (l ≠ [] → ∃ b off, a = some ⟨b, off, none⟩ ∧ ∀ i f, l[i]? = some f →
    w.cell? ⟨b, off + i * 4, none⟩ = some (.int .u64 (wd f 0)) ∧ w.cell? ⟨b, off + i * 4 + 1, none⟩ = some (.int .u64 (wd f 1)) ∧ w.cell? ⟨b, off + i * 4 + 2, none⟩ = some (.int .u64 (wd f 2)) ∧ w.cell? ⟨b, off + i * 4 + 3, none⟩ = some (.int .u64 (wd f 3)))
theorem SetsAt.below {w w' : World} {n : Nat} {v : Value} {l : List (Nat → Bool)} (h : SetsAt w v l) (hb : Below n w w') (hn : w.heap.size ≤ n) : SetsAt w' v l := by
  obtain ⟨a, cap, rfl, hs⟩ := h
  refine ⟨a, cap, rfl, fun hl => ?_⟩
  obtain ⟨b, off, rfl, hc⟩ := hs hl
  refine ⟨b, off, rfl, fun i f hi => ?_⟩
  obtain ⟨h0, h1, h2, h3⟩ := hc i f hi
  exact ⟨cell_later (hb.mono hn) h0, cell_later (hb.mono hn) h1, cell_later (hb.mono hn) h2, cell_later (hb.mono hn) h3⟩

theorem refHas_val {f : Nat → Bool} {b : Int} {v : Bool} (hv : f b.toNat = v) (w : World) (h0 : 0 ≤ b) (h1 : b < 256) :
    Calls Try.prog 17 #[sv f, .int .i64 b] w fun e w' => e = .returned (.bool v) ∧ Below w.heap.size w w' := by rw [← hv]; exact refHas_any f b w h0 h1

/-- One more set parts the classes. -/
def parted (c : (Nat → Int) × Int) (s : Nat → Bool) : (Nat → Int) × Int := (spl (prOf c.1 s) 256, ((reps (prOf c.1 s) 256).length : Int))
/-- The classes of some sets. -/
def mk (l : List (Nat → Bool)) : (Nat → Int) × Int := l.foldl parted (fun _ => 0, 1)
theorem mk_nil : mk [] = (fun _ => 0, 1) := rfl
theorem mk_snoc (l : List (Nat → Bool)) (s : Nat → Bool) : mk (l ++ [s]) = parted (mk l) s := by simp [mk]
theorem mk_take (l : List (Nat → Bool)) (k : Nat) (s : Nat → Bool) (h : l[k]? = some s) : mk (l.take (k + 1)) = parted (mk (l.take k)) s := by
  obtain ⟨hk, rfl⟩ := List.getElem?_eq_some_iff.1 h
  rw [List.take_succ_eq_append_getElem hk, mk_snoc]
theorem spl_range (pr : Nat → Int × Bool) (i : Nat) (h : i < 256) : 0 ≤ spl pr 256 i ∧ spl pr 256 i < 256 := by
  unfold spl
  rw [if_pos h]
  have hm : pr i ∈ reps pr 256 := by
    have := reps_mem pr i (256 - (i + 1))
    rwa [show i + 1 + (256 - (i + 1)) = 256 from by omega] at this
  have h1 := num_lt hm
  have h2 := reps_len pr 256
  omega
theorem mk_range (l : List (Nat → Bool)) : ∀ i, i < 256 → 0 ≤ (mk l).1 i ∧ (mk l).1 i < 256 := by
  intro i hi
  rcases List.eq_nil_or_concat l with rfl | ⟨l', s, rfl⟩
  · simp [mk_nil]
  · rw [List.concat_eq_append, mk_snoc]
    exact spl_range _ i hi

set_option maxRecDepth 100000 in
set_option maxHeartbeats 2000000 in
theorem make_any (l : List (Nat → Bool)) (v : Value) (w : World) (hv : SetsAt w v l) (hlen : l.length ≤ 1000000) :
    Calls Try.prog 25 #[v] w fun e w' => e = .returned (cv (mk l).1 (mk l).2) ∧ Below w.heap.size w w' := by
  obtain ⟨a, cap, rfl, hs⟩ := hv
  have hR0 := (HoldsC.made w (fun _ => 0) 0 rfl).alloc (cob (fun _ => 0) 0)
  have hC0 := HoldsC.made (w.alloc (cob (fun _ => 0) 0)) (fun _ => 0) 0 (b := w.heap.size + 1) (by simp)
  go_enter Try.func25, Try.ntmps25
  go_wp2_with (first | (refine wpList_store_cls rfl (.tmp 3) (.tmp 6) rfl rfl rfl hC0 ?_; intro w1 hC1 hg1))
  have hb1 := below_grown hg1 (n := w.heap.size) (by omega) (by simp; omega)
  have hR1 := hR0.kept hg1 (by simp)
  have hs1 := hg1.size
  simp at hs1
  clear hC0 hR0
  go_loopw [9] (fun i wr => ∃ k : Nat, k ≤ l.length ∧ i = .int .i64 k ∧ Below w.heap.size w wr ∧ HoldsC wr w.heap.size (fun _ => 0) 0 ∧ HoldsC wr (w.heap.size + 1) (mk (l.take k)).1 (mk (l.take k)).2) (fun i _ => (1000000 - intOf i).toNat)
  case atStart => exact ⟨0, by omega, rfl, (by repeat (first | exact Below.refl _ _ | assumption | refine Below.drew ?_ | refine below_drewN' ?_ _ | refine Below.setCell ?_ (by first | omega | (simp; done) | (simp; omega)) _ | refine Below.alloc ?_ (by first | omega | (simp; done) | (simp; omega)) _ | refine Below.trans ?_ (Below.mono (by assumption) (by first | omega | (simp; done) | (simp; omega))))), hR1, hC1⟩
  case round =>
    clear hR1 hC1 hb1
    obtain ⟨k, hk, rfl, hbl, hR, hC⟩ := hrel
    by_cases hlt : k < l.length
    · obtain ⟨b, off, rfl, hc⟩ := hs (by intro e; rw [e] at hlt; simp at hlt)
      obtain ⟨s, hsk⟩ : ∃ s, l[k]? = some s := ⟨l[k], List.getElem?_eq_getElem hlt⟩
      obtain ⟨c0, c1, c2, c3⟩ := hc k s hsk
      replace c0 := cell_later hbl c0
      replace c1 := cell_later hbl c1
      replace c2 := cell_later hbl c2
      replace c3 := cell_later hbl c3
      have hst := Lib.hid (mk_take l k s hsk)
      have hrg := Lib.hid (mk_range (l.take k))
      clear hc hs hsk
      generalize mk (l.take k) = c at *
      have hCn := hC.alloc (sob s)
      have hsz := hbl.size
      have hltc := hC.lt
      go_wp2_with (first | (refine wpList_load_cls rfl (.tmp 3) rfl rfl hCn ?_) | (go_at_call 45; refine (split_any _ _ _ _ hrg.out).mono ?_; rintro e w2 ⟨rfl, hb2⟩) | (refine wpList_store_cls rfl (.tmp 3) (.tmp 15) rfl rfl rfl (hCn.below hb2 (by simp; omega)) ?_; intro w3 hC3 hg3))
      have hs2 := hb2.size
      simp at hs2
      have hb3 := below_grown hg3 (n := w.heap.size) (by omega) (by omega)
      go_round
      case rel => exact ⟨k + 1, by omega, by go_num, (by repeat (first | exact Below.refl _ _ | assumption | refine Below.drew ?_ | refine below_drewN' ?_ _ | refine Below.setCell ?_ (by first | omega | (simp; done) | (simp; omega)) _ | refine Below.alloc ?_ (by first | omega | (simp; done) | (simp; omega)) _ | refine Below.trans ?_ (Below.mono (by assumption) (by first | omega | (simp; done) | (simp; omega))))), ((hR.alloc _).below hb2 (by simp; omega)).kept hg3 (by simp), by rw [hst.out]; exact hC3⟩
      case measure => simp [intOf]; omega
    · have hE : Hid (mk (l.take k) = mk l) := Lib.hid (by rw [List.take_of_length_le (by omega)])
      clear hs
      generalize mk (l.take k) = c at *
      go_wp2_with (first | (refine wpList_load_cls rfl (.tmp 3) rfl rfl hC ?_) | (refine wpList_store_cls rfl (.tmp 2) (.tmp 17) rfl rfl rfl hR ?_; intro w3 hR3 hg3))
      have hb3 := below_grown hg3 (n := w.heap.size) (by omega) hbl.size
      exact ret_cls rfl rfl hR3 rfl ⟨by rw [hE.out], hbl.trans hb3⟩

set_option maxRecDepth 100000 in
set_option maxHeartbeats 400000 in
theorem awake2 (w : World) : Calls Try.prog 24 #[] w fun e w' => e = .returned (.bool true) ∧ Below w.heap.size w w' := by
  have hm := mk_nil
  go_enter Try.func24, Try.ntmps24
  go_wp2_with fail
  refine (make_any [] _ _ ⟨none, 0, rfl, fun h => (h rfl).elim⟩ (by simp)).mono ?_
  rintro e w1 ⟨rfl, hb1⟩
  rw [hm]
  have hf : (Instr.field 41 (cv (fun _ => 0) 1) 1).run Try.prog w1 = .ok (.int .i64 1) w1 := by kernel_rfl
  go_wp2_with fail
  go_ret
  exact ⟨rfl, hb1⟩

set_option maxRecDepth 100000 in
set_option maxHeartbeats 1000000 in
theorem refine_any (o : Nat → Int) (n : Int) (s : Nat → Bool) (w : World) (ho : ∀ i, i < 256 → 0 ≤ o i ∧ o i < 256) :
    Calls Try.prog 29 #[cv o n, sv s] w fun e w' => e = .returned (if rightB o n then cv (parted (o, n) s).1 (parted (o, n) s).2 else cv (fun _ => 0) 0) ∧ Below w.heap.size w w' := by
  have hO0 := ((HoldsC.made w o n rfl).alloc (sob s)).alloc (cob (fun _ => 0) 0)
  have hS0 := (HoldsS.made (w.alloc (cob o n)) s).alloc (cob (fun _ => 0) 0)
  have hR0 := HoldsC.made ((w.alloc (cob o n)).alloc (sob s)) (fun _ => 0) 0 (b := w.heap.size + 1 + 1) (by simp)
  rw [World.size_alloc] at hS0
  cases hr : rightB o n
  · have HE : Hid ((if rightB o n then cv (parted (o, n) s).1 (parted (o, n) s).2 else cv (fun _ => 0) 0) = cv (fun _ => 0) 0) := Lib.hid (by rw [hr]; rfl)
    have HR := Lib.hid hr
    clear hr
    go_enter Try.func29, Try.ntmps29
    go_wp2_with (first | (refine wpList_load_cls rfl (.tmp 2) rfl rfl hO0 ?_) | (go_at_call 28; refine (clsRight_any _ _ _ ho).mono ?_; rw [HR.out]; rintro e w2 ⟨rfl, hb2⟩) | (refine wpList_store_cls rfl (.tmp 4) (.tmp 8) rfl rfl rfl (hR0.below hb2 (by simp)) ?_; intro w3 hR3 hg3))
    have hs2 := hb2.size
    simp at hs2
    have hb3 := below_grown hg3 (n := w.heap.size) (by omega) (by omega)
    exact ret_cls rfl rfl hR3 rfl ⟨by rw [← HE.out, HR.out], (by repeat (first | exact Below.refl _ _ | assumption | refine Below.drew ?_ | refine below_drewN' ?_ _ | refine Below.setCell ?_ (by first | omega | (simp; done) | (simp; omega)) _ | refine Below.alloc ?_ (by first | omega | (simp; done) | (simp; omega)) _ | refine Below.trans ?_ (Below.mono (by assumption) (by first | omega | (simp; done) | (simp; omega)))))⟩
  · have HE : Hid ((if rightB o n then cv (parted (o, n) s).1 (parted (o, n) s).2 else cv (fun _ => 0) 0) = cv (parted (o, n) s).1 (parted (o, n) s).2) := Lib.hid (by rw [hr]; rfl)
    have HR := Lib.hid hr
    clear hr
    go_enter Try.func29, Try.ntmps29
    go_wp2_with (first | (refine wpList_load_cls rfl (.tmp 2) rfl rfl hO0 ?_) | (go_at_call 28; refine (clsRight_any _ _ _ ho).mono ?_; rw [HR.out]; rintro e w2 ⟨rfl, hb2⟩; have hS2 := hS0.below hb2 (by simp); obtain ⟨c0, c1, c2, c3⟩ := hS2.cells) | (refine wpList_load_cls rfl (.tmp 2) rfl rfl (hO0.below hb2 (by simp; omega)) ?_) | (go_at_call 45; refine (split_any _ _ _ _ ho).mono ?_; rintro e w4 ⟨rfl, hb4⟩) | (refine wpList_store_cls rfl (.tmp 4) (.tmp 11) rfl rfl rfl ((hR0.below hb2 (by simp)).below hb4 (by have := hb2.size; simp at this; omega)) ?_; intro w3 hR3 hg3))
    have hs2 := hb2.size
    have hs4 := hb4.size
    simp at hs2
    have hb3 := below_grown hg3 (n := w.heap.size) (by omega) (by omega)
    exact ret_cls rfl rfl hR3 rfl ⟨by rw [← HE.out, HR.out]; rfl, (by repeat (first | exact Below.refl _ _ | assumption | refine Below.drew ?_ | refine below_drewN' ?_ _ | refine Below.setCell ?_ (by first | omega | (simp; done) | (simp; omega)) _ | refine Below.alloc ?_ (by first | omega | (simp; done) | (simp; omega)) _ | refine Below.trans ?_ (Below.mono (by assumption) (by first | omega | (simp; done) | (simp; omega)))))⟩

set_option maxRecDepth 100000 in
set_option maxHeartbeats 2000000 in
theorem alike_any (l : List (Nat → Bool)) (v : Value) (x y : Int) (w : World) (hv : SetsAt w v l) (hlen : l.length ≤ 1000000) (hx : 0 ≤ x ∧ x < 256) (hy : 0 ≤ y ∧ y < 256) :
    Calls Try.prog 26 #[v, .int .i64 x, .int .i64 y] w fun e w' => e = .returned (.bool (l.all fun f => f x.toNat == f y.toNat)) ∧ Below w.heap.size w w' := by
  obtain ⟨a, cap, rfl, hs⟩ := hv
  obtain ⟨hx0, hx1⟩ := hx
  obtain ⟨hy0, hy1⟩ := hy
  go_enter Try.func26, Try.ntmps26
  go_wp2_with fail
  go_loopw [7, 10] (fun _ i wr => ∃ k : Nat, k ≤ l.length ∧ i = .int .i64 k ∧ Below w.heap.size w wr ∧ Hid ((l.take k).all (fun f => f x.toNat == f y.toNat) = true)) (fun _ i _ => (1000000 - intOf i).toNat)
  case atStart => exact ⟨0, by omega, rfl, (by repeat (first | exact Below.refl _ _ | assumption | refine Below.drew ?_ | refine below_drewN' ?_ _ | refine Below.setCell ?_ (by first | omega | (simp; done) | (simp; omega)) _ | refine Below.alloc ?_ (by first | omega | (simp; done) | (simp; omega)) _ | refine Below.trans ?_ (Below.mono (by assumption) (by first | omega | (simp; done) | (simp; omega))))), Lib.hid (by simp)⟩
  case round =>
    obtain ⟨k, hk, rfl, hbl, hall⟩ := hrel
    by_cases hlt : k < l.length
    · obtain ⟨b, off, rfl, hc⟩ := hs (by intro e; rw [e] at hlt; simp at hlt)
      obtain ⟨s, hsk⟩ : ∃ s, l[k]? = some s := ⟨l[k], List.getElem?_eq_getElem hlt⟩
      obtain ⟨c0, c1, c2, c3⟩ := hc k s hsk
      have d0 : ∀ u : Wk wr.heap.size wr, u.val.cell? ⟨b, off + k * 4, none⟩ = _ := fun u => cell_later u.ok (cell_later hbl c0)
      have d1 : ∀ u : Wk wr.heap.size wr, u.val.cell? ⟨b, off + k * 4 + 1, none⟩ = _ := fun u => cell_later u.ok (cell_later hbl c1)
      have d2 : ∀ u : Wk wr.heap.size wr, u.val.cell? ⟨b, off + k * 4 + 2, none⟩ = _ := fun u => cell_later u.ok (cell_later hbl c2)
      have d3 : ∀ u : Wk wr.heap.size wr, u.val.cell? ⟨b, off + k * 4 + 3, none⟩ = _ := fun u => cell_later u.ok (cell_later hbl c3)
      have hmem : s ∈ l := List.mem_of_getElem? hsk
      have HA : Hid (∀ bx by', s x.toNat = bx → s y.toNat = by' → (bx = by' → (l.take (k + 1)).all (fun f => f x.toNat == f y.toNat) = true) ∧ (bx ≠ by' → l.all (fun f => f x.toNat == f y.toNat) = false)) := Lib.hid (by
        intro bx by' h1 h2
        constructor
        · intro h
          obtain ⟨hk', rfl⟩ := List.getElem?_eq_some_iff.1 hsk
          rw [List.take_succ_eq_append_getElem hk', List.all_append, hall.out]
          simp [h1, h2, h]
        · intro h
          rw [List.all_eq_false]
          exact ⟨s, hmem, by simp [h1, h2, h]⟩)
      clear hc hs hsk c0 c1 c2 c3 hmem hall
      cases hx0' : s x.toNat <;> cases hy0' : s y.toNat
      · have hX := Lib.hid hx0'
        have hY := Lib.hid hy0'
        have hR := Lib.hid (HA.out false false hx0' hy0')
        clear hx0' hy0' HA
        go_wp2_with fail
        refine wp_region_class (fun w' => ∃ u : Wk wr.heap.size wr, w' = u.val) (by kernel_rfl) (by kernel_rfl) ⟨⟨_, (Below.refl _ _).drew⟩, rfl⟩ ?_
        repeat (go_big_quiet_step (first | (go_at_call 17; first | (with_reducible exact wk_call (Nat.le_refl _) _ (refHas_val hX.out _ (by omega) (by omega))) | (with_reducible exact wk_call (Nat.le_refl _) _ (refHas_val hY.out _ (by omega) (by omega))))))
        refine wpQuiet_nil ?_
        rintro w' ⟨u, rfl⟩
        have hbu := u.ok
        have hsz := hbl.size
        go_wp2_with fail
        go_round
        case rel => exact ⟨k + 1, by omega, by go_num, (by repeat (first | exact Below.refl _ _ | assumption | refine Below.drew ?_ | refine below_drewN' ?_ _ | refine Below.setCell ?_ (by first | omega | (simp; done) | (simp; omega)) _ | refine Below.alloc ?_ (by first | omega | (simp; done) | (simp; omega)) _ | refine Below.trans ?_ (Below.mono (by assumption) (by first | omega | (simp; done) | (simp; omega))))), Lib.hid (hR.out.1 (by simp))⟩
        case measure => simp [intOf]; omega
      · have hX := Lib.hid hx0'
        have hY := Lib.hid hy0'
        have hR := Lib.hid (HA.out false true hx0' hy0')
        clear hx0' hy0' HA
        go_wp2_with fail
        refine wp_region_class (fun w' => ∃ u : Wk wr.heap.size wr, w' = u.val) (by kernel_rfl) (by kernel_rfl) ⟨⟨_, (Below.refl _ _).drew⟩, rfl⟩ ?_
        repeat (go_big_quiet_step (first | (go_at_call 17; first | (with_reducible exact wk_call (Nat.le_refl _) _ (refHas_val hX.out _ (by omega) (by omega))) | (with_reducible exact wk_call (Nat.le_refl _) _ (refHas_val hY.out _ (by omega) (by omega))))))
        refine wpQuiet_nil ?_
        rintro w' ⟨u, rfl⟩
        have hbu := u.ok
        have hsz := hbl.size
        go_wp2_with fail
        go_ret
        exact ⟨ret_bool (hR.out.2 (by simp)).symm, (by repeat (first | exact Below.refl _ _ | assumption | refine Below.drew ?_ | refine below_drewN' ?_ _ | refine Below.setCell ?_ (by first | omega | (simp; done) | (simp; omega)) _ | refine Below.alloc ?_ (by first | omega | (simp; done) | (simp; omega)) _ | refine Below.trans ?_ (Below.mono (by assumption) (by first | omega | (simp; done) | (simp; omega)))))⟩
      · have hX := Lib.hid hx0'
        have hY := Lib.hid hy0'
        have hR := Lib.hid (HA.out true false hx0' hy0')
        clear hx0' hy0' HA
        go_wp2_with fail
        refine wp_region_class (fun w' => ∃ u : Wk wr.heap.size wr, w' = u.val) (by kernel_rfl) (by kernel_rfl) ⟨⟨_, (Below.refl _ _).drew⟩, rfl⟩ ?_
        repeat (go_big_quiet_step (first | (go_at_call 17; first | (with_reducible exact wk_call (Nat.le_refl _) _ (refHas_val hX.out _ (by omega) (by omega))) | (with_reducible exact wk_call (Nat.le_refl _) _ (refHas_val hY.out _ (by omega) (by omega))))))
        refine wpQuiet_nil ?_
        rintro w' ⟨u, rfl⟩
        have hbu := u.ok
        have hsz := hbl.size
        go_wp2_with fail
        go_ret
        exact ⟨ret_bool (hR.out.2 (by simp)).symm, (by repeat (first | exact Below.refl _ _ | assumption | refine Below.drew ?_ | refine below_drewN' ?_ _ | refine Below.setCell ?_ (by first | omega | (simp; done) | (simp; omega)) _ | refine Below.alloc ?_ (by first | omega | (simp; done) | (simp; omega)) _ | refine Below.trans ?_ (Below.mono (by assumption) (by first | omega | (simp; done) | (simp; omega)))))⟩
      · have hX := Lib.hid hx0'
        have hY := Lib.hid hy0'
        have hR := Lib.hid (HA.out true true hx0' hy0')
        clear hx0' hy0' HA
        go_wp2_with fail
        refine wp_region_class (fun w' => ∃ u : Wk wr.heap.size wr, w' = u.val) (by kernel_rfl) (by kernel_rfl) ⟨⟨_, (Below.refl _ _).drew⟩, rfl⟩ ?_
        repeat (go_big_quiet_step (first | (go_at_call 17; first | (with_reducible exact wk_call (Nat.le_refl _) _ (refHas_val hX.out _ (by omega) (by omega))) | (with_reducible exact wk_call (Nat.le_refl _) _ (refHas_val hY.out _ (by omega) (by omega))))))
        refine wpQuiet_nil ?_
        rintro w' ⟨u, rfl⟩
        have hbu := u.ok
        have hsz := hbl.size
        go_wp2_with fail
        go_round
        case rel => exact ⟨k + 1, by omega, by go_num, (by repeat (first | exact Below.refl _ _ | assumption | refine Below.drew ?_ | refine below_drewN' ?_ _ | refine Below.setCell ?_ (by first | omega | (simp; done) | (simp; omega)) _ | refine Below.alloc ?_ (by first | omega | (simp; done) | (simp; omega)) _ | refine Below.trans ?_ (Below.mono (by assumption) (by first | omega | (simp; done) | (simp; omega))))), Lib.hid (hR.out.1 (by simp))⟩
        case measure => simp [intOf]; omega
    · have hE : Hid ((l.all fun f => f x.toNat == f y.toNat) = true) := Lib.hid (by have := hall.out; rwa [List.take_of_length_le (by omega)] at this)
      clear hs hall
      go_wp2_with fail
      go_ret
      exact ⟨ret_bool hE.out.symm, hbl⟩

end Go.Proofs.Ytbmejpghoafapaa
