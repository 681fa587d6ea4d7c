/-
  Plain facts on classes, and the walk of the law bolterlaw02.ClassesMake.
-/
import Derived.Test.YtbmejpghoafapaaMake
namespace Go.Proofs.Ytbmejpghoafapaa
open Go.RowKit

theorem reps_in (pr : Nat → Int × Bool) (i : Nat) (h : i < 256) : pr i ∈ reps pr 256 := by
  have := reps_mem pr i (256 - (i + 1))
  rwa [show i + 1 + (256 - (i + 1)) = 256 from by omega] at this
theorem spl_eq (pr : Nat → Int × Bool) (a b : Nat) (ha : a < 256) (hb : b < 256) : spl pr 256 a = spl pr 256 b ↔ pr a = pr b := by
  unfold spl
  rw [if_pos ha, if_pos hb]
  constructor
  · intro h
    have h1 := num_at (reps_in pr a ha)
    have h2 := num_at (reps_in pr b hb)
    have h3 : num (reps pr 256) (pr a) = num (reps pr 256) (pr b) := by omega
    rw [h3, h2] at h1
    exact (Option.some.inj h1).symm
  · intro h
    rw [h]
theorem mk_apart (l : List (Nat → Bool)) (a b : Nat) (ha : a < 256) (hb : b < 256) : ((mk l).1 a == (mk l).1 b) = l.all (fun f => f a == f b) := by
  rcases List.eq_nil_or_concat l with rfl | ⟨l', s, rfl⟩
  · simp [mk_nil]
  · have ih := mk_apart l' a b ha hb
    rw [List.concat_eq_append, mk_snoc, List.all_append, ← ih, Bool.eq_iff_iff]
    simp only [parted, beq_iff_eq, Bool.and_eq_true, List.all_cons, List.all_nil, and_true]
    rw [spl_eq _ a b ha hb]
    simp [prOf]
  termination_by l.length
  decreasing_by subst_vars; simp
theorem rt_spl (pr : Nat → Int × Bool) (k : Nat) (hk : k ≤ 256) : rt (spl pr 256) k = some ((reps pr k).length : Int) := by
  induction k with
  | zero => rfl
  | succ k ih =>
    have ih := ih (by omega)
    have e : spl pr 256 k = (num (reps pr (k + 1)) (pr k) : Int) := by
      unfold spl
      rw [if_pos (by omega)]
      have := reps_num pr k (k + 1) (by omega) (256 - (k + 1))
      rw [show k + 1 + (256 - (k + 1)) = 256 from by omega] at this
      rw [this]
    by_cases h : pr k ∈ reps pr k
    · rw [reps_old h] at e ⊢
      exact rt_old _ k _ ih (by rw [e]; have := num_lt h; omega)
    · rw [reps_new h] at e ⊢
      rw [num_snoc h] at e
      rw [rt_new _ k _ ih e]
      simp
theorem rt_zeros' : ∀ k, rt (fun _ => 0) (k + 1) = some 1
  | 0 => rfl
  | k + 1 => by rw [rt, rt_zeros' k]; rfl
theorem rt_zeros : rt (fun _ => 0) 256 = some 1 := rt_zeros' 255
theorem mk_right (l : List (Nat → Bool)) : rightB (mk l).1 (mk l).2 = true := by
  rcases List.eq_nil_or_concat l with rfl | ⟨l', s, rfl⟩
  · simp [mk_nil, rightB, rt_zeros]
  · rw [List.concat_eq_append, mk_snoc]
    simp [rightB, parted, rt_spl]
theorem parted_right (c : (Nat → Int) × Int) (s : Nat → Bool) : rightB (parted c s).1 (parted c s).2 = true := by simp [rightB, parted, rt_spl]

theorem wp_load_cls {op : Oper} {a : Act} {w : World} {K : Act → World → Prop} {Q : Exit → Act → World → Prop} (x : Operand) (ho : op.op = .load 41 x)
    {b : Nat} {o : Nat → Int} {n : Int} (hx : a.eval x = .pointer (some ⟨b, 0, none⟩)) (hB : HoldsC w b o n) (h : K (a.put op.dst (cv o n)) w) : op.wp Try.prog a w K Q :=
  wp_load_row 41 x ho b hx 41 _ (0, 0) _ hB Try.underlying41 rfl (by rw [Try.size41, cvA_size]) h

set_option maxRecDepth 100000 in
set_option maxHeartbeats 4000000 in
theorem classesMake_short (l : List (Nat → Bool)) (v : Value) (w : World) (hv : SetsAt w v l) (hlen : l.length ≤ 30) :
    Calls Try.prog 6 #[v] w fun e w' => e = .returned (.bool true) ∧ Below w.heap.size w w' := by
  have hv0 := hv
  obtain ⟨a, cap, rfl, hs⟩ := hv
  clear hs
  have hd : decide ((30 : Int) < (l.length : Int)) = false := by simp; omega
  have HRG := Lib.hid (mk_range l)
  have HAP := Lib.hid (mk_apart l)
  have HRT := Lib.hid (mk_right l)
  go_enter Try.func6, Try.ntmps6
  go_wp2_with (first | (go_at_call 24; refine (awake2 _).mono ?_; rintro e w1 ⟨rfl, hb1⟩) | (go_at_call 25; refine (make_any l _ _ (hv0.below hb1 (Nat.le_refl _)) (by omega)).mono ?_; rintro e w2 ⟨rfl, hb2⟩; generalize mk l = c at *; have hC0 := HoldsC.made w2 (fun _ => 0) 0 rfl) | (refine wpList_store_cls rfl (.tmp 3) (.tmp 15) rfl rfl rfl hC0 ?_; intro w3 hC3 hg3))
  have hs1 := hb1.size
  have hs2 := hb2.size
  have hb3 := below_grown hg3 (n := w.heap.size) (by omega) (by simp; omega)
  have hbl3 : Below w.heap.size w w3 := (by repeat (first | exact Below.refl _ _ | assumption | refine Below.drew ?_ | refine below_drewN' ?_ _ | refine Below.setCell ?_ (by first | omega | (simp; done) | (simp; omega)) _ | refine Below.alloc ?_ (by first | omega | (simp; done) | (simp; omega)) _ | refine Below.trans ?_ (Below.mono (by assumption) (by first | omega | (simp; done) | (simp; omega)))))
  clear hb1 hb2 hb3 hg3 hC0
  go_loopw [4, 16] (fun _ i wr => ∃ k : Nat, k ≤ 256 ∧ i = .int .i64 k ∧ Below w.heap.size w wr ∧ HoldsC wr w2.heap.size c.1 c.2) (fun _ i _ => (256 - intOf i).toNat)
  case atStart => exact ⟨0, by omega, rfl, hbl3, hC3⟩
  case round =>
    clear hbl3 hC3
    obtain ⟨k, hk, rfl, hbl, hC⟩ := hrel
    by_cases hlt : k < 256
    · obtain ⟨wo, rfl⟩ : ∃ wo : World, wo = wr := ⟨_, rfl⟩
      go_wp2_with fail
      go_loopw [5, 20] (fun _ i wr => ∃ j : Nat, j ≤ k ∧ i = .int .i64 j ∧ Below w.heap.size w wr ∧ HoldsC wr w2.heap.size c.1 c.2) (fun _ i _ => (256 - intOf i).toNat)
      case atStart => exact ⟨0, by omega, rfl, hbl, hC⟩
      case round =>
        clear hbl hC
        obtain ⟨j, hj, rfl, hbl, hC⟩ := hrel
        by_cases hlj : j < k
        · have hue : ∀ u : Wk wr.heap.size wr, SetsAt u.val (.slice a l.length cap) l := fun u => hv0.below (hbl.trans (u.ok.mono hbl.size)) (Nat.le_refl _)
          have hcu : ∀ u : Wk wr.heap.size wr, HoldsC u.val w2.heap.size c.1 c.2 := fun u => hC.below u.ok hC.lt
          have cK := fun u => (hcu u).of k hlt
          have cJ := fun u => (hcu u).of j (by omega)
          have hap := HAP.out k j hlt (by omega)
          have hkk : (k : Int).toNat = k := by omega
          have hjj : (j : Int).toNat = j := by omega
          have hal : ∀ W : World, SetsAt W (.slice a l.length cap) l → Calls Try.prog 26 #[.slice a l.length cap, .int .i64 (k : Int), .int .i64 (j : Int)] W fun e w' => e = .returned (.bool (c.1 k == c.1 j)) ∧ Below W.heap.size W w' := fun W hW => by
            have := alike_any l _ (k : Int) (j : Int) W hW (by omega) ⟨by omega, by omega⟩ ⟨by omega, by omega⟩
            rw [hkk, hjj, ← hap] at this
            exact this
          replace hal := Lib.hid hal
          replace hue := Lib.hid hue
          clear hap hkk hjj hcu
          generalize c.1 k = X at *
          generalize c.1 j = Y at *
          cases hq : X == Y
          · rw [hq] at hal
            go_wp2_with fail
            refine wp_region_class (fun w' => ∃ u : Wk wr.heap.size wr, w' = u.val) (by kernel_rfl) (by kernel_rfl) ⟨⟨_, (Below.refl _ _).drew⟩, rfl⟩ ?_
            repeat (go_big_quiet_step (first | (go_at_call 26; exact wk_call (Nat.le_refl _) _ (hal.out _ (hue.out _)))))
            refine wpQuiet_nil ?_
            rintro w' ⟨u, rfl⟩
            have hbu := u.ok
            have hsz := hbl.size
            go_wp2_with fail
            go_round
            case rel => exact ⟨j + 1, by omega, by go_num, (by repeat (first | exact Below.refl _ _ | assumption | refine Below.drew ?_ | refine below_drewN' ?_ _ | refine Below.setCell ?_ (by first | omega | (simp; done) | (simp; omega)) _ | refine Below.alloc ?_ (by first | omega | (simp; done) | (simp; omega)) _ | refine Below.trans ?_ (Below.mono (by assumption) (by first | omega | (simp; done) | (simp; omega))))), hC.below hbu hC.lt⟩
            case measure => simp [intOf]; omega
          · rw [hq] at hal
            go_wp2_with fail
            refine wp_region_class (fun w' => ∃ u : Wk wr.heap.size wr, w' = u.val) (by kernel_rfl) (by kernel_rfl) ⟨⟨_, (Below.refl _ _).drew⟩, rfl⟩ ?_
            repeat (go_big_quiet_step (first | (go_at_call 26; exact wk_call (Nat.le_refl _) _ (hal.out _ (hue.out _)))))
            refine wpQuiet_nil ?_
            rintro w' ⟨u, rfl⟩
            have hbu := u.ok
            have hsz := hbl.size
            go_wp2_with fail
            go_round
            case rel => exact ⟨j + 1, by omega, by go_num, (by repeat (first | exact Below.refl _ _ | assumption | refine Below.drew ?_ | refine below_drewN' ?_ _ | refine Below.setCell ?_ (by first | omega | (simp; done) | (simp; omega)) _ | refine Below.alloc ?_ (by first | omega | (simp; done) | (simp; omega)) _ | refine Below.trans ?_ (Below.mono (by assumption) (by first | omega | (simp; done) | (simp; omega))))), hC.below hbu hC.lt⟩
            case measure => simp [intOf]; omega
        · go_wp2_with fail
          go_round
          case rel => exact ⟨k + 1, by omega, by go_num, hbl, hC⟩
          case measure => simp [intOf]; omega
    · have hlR : ∀ W : World, Calls Try.prog 27 #[cv c.1 c.2] W fun e w' => e = .returned (.bool true) ∧ Below W.heap.size W w' := fun W => by
        rw [← HRT.out]; exact lawRight_any c.1 c.2 W HRG.out
      have hcR : ∀ W : World, Calls Try.prog 28 #[cv c.1 c.2] W fun e w' => e = .returned (.bool true) ∧ Below W.heap.size W w' := fun W => by
        rw [← HRT.out]; exact clsRight_any c.1 c.2 W HRG.out
      replace hlR := Lib.hid hlR
      replace hcR := Lib.hid hcR
      have hsz := hbl.size
      go_wp2_with (first | (refine wpList_load_cls rfl (.tmp 3) rfl rfl hC ?_) | (go_at_call 27; refine (hlR.out _).mono ?_; rintro e w4 ⟨rfl, hb4⟩))
      have hs4 := hb4.size
      refine wp_load_cls (.tmp 3) rfl rfl (hC.below hb4 hC.lt) ?_
      go_wp2_with (first | (go_at_call 28; refine (hcR.out _).mono ?_; rintro e w5 ⟨rfl, hb5⟩))
      go_ret
      exact ⟨rfl, (by repeat (first | exact Below.refl _ _ | assumption | refine Below.drew ?_ | refine below_drewN' ?_ _ | refine Below.setCell ?_ (by first | omega | (simp; done) | (simp; omega)) _ | refine Below.alloc ?_ (by first | omega | (simp; done) | (simp; omega)) _ | refine Below.trans ?_ (Below.mono (by assumption) (by first | omega | (simp; done) | (simp; omega)))))⟩

set_option maxRecDepth 100000 in
set_option maxHeartbeats 400000 in
theorem classesMake_long (n : Nat) (a : Option Addr) (cap : Nat) (w : World) (hn : 30 < n) (hm : n ≤ maxLen) :
    Calls Try.prog 6 #[.slice a n cap] w fun e w' => e = .returned (.bool true) ∧ Below w.heap.size w w' := by
  unfold maxLen at hm
  have hd : decide ((30 : Int) < (n : Int)) = true := by simp; omega
  go_enter Try.func6, Try.ntmps6
  go_wp2_with fail
  refine (awake2 _).mono ?_
  rintro e w1 ⟨rfl, hb1⟩
  go_wp2_with fail
  refine (awake2 _).mono ?_
  rintro e w2 ⟨rfl, hb2⟩
  have hs1 := hb1.size
  go_wp2_with fail
  go_ret
  exact ⟨rfl, (by repeat (first | exact Below.refl _ _ | assumption | refine Below.drew ?_ | refine below_drewN' ?_ _ | refine Below.setCell ?_ (by first | omega | (simp; done) | (simp; omega)) _ | refine Below.alloc ?_ (by first | omega | (simp; done) | (simp; omega)) _ | refine Below.trans ?_ (Below.mono (by assumption) (by first | omega | (simp; done) | (simp; omega)))))⟩

theorem classesMake_any (l : List (Nat → Bool)) (v : Value) (w : World) (hv : SetsAt w v l) (hm : l.length ≤ maxLen) :
    Calls Try.prog 6 #[v] w fun e w' => e = .returned (.bool true) ∧ Below w.heap.size w w' := by
  rcases Nat.lt_or_ge 30 l.length with h | h
  · obtain ⟨a, cap, rfl, _⟩ := hv
    exact classesMake_long l.length a cap w h hm
  · exact classesMake_short l v w hv h

end Go.Proofs.Ytbmejpghoafapaa
