/-
  The walk of the law bolterlaw02.ClassesMembers.
-/
import Derived.Test.YtbmejpghoafapaaDoorMem
namespace Go.Proofs.YtbmejpghoafapaaDoor
open Go.RowKit

/-- The first of the chosen ones among the first k; -1, if there is none. -/
def fs (p : Nat → Bool) : Nat → Int
  | 0 => -1
  | k + 1 => if p k && decide (fs p k < 0) then (k : Int) else fs p k
theorem fs_bd (p : Nat → Bool) : ∀ k, -1 ≤ fs p k ∧ fs p k < k
  | 0 => by simp [fs]
  | k + 1 => by
    have := fs_bd p k
    simp only [fs]
    split <;> omega
theorem fs_none {p : Nat → Bool} : ∀ k, (∀ j, j < k → p j = false) → fs p k = -1
  | 0, _ => rfl
  | k + 1, h => by
    simp [fs, h k (by omega), fs_none k fun j hj => h j (by omega)]
theorem fs_some {p : Nat → Bool} {b : Nat} (hb : p b = true) (hl : ∀ j, j < b → p j = false) : ∀ d, fs p (b + 1 + d) = b
  | 0 => by simp [fs, hb, fs_none b hl]
  | d + 1 => by
    rw [← Nat.add_assoc]
    have := fs_some hb hl d
    simp only [fs, this]
    have : ¬ ((b : Int) < 0) := by omega
    simp [this]
theorem fs_no {p : Nat → Bool} {k : Nat} (h : p k = false) : fs p (k + 1) = fs p k := by simp [fs, h]
theorem fs_old {p : Nat → Bool} {k : Nat} (h : ¬ fs p k < 0) : fs p (k + 1) = fs p k := by simp [fs, h]
theorem fs_new {p : Nat → Bool} {k : Nat} (hp : p k = true) (h : fs p k < 0) : fs p (k + 1) = k := by simp [fs, hp, h]

/-- What First answers. -/
def FirstE (m : Nat → Bool) (e : Ending) : Prop := ∃ x : Int, e = .returned (.int .u8 x) ∧ 0 ≤ x ∧ x < 256 ∧ x = max (fs m 256) 0
theorem first_of {m : Nat → Bool} {b : Nat} (h : LeastIs m b) : (b : Int) = max (fs m 256) 0 := by
  obtain ⟨h1, h2, h3⟩ := h
  have := fs_some h2 h3 (255 - b)
  rw [show b + 1 + (255 - b) = 256 from by omega] at this
  omega
set_option maxRecDepth 100000 in
set_option maxHeartbeats 1000000 in
theorem first_any (o : Nat → Int) (n cl : Int) (w : World) (hT : TabW w) (ho : ∀ i, i < 256 → 0 ≤ o i ∧ o i < 256) :
    Calls Tryd.prog 9 #[cv o n, .int .i64 cl] w fun e w' => FirstE (mem o n cl 256) e ∧ Below w.heap.size w w' := by
  have hC0 := HoldsC.made w o n rfl
  have hb0 := Below.alloc (Below.refl w.heap.size w) (Nat.le_refl _) (cob o n)
  have HT := Lib.hid (hT.below hb0 (Nat.le_refl _))
  have HM := Lib.hid (fun w => members_any o n cl w ho)
  clear ho hT
  go_enter Tryd.func9, Tryd.ntmps9
  go_wp2_with (first | (refine wpList_load_cls rfl (.tmp 2) rfl rfl hC0 ?_) | (go_at_call 7; refine (HM.out _).mono ?_; rintro e w1 ⟨rfl, hb1⟩))
  have hs1 := hb1.size
  simp at hs1
  refine (least_any _ _ (HT.out.below hb1 (Nat.le_refl _))).mono ?_
  rintro e w2 ⟨he, hb2⟩
  have hbl2 : Below w.heap.size w w2 := (by repeat (first | exact Below.refl _ _ | assumption | refine Below.drew ?_ | refine below_drewN' ?_ _ | refine Below.setCell ?_ (by first | omega | (simp; done) | (simp; omega)) _ | refine Below.alloc ?_ (by first | omega | (simp; done) | (simp; omega)) _ | refine Below.trans ?_ (Below.mono (by assumption) (by first | omega | (simp; done) | (simp; omega)))))
  rcases he with ⟨b, hb, rfl⟩ | ⟨hno, rfl⟩
  · have HE : Hid (FirstE (mem o n cl 256) (.returned (.int .u8 (b : Int)))) := Lib.hid ⟨b, rfl, by omega, by have := hb.1; omega, first_of hb⟩
    clear hb
    go_wp2_with fail
    go_ret
    exact ⟨HE.out, hbl2⟩
  · have HE : Hid (FirstE (mem o n cl 256) (.returned (.int .u8 0))) := Lib.hid ⟨0, rfl, by omega, by omega, by rw [fs_none 256 hno]; rfl⟩
    clear hno
    go_wp2_with fail
    go_ret
    exact ⟨HE.out, hbl2⟩

theorem refHas_mem {o : Nat → Int} {n cl : Int} {k : Nat} (hk : k < 256) {B : Bool} (h : isOf o n cl k = B) (w : World) :
    Calls Tryd.prog 8 #[sv (mem o n cl 256), .int .i64 (k : Int)] w fun e w' => e = .returned (.bool B) ∧ Below w.heap.size w w' := by
  refine refHas_val ?_ w (by omega) (by omega)
  unfold mem
  rw [show (k : Int).toNat = k from by omega]
  simp [hk, h]

set_option maxRecDepth 100000 in
set_option maxHeartbeats 4000000 in
theorem classesMembers_short (l : List (Nat → Bool)) (v : Value) (cl : Int) (w : World) (hT : TabW w) (hv : SetsAt w v l) (hlen : l.length ≤ 30) :
    Calls Tryd.prog 3 #[v, .int .i64 cl] w fun e w' => e = .returned (.bool true) ∧ Below w.heap.size w w' := by
  have hv0 := hv
  obtain ⟨a, cap, rfl, hs⟩ := hv
  clear hs
  have hd : decide ((30 : Int) < (l.length : Int)) = false := by simp; omega
  have HRG := Lib.hid (mk_range l)
  have HT := Lib.hid hT
  clear hT
  go_enter Tryd.func3, Tryd.ntmps3
  go_wp2_with (first | (go_at_call 5; refine (awake2 _).mono ?_; rintro e w1 ⟨rfl, hb1⟩) | (go_at_call 6; refine (make_any l _ _ (hv0.below hb1 (Nat.le_refl _)) (by omega)).mono ?_; rintro e w2 ⟨rfl, hb2⟩; generalize mk l = c at *; have hC2 := HoldsC.made w2 (fun _ => 0) 0 rfl) | (refine wpList_store_cls rfl (.tmp 5) (.tmp 19) rfl rfl rfl hC2 ?_; intro w3 hC3 hg3) | (refine wpList_load_cls rfl (.tmp 5) rfl rfl hC3 ?_) | (go_at_call 7; refine (members_any c.1 c.2 cl _ HRG.out).mono ?_; rintro e w4 ⟨rfl, hb4⟩))
  have hs1 := hb1.size
  have hs2 := hb2.size
  have hb3 := below_grown hg3 (n := w.heap.size) (by omega) (by simp; omega)
  have hs3 := hg3.size
  simp at hs3
  have hs4 := hb4.size
  have hbl5 : Below w.heap.size w (w4.alloc (sob (mem c.1 c.2 cl 256))) := (by repeat (first | exact Below.refl _ _ | assumption | refine Below.drew ?_ | refine below_drewN' ?_ _ | refine Below.setCell ?_ (by first | omega | (simp; done) | (simp; omega)) _ | refine Below.alloc ?_ (by first | omega | (simp; done) | (simp; omega)) _ | refine Below.trans ?_ (Below.mono (by assumption) (by first | omega | (simp; done) | (simp; omega)))))
  have hC5 := (hC3.below hb4 (by omega)).alloc (sob (mem c.1 c.2 cl 256))
  have hM5 := HoldsS.made w4 (mem c.1 c.2 cl 256)
  clear hb1 hb2 hb3 hg3 hC2 hC3
  have HFI := Lib.hid (fun W (h : TabW W) => first_any c.1 c.2 cl W h HRG.out)
  have HRM := Lib.hid (fun k (hk : k < 256) (B : Bool) (h : isOf c.1 c.2 cl k = B) => refHas_mem hk h)
  have HME := Lib.hid (fun k (hk : k < 256) (B : Bool) (h : isOf c.1 c.2 cl k = B) => (show mem c.1 c.2 cl 256 k = B by simp [mem, hk, h]))
  generalize mem c.1 c.2 cl 256 = m at *
  go_loopw [7, 23] (fun f i wr => ∃ k : Nat, k ≤ 256 ∧ i = .int .i64 k ∧ f = .int .i64 (fs m k) ∧ Below w.heap.size w wr ∧ HoldsC wr w2.heap.size c.1 c.2 ∧ HoldsS wr w4.heap.size m) (fun _ i _ => (256 - intOf i).toNat)
  case atStart => exact ⟨0, by omega, rfl, rfl, hbl5, hC5, hM5⟩
  case round =>
    clear hbl5 hC5 hM5
    obtain ⟨k, hk, rfl, rfl, hbl, hC, hM⟩ := hrel
    have hsz := hbl.size
    by_cases hlt : k < 256
    · have hc := hC.of k hlt
      have hn := hC.n
      obtain ⟨hx0, hx1⟩ := HRG.out k hlt
      obtain ⟨c0, c1, c2, c3⟩ := hM.cells
      obtain ⟨f0, f1⟩ := fs_bd m k
      have hFN := Lib.hid (fun h => fs_no (p := m) (k := k) h)
      have hFO := Lib.hid (fun h => fs_old (p := m) (k := k) h)
      have hFY := Lib.hid (fun h1 h2 => fs_new (p := m) (k := k) h1 h2)
      rcases of_cases c.1 c.2 cl k with ⟨t1, t4⟩ | ⟨t1, t2, t4⟩ | ⟨t1, t2, t3, t4⟩ | ⟨t1, t2, t3, t4⟩
      rotate_left 3
      · have HR := Lib.hid (HRM.out k hlt true t4)
        have hmk := HME.out k hlt true t4
        by_cases hf : fs m k < 0
        · have HF := Lib.hid (hFY.out hmk hf)
          have hd2 : decide (fs m k < 0) = true := by simp [hf]
          clear hFN hFO hFY hmk t4 hf
          generalize fs m k = F at *
          generalize c.1 k = x at *
          go_wp2_with (go_at_call 8; refine (HR.out _).mono ?_; rintro e w5 ⟨rfl, hb5⟩)
          go_round
          case rel => exact ⟨k + 1, by omega, by go_num, by rw [HF.out], hbl.trans (hb5.mono hsz), hC.below hb5 hC.lt, hM.below hb5 hM.lt⟩
          case measure => simp [intOf]; omega
        · have HF := Lib.hid (hFO.out hf)
          have hd2 : decide (fs m k < 0) = false := by simp; omega
          clear hFN hFO hFY hmk t4 hf
          generalize fs m k = F at *
          generalize c.1 k = x at *
          go_wp2_with (go_at_call 8; refine (HR.out _).mono ?_; rintro e w5 ⟨rfl, hb5⟩)
          go_round
          case rel => exact ⟨k + 1, by omega, by go_num, by rw [HF.out], hbl.trans (hb5.mono hsz), hC.below hb5 hC.lt, hM.below hb5 hM.lt⟩
          case measure => simp [intOf]; omega
      all_goals
        have HR := Lib.hid (HRM.out k hlt false t4)
        have hmk := HME.out k hlt false t4
        have HF := Lib.hid (hFN.out hmk)
        clear hFN hFO hFY hmk t4
        generalize fs m k = F at *
        generalize c.1 k = x at *
        go_wp2_with (go_at_call 8; refine (HR.out _).mono ?_; rintro e w5 ⟨rfl, hb5⟩)
        go_round
        case rel => exact ⟨k + 1, by omega, by go_num, by rw [HF.out], hbl.trans (hb5.mono hsz), hC.below hb5 hC.lt, hM.below hb5 hM.lt⟩
        case measure => simp [intOf]; omega
    · obtain rfl : k = 256 := by omega
      obtain ⟨f0, f1⟩ := fs_bd m 256
      go_wp2_with (refine wpList_load_cls rfl (.tmp 5) rfl rfl hC ?_)
      refine (HFI.out _ (HT.out.below hbl (Nat.le_refl _))).mono ?_
      rintro e w6 ⟨⟨x, rfl, hx0, hx1, hx⟩, hb6⟩
      have HX := Lib.hid hx
      clear hx
      go_wp2_with fail
      all_goals
        go_ret
        exact ⟨ret_bool (by have h9 := HX.out; rw [beq_iff_eq]; omega), hbl.trans (hb6.mono hsz)⟩

set_option maxRecDepth 100000 in
set_option maxHeartbeats 400000 in
theorem classesMembers_long (n : Nat) (a : Option Addr) (cap : Nat) (cl : Int) (w : World) (hn : 30 < n) (hm : n ≤ maxLen) :
    Calls Tryd.prog 3 #[.slice a n cap, .int .i64 cl] w fun e w' => e = .returned (.bool true) ∧ Below w.heap.size w w' := by
  unfold maxLen at hm
  have hd : decide ((30 : Int) < (n : Int)) = true := by simp; omega
  go_enter Tryd.func3, Tryd.ntmps3
  go_wp2_with fail
  refine (awake2 _).mono ?_
  rintro e w1 ⟨rfl, hb1⟩
  go_wp2_with fail
  refine (awake2 _).mono ?_
  rintro e w2 ⟨rfl, hb2⟩
  have hs1 := hb1.size
  go_wp2_with fail
  go_ret
  exact ⟨rfl, (by repeat (first | exact Below.refl _ _ | assumption | refine Below.drew ?_ | refine below_drewN' ?_ _ | refine Below.setCell ?_ (by first | omega | (simp; done) | (simp; omega)) _ | refine Below.alloc ?_ (by first | omega | (simp; done) | (simp; omega)) _ | refine Below.trans ?_ (Below.mono (by assumption) (by first | omega | (simp; done) | (simp; omega)))))⟩

theorem classesMembers_any (l : List (Nat → Bool)) (v : Value) (cl : Int) (w : World) (hT : TabW w) (hv : SetsAt w v l) (hm : l.length ≤ maxLen) :
    Calls Tryd.prog 3 #[v, .int .i64 cl] w fun e w' => e = .returned (.bool true) ∧ Below w.heap.size w w' := by
  rcases Nat.lt_or_ge 30 l.length with h | h
  · obtain ⟨a, cap, rfl, _⟩ := hv
    exact classesMembers_long l.length a cap cl w h hm
  · exact classesMembers_short l v cl w hT hv h

end Go.Proofs.YtbmejpghoafapaaDoor
