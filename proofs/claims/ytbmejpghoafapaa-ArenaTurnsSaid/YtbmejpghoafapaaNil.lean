/-
  The walk of bolterlaw09.awake and of the law bolterlaw09.ArenaNil.
-/
import Derived.Test.YtbmejpghoafapaaPut
namespace Go.Proofs.Ytbmejpghoafapaa
open Go.RowKit Go.Maps

set_option maxRecDepth 100000 in
set_option maxHeartbeats 1000000 in
theorem turn_nil (id : Int) (w : World) : Calls Try.prog 38 #[.pointer none, .int .i64 id] w fun e w' => e = .returned (.int .i64 (-1)) ∧ Below w.heap.size w w' := by
  go_enter Try.func38, Try.ntmps38
  go_wp2_with (go_at_call 36; refine (node_nil _ _).mono ?_; rintro e w1 ⟨rfl, hb1⟩)
  have hs1 := hb1.size
  go_ret
  exact ⟨rfl, (by repeat (first | exact Below.refl _ _ | assumption | refine Below.drew ?_ | refine below_drewN' ?_ _ | refine Below.setCell ?_ (by first | omega | (simp; done) | (simp; omega)) _ | refine Below.alloc ?_ (by first | omega | (simp; done) | (simp; omega)) _ | refine Below.trans ?_ (Below.mono (by assumption) (by first | omega | (simp; done) | (simp; omega)))))⟩

set_option maxRecDepth 100000 in
set_option maxHeartbeats 1000000 in
theorem sets_nil (id : Int) (w : World) : Calls Try.prog 43 #[.pointer none, .int .i64 id] w fun e w' => e = .returned (.slice none 0 0) ∧ Below w.heap.size w w' := by
  go_enter Try.func43, Try.ntmps43
  go_wp2_with (go_at_call 36; refine (node_nil _ _).mono ?_; rintro e w1 ⟨rfl, hb1⟩)
  have hs1 := hb1.size
  go_ret
  exact ⟨rfl, (by repeat (first | exact Below.refl _ _ | assumption | refine Below.drew ?_ | refine below_drewN' ?_ _ | refine Below.setCell ?_ (by first | omega | (simp; done) | (simp; omega)) _ | refine Below.alloc ?_ (by first | omega | (simp; done) | (simp; omega)) _ | refine Below.trans ?_ (Below.mono (by assumption) (by first | omega | (simp; done) | (simp; omega)))))⟩

/-- The node of no bytes. -/
def nd1 : Nd := ⟨1, fun _ => false, 0, 0, false⟩
theorem nd1_v : nd1.v = .agg #[.int .i64 1, .int .u64 0, .int .u64 0, .int .u64 0, .int .u64 0, .int .i64 0, .int .i64 0, .bool false] := by kernel_rfl
theorem nd1_ok : nd1.ok := ⟨rfl, rfl, rfl⟩
theorem nd1_R : putR [] nd1 = .tuple #[.int .i64 0, .int .i64 0] := by
  unfold putR
  rw [if_pos (by kernel_rfl)]
  kernel_rfl
theorem nd1_L : (putL [] nd1).length = 1 := by kernel_rfl

set_option maxRecDepth 100000 in
set_option maxHeartbeats 1000000 in
theorem awake9 (w : World) : Calls Try.prog 30 #[] w fun e w' => e = .returned (.bool true) ∧ Below w.heap.size w w' := by
  have HP := Lib.hid (fun (w1 : World) (b m : Nat) (v : Value) (h : Ar w.heap.size w1 b m v []) (hn : w.heap.size ≤ w1.heap.size) => aput_any h hn nd1 nd1_ok (by simp))
  rw [nd1_v, nd1_R] at HP
  go_enter Try.func30, Try.ntmps30
  go_wp2_with (first | (go_at_call 32; refine (new_any _).mono ?_; rintro e w1 ⟨⟨b, m, v, rfl, hA⟩, hb1⟩) | (go_at_call 33; refine (HP.out _ _ _ _ hA hb1.size).mono ?_; rintro e w2 ⟨rfl, ⟨v2, hA2, _⟩, hb2, _⟩; have hl2 := len_any hA2; rw [nd1_L] at hl2; replace hl2 := Lib.hid hl2) | (go_at_call 35; refine hl2.out.mono ?_; rintro e w3 ⟨rfl, hb3⟩))
  have hs1 := hb1.size
  have hs2 := hb2.size
  have hs3 := hb3.size
  go_ret
  exact ⟨rfl, (by repeat (first | exact Below.refl _ _ | assumption | refine Below.drew ?_ | refine below_drewN' ?_ _ | refine Below.setCell ?_ (by first | omega | (simp; done) | (simp; omega)) _ | refine Below.alloc ?_ (by first | omega | (simp; done) | (simp; omega)) _ | refine Below.trans ?_ (Below.mono (by assumption) (by first | omega | (simp; done) | (simp; omega)))))⟩

set_option maxRecDepth 100000 in
set_option maxHeartbeats 1000000 in
theorem arenaNil_any (n : Nd) (id : Int) (w : World) : Calls Try.prog 11 #[n.v, .int .i64 id] w fun e w' => e = .returned (.bool true) ∧ Below w.heap.size w w' := by
  have HP := Lib.hid (put_nil n)
  go_enter Try.func11, Try.ntmps11
  go_wp2_with (first | (go_at_call 30; refine (awake9 _).mono ?_; rintro e w1 ⟨rfl, hb1⟩; have hN1 := (HoldsN.made w n.cells.toArray rfl).below hb1 (by simp); obtain ⟨q0, q1, q2, q3, q4, q5, q6, q7⟩ := hN1.cells) | (go_at_call 33; refine (HP.out _).mono ?_; rintro e w2 ⟨rfl, hb2⟩) | (go_at_call 36; refine (node_nil _ _).mono ?_; rintro e w3 ⟨rfl, hb3⟩) | (go_at_call 35; refine (len_nil _).mono ?_; rintro e w4 ⟨rfl, hb4⟩) | (go_at_call 38; refine (turn_nil _ _).mono ?_; rintro e w5 ⟨rfl, hb5⟩) | (go_at_call 43; refine (sets_nil _ _).mono ?_; rintro e w6 ⟨rfl, hb6⟩))
  have hs1 := hb1.size
  have hs2 := hb2.size
  have hs3 := hb3.size
  have hs4 := hb4.size
  have hs5 := hb5.size
  have hs6 := hb6.size
  simp at hs1 hs4
  go_ret
  exact ⟨rfl, (by repeat (first | exact Below.refl _ _ | assumption | refine Below.drew ?_ | refine below_drewN' ?_ _ | refine Below.setCell ?_ (by first | omega | (simp; done) | (simp; omega)) _ | refine Below.alloc ?_ (by first | omega | (simp; done) | (simp; omega)) _ | refine Below.trans ?_ (Below.mono (by assumption) (by first | omega | (simp; done) | (simp; omega)))))⟩

end Go.Proofs.Ytbmejpghoafapaa
