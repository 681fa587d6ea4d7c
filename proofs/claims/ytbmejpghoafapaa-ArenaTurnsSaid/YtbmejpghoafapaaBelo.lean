/-
  The walk of bolterlaw09.below, a function that calls itself.
-/
import Derived.Test.YtbmejpghoafapaaMade
namespace Go.Proofs.Ytbmejpghoafapaa
open Go.RowKit Go.Maps

theorem kids_two {k : Int} (h : 3 ≤ k ∧ k ≤ 5) (f : Nat → Bool) (c d : Nat) (g : Bool) : kids ⟨k, f, c, d, g⟩ = [c, d] := by
  simp [kids, h]
theorem kids_one {k : Int} (h : k = 6 ∨ k = 7) (f : Nat → Bool) (c : Nat) (b : Int) (g : Bool) : kids ⟨k, f, c, b, g⟩ = [c] := by
  unfold kids
  rw [if_neg (by simp; omega), if_pos (by simpa using h)]
  simp
theorem kids_none {k : Int} (h : ¬ (3 ≤ k ∧ k ≤ 7)) (f : Nat → Bool) (a b : Int) (g : Bool) : kids ⟨k, f, a, b, g⟩ = [] := by
  unfold kids
  rw [if_neg (by simp; omega), if_neg (by simp; omega)]
theorem bel_two {L : List Nd} (hw : WfN L) {id k c d : Nat} {n : Nd} (hn : L[id]? = some n) (hne : id ≠ k) (hk : kids n = [c, d]) : belB L id k = (belB L c k || belB L d k) := by
  rw [belB_eq hw hn, hk]
  simp [hne]
theorem bel_one {L : List Nd} (hw : WfN L) {id k c : Nat} {n : Nd} (hn : L[id]? = some n) (hne : id ≠ k) (hk : kids n = [c]) : belB L id k = belB L c k := by
  rw [belB_eq hw hn, hk]
  simp [hne]
theorem bel_none {L : List Nd} (hw : WfN L) {id k : Nat} {n : Nd} (hn : L[id]? = some n) (hne : id ≠ k) (hk : kids n = []) : belB L id k = false := by
  rw [belB_eq hw hn, hk]
  simp [hne]

/-- What 'below' answers of a part. -/
abbrev Ans (L : List Nd) (v : Value) (k c : Nat) (B : Bool) : Prop := ∀ w, NodesAt w v L → Calls Try.prog 44 #[v, .int .i64 (c : Int), .int .i64 (k : Int)] w fun e w' => e = .returned (.bool B) ∧ Below w.heap.size w w'
/-- A part's number and answer, as the test goes. -/
theorem part_cases {L : List Nd} (hw : WfN L) {v : Value} {k c : Nat} (h : Ans L v k c (belB L c k)) : (decide (k ≤ c) = false ∧ belB L c k = false) ∨ (decide (k ≤ c) = true ∧ ∃ B, belB L c k = B ∧ Ans L v k c B) := by
  rcases Nat.lt_or_ge c k with h1 | h1
  · refine .inl ⟨by simp; omega, ?_⟩
    cases hb : belB L c k
    · rfl
    · have := belB_le hw k c hb
      omega
  · exact .inr ⟨by simp; omega, _, rfl, h⟩
variable {L : List Nd} {v : Value} {k id : Nat} {w : World}
set_option maxHeartbeats 1000000 in
theorem below_self (v : Value) (k : Nat) (w : World) : Calls Try.prog 44 #[v, .int .i64 (k : Int), .int .i64 (k : Int)] w fun e w' => e = .returned (.bool true) ∧ Below w.heap.size w w' := by
  go_enter Try.func44, Try.ntmps44
  go_wp2
  go_ret
  exact ⟨rfl, Below.refl _ _⟩
set_option maxRecDepth 100000 in
set_option maxHeartbeats 1000000 in
theorem below_k0 (f : Nat → Bool) (c : Int) (nb : Int) (g : Bool) (hv : NodesAt w v L) (hn : L[id]? = some ⟨0, f, c, nb, g⟩) (hid : id ≠ k) :
    Calls Try.prog 44 #[v, .int .i64 (id : Int), .int .i64 (k : Int)] w fun e w' => e = .returned (.bool false) ∧ Below w.heap.size w w' := by
  have hne : ((id : Int) == (k : Int)) = false := by simp; omega
  have hN0 := HoldsN.made w na0 rfl
  have hv0 := hv
  obtain ⟨a, cap, rfl, hs⟩ := hv0
  clear hs
  obtain ⟨bb, off, rfl, hE⟩ := hv.eight hn
  obtain ⟨e0, e1, e2, e3, e4, e5, e6, e7⟩ := hE
  have hil := (List.getElem?_eq_some_iff.1 hn).1
  simp only at e0 e1 e2 e3 e4 e5 e6 e7
  clear hn hid
  go_enter Try.func44, Try.ntmps44
  go_wp2_with (first | (refine wpList_store_node rfl (.tmp 7) (.tmp 14) rfl rfl rfl hN0 rfl rfl (one8 _ _ _ _ _ _ _ _) ?_; intro w4 hN4 hg4; obtain ⟨q0, q1, q2, q3, q4, q5, q6, q7⟩ := hN4.cells; have hb4 : Below w.heap.size w w4 := ((Below.refl _ _).alloc (Nat.le_refl _) _).trans (below_grown hg4 (Nat.le_refl _) (by simp)); have hv4 := hv.below hb4 (Nat.le_refl _)))
  go_ret
  exact ⟨rfl, (by repeat (first | exact Below.refl _ _ | assumption | refine Below.drew ?_ | refine below_drewN' ?_ _ | refine Below.setCell ?_ (by first | omega | (simp; done) | (simp; omega)) _ | refine Below.alloc ?_ (by first | omega | (simp; done) | (simp; omega)) _ | refine Below.trans ?_ (Below.mono (by assumption) (by first | omega | (simp; done) | (simp; omega)))))⟩
set_option maxRecDepth 100000 in
set_option maxHeartbeats 1000000 in
theorem below_k1 (f : Nat → Bool) (c : Int) (nb : Int) (g : Bool) (hv : NodesAt w v L) (hn : L[id]? = some ⟨1, f, c, nb, g⟩) (hid : id ≠ k) :
    Calls Try.prog 44 #[v, .int .i64 (id : Int), .int .i64 (k : Int)] w fun e w' => e = .returned (.bool false) ∧ Below w.heap.size w w' := by
  have hne : ((id : Int) == (k : Int)) = false := by simp; omega
  have hN0 := HoldsN.made w na0 rfl
  have hv0 := hv
  obtain ⟨a, cap, rfl, hs⟩ := hv0
  clear hs
  obtain ⟨bb, off, rfl, hE⟩ := hv.eight hn
  obtain ⟨e0, e1, e2, e3, e4, e5, e6, e7⟩ := hE
  have hil := (List.getElem?_eq_some_iff.1 hn).1
  simp only at e0 e1 e2 e3 e4 e5 e6 e7
  clear hn hid
  go_enter Try.func44, Try.ntmps44
  go_wp2_with (first | (refine wpList_store_node rfl (.tmp 7) (.tmp 14) rfl rfl rfl hN0 rfl rfl (one8 _ _ _ _ _ _ _ _) ?_; intro w4 hN4 hg4; obtain ⟨q0, q1, q2, q3, q4, q5, q6, q7⟩ := hN4.cells; have hb4 : Below w.heap.size w w4 := ((Below.refl _ _).alloc (Nat.le_refl _) _).trans (below_grown hg4 (Nat.le_refl _) (by simp)); have hv4 := hv.below hb4 (Nat.le_refl _)))
  go_ret
  exact ⟨rfl, (by repeat (first | exact Below.refl _ _ | assumption | refine Below.drew ?_ | refine below_drewN' ?_ _ | refine Below.setCell ?_ (by first | omega | (simp; done) | (simp; omega)) _ | refine Below.alloc ?_ (by first | omega | (simp; done) | (simp; omega)) _ | refine Below.trans ?_ (Below.mono (by assumption) (by first | omega | (simp; done) | (simp; omega)))))⟩
set_option maxRecDepth 100000 in
set_option maxHeartbeats 1000000 in
theorem below_k2 (f : Nat → Bool) (c : Int) (nb : Int) (g : Bool) (hv : NodesAt w v L) (hn : L[id]? = some ⟨2, f, c, nb, g⟩) (hid : id ≠ k) :
    Calls Try.prog 44 #[v, .int .i64 (id : Int), .int .i64 (k : Int)] w fun e w' => e = .returned (.bool false) ∧ Below w.heap.size w w' := by
  have hne : ((id : Int) == (k : Int)) = false := by simp; omega
  have hN0 := HoldsN.made w na0 rfl
  have hv0 := hv
  obtain ⟨a, cap, rfl, hs⟩ := hv0
  clear hs
  obtain ⟨bb, off, rfl, hE⟩ := hv.eight hn
  obtain ⟨e0, e1, e2, e3, e4, e5, e6, e7⟩ := hE
  have hil := (List.getElem?_eq_some_iff.1 hn).1
  simp only at e0 e1 e2 e3 e4 e5 e6 e7
  clear hn hid
  go_enter Try.func44, Try.ntmps44
  go_wp2_with (first | (refine wpList_store_node rfl (.tmp 7) (.tmp 14) rfl rfl rfl hN0 rfl rfl (one8 _ _ _ _ _ _ _ _) ?_; intro w4 hN4 hg4; obtain ⟨q0, q1, q2, q3, q4, q5, q6, q7⟩ := hN4.cells; have hb4 : Below w.heap.size w w4 := ((Below.refl _ _).alloc (Nat.le_refl _) _).trans (below_grown hg4 (Nat.le_refl _) (by simp)); have hv4 := hv.below hb4 (Nat.le_refl _)))
  go_ret
  exact ⟨rfl, (by repeat (first | exact Below.refl _ _ | assumption | refine Below.drew ?_ | refine below_drewN' ?_ _ | refine Below.setCell ?_ (by first | omega | (simp; done) | (simp; omega)) _ | refine Below.alloc ?_ (by first | omega | (simp; done) | (simp; omega)) _ | refine Below.trans ?_ (Below.mono (by assumption) (by first | omega | (simp; done) | (simp; omega)))))⟩
set_option maxRecDepth 100000 in
set_option maxHeartbeats 1000000 in
theorem below_k8 (f : Nat → Bool) (c : Int) (nb : Int) (g : Bool) (hv : NodesAt w v L) (hn : L[id]? = some ⟨8, f, c, nb, g⟩) (hid : id ≠ k) :
    Calls Try.prog 44 #[v, .int .i64 (id : Int), .int .i64 (k : Int)] w fun e w' => e = .returned (.bool false) ∧ Below w.heap.size w w' := by
  have hne : ((id : Int) == (k : Int)) = false := by simp; omega
  have hN0 := HoldsN.made w na0 rfl
  have hv0 := hv
  obtain ⟨a, cap, rfl, hs⟩ := hv0
  clear hs
  obtain ⟨bb, off, rfl, hE⟩ := hv.eight hn
  obtain ⟨e0, e1, e2, e3, e4, e5, e6, e7⟩ := hE
  have hil := (List.getElem?_eq_some_iff.1 hn).1
  simp only at e0 e1 e2 e3 e4 e5 e6 e7
  clear hn hid
  go_enter Try.func44, Try.ntmps44
  go_wp2_with (first | (refine wpList_store_node rfl (.tmp 7) (.tmp 14) rfl rfl rfl hN0 rfl rfl (one8 _ _ _ _ _ _ _ _) ?_; intro w4 hN4 hg4; obtain ⟨q0, q1, q2, q3, q4, q5, q6, q7⟩ := hN4.cells; have hb4 : Below w.heap.size w w4 := ((Below.refl _ _).alloc (Nat.le_refl _) _).trans (below_grown hg4 (Nat.le_refl _) (by simp)); have hv4 := hv.below hb4 (Nat.le_refl _)))
  go_ret
  exact ⟨rfl, (by repeat (first | exact Below.refl _ _ | assumption | refine Below.drew ?_ | refine below_drewN' ?_ _ | refine Below.setCell ?_ (by first | omega | (simp; done) | (simp; omega)) _ | refine Below.alloc ?_ (by first | omega | (simp; done) | (simp; omega)) _ | refine Below.trans ?_ (Below.mono (by assumption) (by first | omega | (simp; done) | (simp; omega)))))⟩
set_option maxRecDepth 100000 in
set_option maxHeartbeats 1000000 in
theorem below_k6n (f : Nat → Bool) (c : Nat) (nb : Int) (g : Bool) (hv : NodesAt w v L) (hn : L[id]? = some ⟨6, f, (c : Int), nb, g⟩) (hid : id ≠ k) (h1 : decide (k ≤ c) = false) :
    Calls Try.prog 44 #[v, .int .i64 (id : Int), .int .i64 (k : Int)] w fun e w' => e = .returned (.bool false) ∧ Below w.heap.size w w' := by
  have hne : ((id : Int) == (k : Int)) = false := by simp; omega
  have hN0 := HoldsN.made w na0 rfl
  have hv0 := hv
  obtain ⟨a, cap, rfl, hs⟩ := hv0
  clear hs
  obtain ⟨bb, off, rfl, hE⟩ := hv.eight hn
  obtain ⟨e0, e1, e2, e3, e4, e5, e6, e7⟩ := hE
  have hil := (List.getElem?_eq_some_iff.1 hn).1
  simp only at e0 e1 e2 e3 e4 e5 e6 e7
  clear hn hid
  go_enter Try.func44, Try.ntmps44
  go_wp2_with (first | (refine wpList_store_node rfl (.tmp 7) (.tmp 14) rfl rfl rfl hN0 rfl rfl (one8 _ _ _ _ _ _ _ _) ?_; intro w4 hN4 hg4; obtain ⟨q0, q1, q2, q3, q4, q5, q6, q7⟩ := hN4.cells; have hb4 : Below w.heap.size w w4 := ((Below.refl _ _).alloc (Nat.le_refl _) _).trans (below_grown hg4 (Nat.le_refl _) (by simp)); have hv4 := hv.below hb4 (Nat.le_refl _)))
  go_ret
  exact ⟨rfl, (by repeat (first | exact Below.refl _ _ | assumption | refine Below.drew ?_ | refine below_drewN' ?_ _ | refine Below.setCell ?_ (by first | omega | (simp; done) | (simp; omega)) _ | refine Below.alloc ?_ (by first | omega | (simp; done) | (simp; omega)) _ | refine Below.trans ?_ (Below.mono (by assumption) (by first | omega | (simp; done) | (simp; omega)))))⟩
set_option maxRecDepth 100000 in
set_option maxHeartbeats 1000000 in
theorem below_k6f (f : Nat → Bool) (c : Nat) (nb : Int) (g : Bool) (hv : NodesAt w v L) (hn : L[id]? = some ⟨6, f, (c : Int), nb, g⟩) (hid : id ≠ k) (h1 : decide (k ≤ c) = true) (hc : Ans L v k c false) :
    Calls Try.prog 44 #[v, .int .i64 (id : Int), .int .i64 (k : Int)] w fun e w' => e = .returned (.bool false) ∧ Below w.heap.size w w' := by
  have hne : ((id : Int) == (k : Int)) = false := by simp; omega
  have hN0 := HoldsN.made w na0 rfl
  have hv0 := hv
  obtain ⟨a, cap, rfl, hs⟩ := hv0
  clear hs
  obtain ⟨bb, off, rfl, hE⟩ := hv.eight hn
  obtain ⟨e0, e1, e2, e3, e4, e5, e6, e7⟩ := hE
  have hil := (List.getElem?_eq_some_iff.1 hn).1
  simp only at e0 e1 e2 e3 e4 e5 e6 e7
  clear hn hid
  replace hc := Lib.hid hc
  go_enter Try.func44, Try.ntmps44
  go_wp2_with (refine wpList_store_node rfl (.tmp 7) (.tmp 14) rfl rfl rfl hN0 rfl rfl (one8 _ _ _ _ _ _ _ _) ?_; intro w4 hN4 hg4; obtain ⟨q0, q1, q2, q3, q4, q5, q6, q7⟩ := hN4.cells; have hb4 : Below w.heap.size w w4 := ((Below.refl _ _).alloc (Nat.le_refl _) _).trans (below_grown hg4 (Nat.le_refl _) (by simp)); have hv4 := hv.below hb4 (Nat.le_refl _))
  refine (hc.out _ hv4).mono ?_
  rintro e w5 ⟨rfl, hb5⟩
  clear q0 q1 q2 q3 q4 q5 q6 q7 e0 e1 e2 e3 e4 e5 e6 e7
  obtain ⟨q0, q1, q2, q3, q4, q5, q6, q7⟩ := (hN4.below hb5 hN4.lt).cells
  go_wp2_with fail
  have hs4 := hb4.size
  go_ret
  exact ⟨rfl, (by repeat (first | exact Below.refl _ _ | assumption | refine Below.drew ?_ | refine below_drewN' ?_ _ | refine Below.setCell ?_ (by first | omega | (simp; done) | (simp; omega)) _ | refine Below.alloc ?_ (by first | omega | (simp; done) | (simp; omega)) _ | refine Below.trans ?_ (Below.mono (by assumption) (by first | omega | (simp; done) | (simp; omega)))))⟩
set_option maxRecDepth 100000 in
set_option maxHeartbeats 1000000 in
theorem below_k6t (f : Nat → Bool) (c : Nat) (nb : Int) (g : Bool) (hv : NodesAt w v L) (hn : L[id]? = some ⟨6, f, (c : Int), nb, g⟩) (hid : id ≠ k) (h1 : decide (k ≤ c) = true) (hc : Ans L v k c true) :
    Calls Try.prog 44 #[v, .int .i64 (id : Int), .int .i64 (k : Int)] w fun e w' => e = .returned (.bool true) ∧ Below w.heap.size w w' := by
  have hne : ((id : Int) == (k : Int)) = false := by simp; omega
  have hN0 := HoldsN.made w na0 rfl
  have hv0 := hv
  obtain ⟨a, cap, rfl, hs⟩ := hv0
  clear hs
  obtain ⟨bb, off, rfl, hE⟩ := hv.eight hn
  obtain ⟨e0, e1, e2, e3, e4, e5, e6, e7⟩ := hE
  have hil := (List.getElem?_eq_some_iff.1 hn).1
  simp only at e0 e1 e2 e3 e4 e5 e6 e7
  clear hn hid
  replace hc := Lib.hid hc
  go_enter Try.func44, Try.ntmps44
  go_wp2_with (refine wpList_store_node rfl (.tmp 7) (.tmp 14) rfl rfl rfl hN0 rfl rfl (one8 _ _ _ _ _ _ _ _) ?_; intro w4 hN4 hg4; obtain ⟨q0, q1, q2, q3, q4, q5, q6, q7⟩ := hN4.cells; have hb4 : Below w.heap.size w w4 := ((Below.refl _ _).alloc (Nat.le_refl _) _).trans (below_grown hg4 (Nat.le_refl _) (by simp)); have hv4 := hv.below hb4 (Nat.le_refl _))
  refine (hc.out _ hv4).mono ?_
  rintro e w5 ⟨rfl, hb5⟩
  clear q0 q1 q2 q3 q4 q5 q6 q7 e0 e1 e2 e3 e4 e5 e6 e7
  obtain ⟨q0, q1, q2, q3, q4, q5, q6, q7⟩ := (hN4.below hb5 hN4.lt).cells
  go_wp2_with fail
  have hs4 := hb4.size
  go_ret
  exact ⟨rfl, (by repeat (first | exact Below.refl _ _ | assumption | refine Below.drew ?_ | refine below_drewN' ?_ _ | refine Below.setCell ?_ (by first | omega | (simp; done) | (simp; omega)) _ | refine Below.alloc ?_ (by first | omega | (simp; done) | (simp; omega)) _ | refine Below.trans ?_ (Below.mono (by assumption) (by first | omega | (simp; done) | (simp; omega)))))⟩
set_option maxRecDepth 100000 in
set_option maxHeartbeats 1000000 in
theorem below_k7n (f : Nat → Bool) (c : Nat) (nb : Int) (g : Bool) (hv : NodesAt w v L) (hn : L[id]? = some ⟨7, f, (c : Int), nb, g⟩) (hid : id ≠ k) (h1 : decide (k ≤ c) = false) :
    Calls Try.prog 44 #[v, .int .i64 (id : Int), .int .i64 (k : Int)] w fun e w' => e = .returned (.bool false) ∧ Below w.heap.size w w' := by
  have hne : ((id : Int) == (k : Int)) = false := by simp; omega
  have hN0 := HoldsN.made w na0 rfl
  have hv0 := hv
  obtain ⟨a, cap, rfl, hs⟩ := hv0
  clear hs
  obtain ⟨bb, off, rfl, hE⟩ := hv.eight hn
  obtain ⟨e0, e1, e2, e3, e4, e5, e6, e7⟩ := hE
  have hil := (List.getElem?_eq_some_iff.1 hn).1
  simp only at e0 e1 e2 e3 e4 e5 e6 e7
  clear hn hid
  go_enter Try.func44, Try.ntmps44
  go_wp2_with (first | (refine wpList_store_node rfl (.tmp 7) (.tmp 14) rfl rfl rfl hN0 rfl rfl (one8 _ _ _ _ _ _ _ _) ?_; intro w4 hN4 hg4; obtain ⟨q0, q1, q2, q3, q4, q5, q6, q7⟩ := hN4.cells; have hb4 : Below w.heap.size w w4 := ((Below.refl _ _).alloc (Nat.le_refl _) _).trans (below_grown hg4 (Nat.le_refl _) (by simp)); have hv4 := hv.below hb4 (Nat.le_refl _)))
  go_ret
  exact ⟨rfl, (by repeat (first | exact Below.refl _ _ | assumption | refine Below.drew ?_ | refine below_drewN' ?_ _ | refine Below.setCell ?_ (by first | omega | (simp; done) | (simp; omega)) _ | refine Below.alloc ?_ (by first | omega | (simp; done) | (simp; omega)) _ | refine Below.trans ?_ (Below.mono (by assumption) (by first | omega | (simp; done) | (simp; omega)))))⟩
set_option maxRecDepth 100000 in
set_option maxHeartbeats 1000000 in
theorem below_k7f (f : Nat → Bool) (c : Nat) (nb : Int) (g : Bool) (hv : NodesAt w v L) (hn : L[id]? = some ⟨7, f, (c : Int), nb, g⟩) (hid : id ≠ k) (h1 : decide (k ≤ c) = true) (hc : Ans L v k c false) :
    Calls Try.prog 44 #[v, .int .i64 (id : Int), .int .i64 (k : Int)] w fun e w' => e = .returned (.bool false) ∧ Below w.heap.size w w' := by
  have hne : ((id : Int) == (k : Int)) = false := by simp; omega
  have hN0 := HoldsN.made w na0 rfl
  have hv0 := hv
  obtain ⟨a, cap, rfl, hs⟩ := hv0
  clear hs
  obtain ⟨bb, off, rfl, hE⟩ := hv.eight hn
  obtain ⟨e0, e1, e2, e3, e4, e5, e6, e7⟩ := hE
  have hil := (List.getElem?_eq_some_iff.1 hn).1
  simp only at e0 e1 e2 e3 e4 e5 e6 e7
  clear hn hid
  replace hc := Lib.hid hc
  go_enter Try.func44, Try.ntmps44
  go_wp2_with (refine wpList_store_node rfl (.tmp 7) (.tmp 14) rfl rfl rfl hN0 rfl rfl (one8 _ _ _ _ _ _ _ _) ?_; intro w4 hN4 hg4; obtain ⟨q0, q1, q2, q3, q4, q5, q6, q7⟩ := hN4.cells; have hb4 : Below w.heap.size w w4 := ((Below.refl _ _).alloc (Nat.le_refl _) _).trans (below_grown hg4 (Nat.le_refl _) (by simp)); have hv4 := hv.below hb4 (Nat.le_refl _))
  refine (hc.out _ hv4).mono ?_
  rintro e w5 ⟨rfl, hb5⟩
  clear q0 q1 q2 q3 q4 q5 q6 q7 e0 e1 e2 e3 e4 e5 e6 e7
  obtain ⟨q0, q1, q2, q3, q4, q5, q6, q7⟩ := (hN4.below hb5 hN4.lt).cells
  go_wp2_with fail
  have hs4 := hb4.size
  go_ret
  exact ⟨rfl, (by repeat (first | exact Below.refl _ _ | assumption | refine Below.drew ?_ | refine below_drewN' ?_ _ | refine Below.setCell ?_ (by first | omega | (simp; done) | (simp; omega)) _ | refine Below.alloc ?_ (by first | omega | (simp; done) | (simp; omega)) _ | refine Below.trans ?_ (Below.mono (by assumption) (by first | omega | (simp; done) | (simp; omega)))))⟩
set_option maxRecDepth 100000 in
set_option maxHeartbeats 1000000 in
theorem below_k7t (f : Nat → Bool) (c : Nat) (nb : Int) (g : Bool) (hv : NodesAt w v L) (hn : L[id]? = some ⟨7, f, (c : Int), nb, g⟩) (hid : id ≠ k) (h1 : decide (k ≤ c) = true) (hc : Ans L v k c true) :
    Calls Try.prog 44 #[v, .int .i64 (id : Int), .int .i64 (k : Int)] w fun e w' => e = .returned (.bool true) ∧ Below w.heap.size w w' := by
  have hne : ((id : Int) == (k : Int)) = false := by simp; omega
  have hN0 := HoldsN.made w na0 rfl
  have hv0 := hv
  obtain ⟨a, cap, rfl, hs⟩ := hv0
  clear hs
  obtain ⟨bb, off, rfl, hE⟩ := hv.eight hn
  obtain ⟨e0, e1, e2, e3, e4, e5, e6, e7⟩ := hE
  have hil := (List.getElem?_eq_some_iff.1 hn).1
  simp only at e0 e1 e2 e3 e4 e5 e6 e7
  clear hn hid
  replace hc := Lib.hid hc
  go_enter Try.func44, Try.ntmps44
  go_wp2_with (refine wpList_store_node rfl (.tmp 7) (.tmp 14) rfl rfl rfl hN0 rfl rfl (one8 _ _ _ _ _ _ _ _) ?_; intro w4 hN4 hg4; obtain ⟨q0, q1, q2, q3, q4, q5, q6, q7⟩ := hN4.cells; have hb4 : Below w.heap.size w w4 := ((Below.refl _ _).alloc (Nat.le_refl _) _).trans (below_grown hg4 (Nat.le_refl _) (by simp)); have hv4 := hv.below hb4 (Nat.le_refl _))
  refine (hc.out _ hv4).mono ?_
  rintro e w5 ⟨rfl, hb5⟩
  clear q0 q1 q2 q3 q4 q5 q6 q7 e0 e1 e2 e3 e4 e5 e6 e7
  obtain ⟨q0, q1, q2, q3, q4, q5, q6, q7⟩ := (hN4.below hb5 hN4.lt).cells
  go_wp2_with fail
  have hs4 := hb4.size
  go_ret
  exact ⟨rfl, (by repeat (first | exact Below.refl _ _ | assumption | refine Below.drew ?_ | refine below_drewN' ?_ _ | refine Below.setCell ?_ (by first | omega | (simp; done) | (simp; omega)) _ | refine Below.alloc ?_ (by first | omega | (simp; done) | (simp; omega)) _ | refine Below.trans ?_ (Below.mono (by assumption) (by first | omega | (simp; done) | (simp; omega)))))⟩
set_option maxRecDepth 100000 in
set_option maxHeartbeats 1000000 in
theorem below_k3nn (f : Nat → Bool) (c d : Nat) (g : Bool) (hv : NodesAt w v L) (hn : L[id]? = some ⟨3, f, (c : Int), (d : Int), g⟩) (hid : id ≠ k) (h1 : decide (k ≤ c) = false) (h2 : decide (k ≤ d) = false) :
    Calls Try.prog 44 #[v, .int .i64 (id : Int), .int .i64 (k : Int)] w fun e w' => e = .returned (.bool false) ∧ Below w.heap.size w w' := by
  have hne : ((id : Int) == (k : Int)) = false := by simp; omega
  have hN0 := HoldsN.made w na0 rfl
  have hv0 := hv
  obtain ⟨a, cap, rfl, hs⟩ := hv0
  clear hs
  obtain ⟨bb, off, rfl, hE⟩ := hv.eight hn
  obtain ⟨e0, e1, e2, e3, e4, e5, e6, e7⟩ := hE
  have hil := (List.getElem?_eq_some_iff.1 hn).1
  simp only at e0 e1 e2 e3 e4 e5 e6 e7
  clear hn hid
  go_enter Try.func44, Try.ntmps44
  go_wp2_with (first | (refine wpList_store_node rfl (.tmp 7) (.tmp 14) rfl rfl rfl hN0 rfl rfl (one8 _ _ _ _ _ _ _ _) ?_; intro w4 hN4 hg4; obtain ⟨q0, q1, q2, q3, q4, q5, q6, q7⟩ := hN4.cells; have hb4 : Below w.heap.size w w4 := ((Below.refl _ _).alloc (Nat.le_refl _) _).trans (below_grown hg4 (Nat.le_refl _) (by simp)); have hv4 := hv.below hb4 (Nat.le_refl _)))
  go_ret
  exact ⟨rfl, (by repeat (first | exact Below.refl _ _ | assumption | refine Below.drew ?_ | refine below_drewN' ?_ _ | refine Below.setCell ?_ (by first | omega | (simp; done) | (simp; omega)) _ | refine Below.alloc ?_ (by first | omega | (simp; done) | (simp; omega)) _ | refine Below.trans ?_ (Below.mono (by assumption) (by first | omega | (simp; done) | (simp; omega)))))⟩
set_option maxRecDepth 100000 in
set_option maxHeartbeats 1000000 in
theorem below_k3nf (f : Nat → Bool) (c d : Nat) (g : Bool) (hv : NodesAt w v L) (hn : L[id]? = some ⟨3, f, (c : Int), (d : Int), g⟩) (hid : id ≠ k) (h1 : decide (k ≤ c) = false) (h2 : decide (k ≤ d) = true) (hd : Ans L v k d false) :
    Calls Try.prog 44 #[v, .int .i64 (id : Int), .int .i64 (k : Int)] w fun e w' => e = .returned (.bool false) ∧ Below w.heap.size w w' := by
  have hne : ((id : Int) == (k : Int)) = false := by simp; omega
  have hN0 := HoldsN.made w na0 rfl
  have hv0 := hv
  obtain ⟨a, cap, rfl, hs⟩ := hv0
  clear hs
  obtain ⟨bb, off, rfl, hE⟩ := hv.eight hn
  obtain ⟨e0, e1, e2, e3, e4, e5, e6, e7⟩ := hE
  have hil := (List.getElem?_eq_some_iff.1 hn).1
  simp only at e0 e1 e2 e3 e4 e5 e6 e7
  clear hn hid
  replace hd := Lib.hid hd
  go_enter Try.func44, Try.ntmps44
  go_wp2_with (first | (refine wpList_store_node rfl (.tmp 7) (.tmp 14) rfl rfl rfl hN0 rfl rfl (one8 _ _ _ _ _ _ _ _) ?_; intro w4 hN4 hg4; obtain ⟨q0, q1, q2, q3, q4, q5, q6, q7⟩ := hN4.cells; have hb4 : Below w.heap.size w w4 := ((Below.refl _ _).alloc (Nat.le_refl _) _).trans (below_grown hg4 (Nat.le_refl _) (by simp)); have hv4 := hv.below hb4 (Nat.le_refl _)) | (go_at_call 44; ((with_reducible refine (hd.out _ hv4).mono ?_); rintro e w6 ⟨rfl, hb6⟩)))
  have hs4 := hb4.size
  go_ret
  exact ⟨rfl, (by repeat (first | exact Below.refl _ _ | assumption | refine Below.drew ?_ | refine below_drewN' ?_ _ | refine Below.setCell ?_ (by first | omega | (simp; done) | (simp; omega)) _ | refine Below.alloc ?_ (by first | omega | (simp; done) | (simp; omega)) _ | refine Below.trans ?_ (Below.mono (by assumption) (by first | omega | (simp; done) | (simp; omega)))))⟩
set_option maxRecDepth 100000 in
set_option maxHeartbeats 1000000 in
theorem below_k3nt (f : Nat → Bool) (c d : Nat) (g : Bool) (hv : NodesAt w v L) (hn : L[id]? = some ⟨3, f, (c : Int), (d : Int), g⟩) (hid : id ≠ k) (h1 : decide (k ≤ c) = false) (h2 : decide (k ≤ d) = true) (hd : Ans L v k d true) :
    Calls Try.prog 44 #[v, .int .i64 (id : Int), .int .i64 (k : Int)] w fun e w' => e = .returned (.bool true) ∧ Below w.heap.size w w' := by
  have hne : ((id : Int) == (k : Int)) = false := by simp; omega
  have hN0 := HoldsN.made w na0 rfl
  have hv0 := hv
  obtain ⟨a, cap, rfl, hs⟩ := hv0
  clear hs
  obtain ⟨bb, off, rfl, hE⟩ := hv.eight hn
  obtain ⟨e0, e1, e2, e3, e4, e5, e6, e7⟩ := hE
  have hil := (List.getElem?_eq_some_iff.1 hn).1
  simp only at e0 e1 e2 e3 e4 e5 e6 e7
  clear hn hid
  replace hd := Lib.hid hd
  go_enter Try.func44, Try.ntmps44
  go_wp2_with (first | (refine wpList_store_node rfl (.tmp 7) (.tmp 14) rfl rfl rfl hN0 rfl rfl (one8 _ _ _ _ _ _ _ _) ?_; intro w4 hN4 hg4; obtain ⟨q0, q1, q2, q3, q4, q5, q6, q7⟩ := hN4.cells; have hb4 : Below w.heap.size w w4 := ((Below.refl _ _).alloc (Nat.le_refl _) _).trans (below_grown hg4 (Nat.le_refl _) (by simp)); have hv4 := hv.below hb4 (Nat.le_refl _)) | (go_at_call 44; ((with_reducible refine (hd.out _ hv4).mono ?_); rintro e w6 ⟨rfl, hb6⟩)))
  have hs4 := hb4.size
  go_ret
  exact ⟨rfl, (by repeat (first | exact Below.refl _ _ | assumption | refine Below.drew ?_ | refine below_drewN' ?_ _ | refine Below.setCell ?_ (by first | omega | (simp; done) | (simp; omega)) _ | refine Below.alloc ?_ (by first | omega | (simp; done) | (simp; omega)) _ | refine Below.trans ?_ (Below.mono (by assumption) (by first | omega | (simp; done) | (simp; omega)))))⟩
set_option maxRecDepth 100000 in
set_option maxHeartbeats 1000000 in
theorem below_k3fn (f : Nat → Bool) (c d : Nat) (g : Bool) (hv : NodesAt w v L) (hn : L[id]? = some ⟨3, f, (c : Int), (d : Int), g⟩) (hid : id ≠ k) (h1 : decide (k ≤ c) = true) (h2 : decide (k ≤ d) = false) (hc : Ans L v k c false) :
    Calls Try.prog 44 #[v, .int .i64 (id : Int), .int .i64 (k : Int)] w fun e w' => e = .returned (.bool false) ∧ Below w.heap.size w w' := by
  have hne : ((id : Int) == (k : Int)) = false := by simp; omega
  have hN0 := HoldsN.made w na0 rfl
  have hv0 := hv
  obtain ⟨a, cap, rfl, hs⟩ := hv0
  clear hs
  obtain ⟨bb, off, rfl, hE⟩ := hv.eight hn
  obtain ⟨e0, e1, e2, e3, e4, e5, e6, e7⟩ := hE
  have hil := (List.getElem?_eq_some_iff.1 hn).1
  simp only at e0 e1 e2 e3 e4 e5 e6 e7
  clear hn hid
  replace hc := Lib.hid hc
  go_enter Try.func44, Try.ntmps44
  go_wp2_with (refine wpList_store_node rfl (.tmp 7) (.tmp 14) rfl rfl rfl hN0 rfl rfl (one8 _ _ _ _ _ _ _ _) ?_; intro w4 hN4 hg4; obtain ⟨q0, q1, q2, q3, q4, q5, q6, q7⟩ := hN4.cells; have hb4 : Below w.heap.size w w4 := ((Below.refl _ _).alloc (Nat.le_refl _) _).trans (below_grown hg4 (Nat.le_refl _) (by simp)); have hv4 := hv.below hb4 (Nat.le_refl _))
  refine (hc.out _ hv4).mono ?_
  rintro e w5 ⟨rfl, hb5⟩
  clear q0 q1 q2 q3 q4 q5 q6 q7 e0 e1 e2 e3 e4 e5 e6 e7
  obtain ⟨q0, q1, q2, q3, q4, q5, q6, q7⟩ := (hN4.below hb5 hN4.lt).cells
  go_wp2_with fail
  have hs4 := hb4.size
  go_ret
  exact ⟨rfl, (by repeat (first | exact Below.refl _ _ | assumption | refine Below.drew ?_ | refine below_drewN' ?_ _ | refine Below.setCell ?_ (by first | omega | (simp; done) | (simp; omega)) _ | refine Below.alloc ?_ (by first | omega | (simp; done) | (simp; omega)) _ | refine Below.trans ?_ (Below.mono (by assumption) (by first | omega | (simp; done) | (simp; omega)))))⟩
set_option maxRecDepth 100000 in
set_option maxHeartbeats 1000000 in
theorem below_k3ff (f : Nat → Bool) (c d : Nat) (g : Bool) (hv : NodesAt w v L) (hn : L[id]? = some ⟨3, f, (c : Int), (d : Int), g⟩) (hid : id ≠ k) (h1 : decide (k ≤ c) = true) (h2 : decide (k ≤ d) = true) (hc : Ans L v k c false) (hd : Ans L v k d false) :
    Calls Try.prog 44 #[v, .int .i64 (id : Int), .int .i64 (k : Int)] w fun e w' => e = .returned (.bool false) ∧ Below w.heap.size w w' := by
  have hne : ((id : Int) == (k : Int)) = false := by simp; omega
  have hN0 := HoldsN.made w na0 rfl
  have hv0 := hv
  obtain ⟨a, cap, rfl, hs⟩ := hv0
  clear hs
  obtain ⟨bb, off, rfl, hE⟩ := hv.eight hn
  obtain ⟨e0, e1, e2, e3, e4, e5, e6, e7⟩ := hE
  have hil := (List.getElem?_eq_some_iff.1 hn).1
  simp only at e0 e1 e2 e3 e4 e5 e6 e7
  clear hn hid
  replace hc := Lib.hid hc
  replace hd := Lib.hid hd
  go_enter Try.func44, Try.ntmps44
  go_wp2_with (first | (refine wpList_store_node rfl (.tmp 7) (.tmp 14) rfl rfl rfl hN0 rfl rfl (one8 _ _ _ _ _ _ _ _) ?_; intro w4 hN4 hg4; obtain ⟨q0, q1, q2, q3, q4, q5, q6, q7⟩ := hN4.cells; have hb4 : Below w.heap.size w w4 := ((Below.refl _ _).alloc (Nat.le_refl _) _).trans (below_grown hg4 (Nat.le_refl _) (by simp)); have hv4 := hv.below hb4 (Nat.le_refl _)) | (go_at_call 44; first | ((with_reducible refine (hc.out _ hv4).mono ?_); rintro e w5 ⟨rfl, hb5⟩; have hv5 := hv4.below hb5 (Nat.le_refl _); clear q0 q1 q2 q3 q4 q5 q6 q7; obtain ⟨q0, q1, q2, q3, q4, q5, q6, q7⟩ := (hN4.below hb5 hN4.lt).cells) | ((with_reducible refine (hd.out _ hv5).mono ?_); rintro e w6 ⟨rfl, hb6⟩)))
  have hs4 := hb4.size
  have hs5 := hb5.size
  go_ret
  exact ⟨rfl, (by repeat (first | exact Below.refl _ _ | assumption | refine Below.drew ?_ | refine below_drewN' ?_ _ | refine Below.setCell ?_ (by first | omega | (simp; done) | (simp; omega)) _ | refine Below.alloc ?_ (by first | omega | (simp; done) | (simp; omega)) _ | refine Below.trans ?_ (Below.mono (by assumption) (by first | omega | (simp; done) | (simp; omega)))))⟩
set_option maxRecDepth 100000 in
set_option maxHeartbeats 1000000 in
theorem below_k3ft (f : Nat → Bool) (c d : Nat) (g : Bool) (hv : NodesAt w v L) (hn : L[id]? = some ⟨3, f, (c : Int), (d : Int), g⟩) (hid : id ≠ k) (h1 : decide (k ≤ c) = true) (h2 : decide (k ≤ d) = true) (hc : Ans L v k c false) (hd : Ans L v k d true) :
    Calls Try.prog 44 #[v, .int .i64 (id : Int), .int .i64 (k : Int)] w fun e w' => e = .returned (.bool true) ∧ Below w.heap.size w w' := by
  have hne : ((id : Int) == (k : Int)) = false := by simp; omega
  have hN0 := HoldsN.made w na0 rfl
  have hv0 := hv
  obtain ⟨a, cap, rfl, hs⟩ := hv0
  clear hs
  obtain ⟨bb, off, rfl, hE⟩ := hv.eight hn
  obtain ⟨e0, e1, e2, e3, e4, e5, e6, e7⟩ := hE
  have hil := (List.getElem?_eq_some_iff.1 hn).1
  simp only at e0 e1 e2 e3 e4 e5 e6 e7
  clear hn hid
  replace hc := Lib.hid hc
  replace hd := Lib.hid hd
  go_enter Try.func44, Try.ntmps44
  go_wp2_with (first | (refine wpList_store_node rfl (.tmp 7) (.tmp 14) rfl rfl rfl hN0 rfl rfl (one8 _ _ _ _ _ _ _ _) ?_; intro w4 hN4 hg4; obtain ⟨q0, q1, q2, q3, q4, q5, q6, q7⟩ := hN4.cells; have hb4 : Below w.heap.size w w4 := ((Below.refl _ _).alloc (Nat.le_refl _) _).trans (below_grown hg4 (Nat.le_refl _) (by simp)); have hv4 := hv.below hb4 (Nat.le_refl _)) | (go_at_call 44; first | ((with_reducible refine (hc.out _ hv4).mono ?_); rintro e w5 ⟨rfl, hb5⟩; have hv5 := hv4.below hb5 (Nat.le_refl _); clear q0 q1 q2 q3 q4 q5 q6 q7; obtain ⟨q0, q1, q2, q3, q4, q5, q6, q7⟩ := (hN4.below hb5 hN4.lt).cells) | ((with_reducible refine (hd.out _ hv5).mono ?_); rintro e w6 ⟨rfl, hb6⟩)))
  have hs4 := hb4.size
  have hs5 := hb5.size
  go_ret
  exact ⟨rfl, (by repeat (first | exact Below.refl _ _ | assumption | refine Below.drew ?_ | refine below_drewN' ?_ _ | refine Below.setCell ?_ (by first | omega | (simp; done) | (simp; omega)) _ | refine Below.alloc ?_ (by first | omega | (simp; done) | (simp; omega)) _ | refine Below.trans ?_ (Below.mono (by assumption) (by first | omega | (simp; done) | (simp; omega)))))⟩
set_option maxRecDepth 100000 in
set_option maxHeartbeats 1000000 in
theorem below_k3t (f : Nat → Bool) (c d : Nat) (g : Bool) (hv : NodesAt w v L) (hn : L[id]? = some ⟨3, f, (c : Int), (d : Int), g⟩) (hid : id ≠ k) (h1 : decide (k ≤ c) = true) (hc : Ans L v k c true) :
    Calls Try.prog 44 #[v, .int .i64 (id : Int), .int .i64 (k : Int)] w fun e w' => e = .returned (.bool true) ∧ Below w.heap.size w w' := by
  have hne : ((id : Int) == (k : Int)) = false := by simp; omega
  have hN0 := HoldsN.made w na0 rfl
  have hv0 := hv
  obtain ⟨a, cap, rfl, hs⟩ := hv0
  clear hs
  obtain ⟨bb, off, rfl, hE⟩ := hv.eight hn
  obtain ⟨e0, e1, e2, e3, e4, e5, e6, e7⟩ := hE
  have hil := (List.getElem?_eq_some_iff.1 hn).1
  simp only at e0 e1 e2 e3 e4 e5 e6 e7
  clear hn hid
  replace hc := Lib.hid hc
  go_enter Try.func44, Try.ntmps44
  go_wp2_with (refine wpList_store_node rfl (.tmp 7) (.tmp 14) rfl rfl rfl hN0 rfl rfl (one8 _ _ _ _ _ _ _ _) ?_; intro w4 hN4 hg4; obtain ⟨q0, q1, q2, q3, q4, q5, q6, q7⟩ := hN4.cells; have hb4 : Below w.heap.size w w4 := ((Below.refl _ _).alloc (Nat.le_refl _) _).trans (below_grown hg4 (Nat.le_refl _) (by simp)); have hv4 := hv.below hb4 (Nat.le_refl _))
  refine (hc.out _ hv4).mono ?_
  rintro e w5 ⟨rfl, hb5⟩
  clear q0 q1 q2 q3 q4 q5 q6 q7 e0 e1 e2 e3 e4 e5 e6 e7
  obtain ⟨q0, q1, q2, q3, q4, q5, q6, q7⟩ := (hN4.below hb5 hN4.lt).cells
  go_wp2_with fail
  have hs4 := hb4.size
  go_ret
  exact ⟨rfl, (by repeat (first | exact Below.refl _ _ | assumption | refine Below.drew ?_ | refine below_drewN' ?_ _ | refine Below.setCell ?_ (by first | omega | (simp; done) | (simp; omega)) _ | refine Below.alloc ?_ (by first | omega | (simp; done) | (simp; omega)) _ | refine Below.trans ?_ (Below.mono (by assumption) (by first | omega | (simp; done) | (simp; omega)))))⟩
set_option maxRecDepth 100000 in
set_option maxHeartbeats 1000000 in
theorem below_k4nn (f : Nat → Bool) (c d : Nat) (g : Bool) (hv : NodesAt w v L) (hn : L[id]? = some ⟨4, f, (c : Int), (d : Int), g⟩) (hid : id ≠ k) (h1 : decide (k ≤ c) = false) (h2 : decide (k ≤ d) = false) :
    Calls Try.prog 44 #[v, .int .i64 (id : Int), .int .i64 (k : Int)] w fun e w' => e = .returned (.bool false) ∧ Below w.heap.size w w' := by
  have hne : ((id : Int) == (k : Int)) = false := by simp; omega
  have hN0 := HoldsN.made w na0 rfl
  have hv0 := hv
  obtain ⟨a, cap, rfl, hs⟩ := hv0
  clear hs
  obtain ⟨bb, off, rfl, hE⟩ := hv.eight hn
  obtain ⟨e0, e1, e2, e3, e4, e5, e6, e7⟩ := hE
  have hil := (List.getElem?_eq_some_iff.1 hn).1
  simp only at e0 e1 e2 e3 e4 e5 e6 e7
  clear hn hid
  go_enter Try.func44, Try.ntmps44
  go_wp2_with (first | (refine wpList_store_node rfl (.tmp 7) (.tmp 14) rfl rfl rfl hN0 rfl rfl (one8 _ _ _ _ _ _ _ _) ?_; intro w4 hN4 hg4; obtain ⟨q0, q1, q2, q3, q4, q5, q6, q7⟩ := hN4.cells; have hb4 : Below w.heap.size w w4 := ((Below.refl _ _).alloc (Nat.le_refl _) _).trans (below_grown hg4 (Nat.le_refl _) (by simp)); have hv4 := hv.below hb4 (Nat.le_refl _)))
  go_ret
  exact ⟨rfl, (by repeat (first | exact Below.refl _ _ | assumption | refine Below.drew ?_ | refine below_drewN' ?_ _ | refine Below.setCell ?_ (by first | omega | (simp; done) | (simp; omega)) _ | refine Below.alloc ?_ (by first | omega | (simp; done) | (simp; omega)) _ | refine Below.trans ?_ (Below.mono (by assumption) (by first | omega | (simp; done) | (simp; omega)))))⟩
set_option maxRecDepth 100000 in
set_option maxHeartbeats 1000000 in
theorem below_k4nf (f : Nat → Bool) (c d : Nat) (g : Bool) (hv : NodesAt w v L) (hn : L[id]? = some ⟨4, f, (c : Int), (d : Int), g⟩) (hid : id ≠ k) (h1 : decide (k ≤ c) = false) (h2 : decide (k ≤ d) = true) (hd : Ans L v k d false) :
    Calls Try.prog 44 #[v, .int .i64 (id : Int), .int .i64 (k : Int)] w fun e w' => e = .returned (.bool false) ∧ Below w.heap.size w w' := by
  have hne : ((id : Int) == (k : Int)) = false := by simp; omega
  have hN0 := HoldsN.made w na0 rfl
  have hv0 := hv
  obtain ⟨a, cap, rfl, hs⟩ := hv0
  clear hs
  obtain ⟨bb, off, rfl, hE⟩ := hv.eight hn
  obtain ⟨e0, e1, e2, e3, e4, e5, e6, e7⟩ := hE
  have hil := (List.getElem?_eq_some_iff.1 hn).1
  simp only at e0 e1 e2 e3 e4 e5 e6 e7
  clear hn hid
  replace hd := Lib.hid hd
  go_enter Try.func44, Try.ntmps44
  go_wp2_with (first | (refine wpList_store_node rfl (.tmp 7) (.tmp 14) rfl rfl rfl hN0 rfl rfl (one8 _ _ _ _ _ _ _ _) ?_; intro w4 hN4 hg4; obtain ⟨q0, q1, q2, q3, q4, q5, q6, q7⟩ := hN4.cells; have hb4 : Below w.heap.size w w4 := ((Below.refl _ _).alloc (Nat.le_refl _) _).trans (below_grown hg4 (Nat.le_refl _) (by simp)); have hv4 := hv.below hb4 (Nat.le_refl _)) | (go_at_call 44; ((with_reducible refine (hd.out _ hv4).mono ?_); rintro e w6 ⟨rfl, hb6⟩)))
  have hs4 := hb4.size
  go_ret
  exact ⟨rfl, (by repeat (first | exact Below.refl _ _ | assumption | refine Below.drew ?_ | refine below_drewN' ?_ _ | refine Below.setCell ?_ (by first | omega | (simp; done) | (simp; omega)) _ | refine Below.alloc ?_ (by first | omega | (simp; done) | (simp; omega)) _ | refine Below.trans ?_ (Below.mono (by assumption) (by first | omega | (simp; done) | (simp; omega)))))⟩
set_option maxRecDepth 100000 in
set_option maxHeartbeats 1000000 in
theorem below_k4nt (f : Nat → Bool) (c d : Nat) (g : Bool) (hv : NodesAt w v L) (hn : L[id]? = some ⟨4, f, (c : Int), (d : Int), g⟩) (hid : id ≠ k) (h1 : decide (k ≤ c) = false) (h2 : decide (k ≤ d) = true) (hd : Ans L v k d true) :
    Calls Try.prog 44 #[v, .int .i64 (id : Int), .int .i64 (k : Int)] w fun e w' => e = .returned (.bool true) ∧ Below w.heap.size w w' := by
  have hne : ((id : Int) == (k : Int)) = false := by simp; omega
  have hN0 := HoldsN.made w na0 rfl
  have hv0 := hv
  obtain ⟨a, cap, rfl, hs⟩ := hv0
  clear hs
  obtain ⟨bb, off, rfl, hE⟩ := hv.eight hn
  obtain ⟨e0, e1, e2, e3, e4, e5, e6, e7⟩ := hE
  have hil := (List.getElem?_eq_some_iff.1 hn).1
  simp only at e0 e1 e2 e3 e4 e5 e6 e7
  clear hn hid
  replace hd := Lib.hid hd
  go_enter Try.func44, Try.ntmps44
  go_wp2_with (first | (refine wpList_store_node rfl (.tmp 7) (.tmp 14) rfl rfl rfl hN0 rfl rfl (one8 _ _ _ _ _ _ _ _) ?_; intro w4 hN4 hg4; obtain ⟨q0, q1, q2, q3, q4, q5, q6, q7⟩ := hN4.cells; have hb4 : Below w.heap.size w w4 := ((Below.refl _ _).alloc (Nat.le_refl _) _).trans (below_grown hg4 (Nat.le_refl _) (by simp)); have hv4 := hv.below hb4 (Nat.le_refl _)) | (go_at_call 44; ((with_reducible refine (hd.out _ hv4).mono ?_); rintro e w6 ⟨rfl, hb6⟩)))
  have hs4 := hb4.size
  go_ret
  exact ⟨rfl, (by repeat (first | exact Below.refl _ _ | assumption | refine Below.drew ?_ | refine below_drewN' ?_ _ | refine Below.setCell ?_ (by first | omega | (simp; done) | (simp; omega)) _ | refine Below.alloc ?_ (by first | omega | (simp; done) | (simp; omega)) _ | refine Below.trans ?_ (Below.mono (by assumption) (by first | omega | (simp; done) | (simp; omega)))))⟩
set_option maxRecDepth 100000 in
set_option maxHeartbeats 1000000 in
theorem below_k4fn (f : Nat → Bool) (c d : Nat) (g : Bool) (hv : NodesAt w v L) (hn : L[id]? = some ⟨4, f, (c : Int), (d : Int), g⟩) (hid : id ≠ k) (h1 : decide (k ≤ c) = true) (h2 : decide (k ≤ d) = false) (hc : Ans L v k c false) :
    Calls Try.prog 44 #[v, .int .i64 (id : Int), .int .i64 (k : Int)] w fun e w' => e = .returned (.bool false) ∧ Below w.heap.size w w' := by
  have hne : ((id : Int) == (k : Int)) = false := by simp; omega
  have hN0 := HoldsN.made w na0 rfl
  have hv0 := hv
  obtain ⟨a, cap, rfl, hs⟩ := hv0
  clear hs
  obtain ⟨bb, off, rfl, hE⟩ := hv.eight hn
  obtain ⟨e0, e1, e2, e3, e4, e5, e6, e7⟩ := hE
  have hil := (List.getElem?_eq_some_iff.1 hn).1
  simp only at e0 e1 e2 e3 e4 e5 e6 e7
  clear hn hid
  replace hc := Lib.hid hc
  go_enter Try.func44, Try.ntmps44
  go_wp2_with (refine wpList_store_node rfl (.tmp 7) (.tmp 14) rfl rfl rfl hN0 rfl rfl (one8 _ _ _ _ _ _ _ _) ?_; intro w4 hN4 hg4; obtain ⟨q0, q1, q2, q3, q4, q5, q6, q7⟩ := hN4.cells; have hb4 : Below w.heap.size w w4 := ((Below.refl _ _).alloc (Nat.le_refl _) _).trans (below_grown hg4 (Nat.le_refl _) (by simp)); have hv4 := hv.below hb4 (Nat.le_refl _))
  refine (hc.out _ hv4).mono ?_
  rintro e w5 ⟨rfl, hb5⟩
  clear q0 q1 q2 q3 q4 q5 q6 q7 e0 e1 e2 e3 e4 e5 e6 e7
  obtain ⟨q0, q1, q2, q3, q4, q5, q6, q7⟩ := (hN4.below hb5 hN4.lt).cells
  go_wp2_with fail
  have hs4 := hb4.size
  go_ret
  exact ⟨rfl, (by repeat (first | exact Below.refl _ _ | assumption | refine Below.drew ?_ | refine below_drewN' ?_ _ | refine Below.setCell ?_ (by first | omega | (simp; done) | (simp; omega)) _ | refine Below.alloc ?_ (by first | omega | (simp; done) | (simp; omega)) _ | refine Below.trans ?_ (Below.mono (by assumption) (by first | omega | (simp; done) | (simp; omega)))))⟩
set_option maxRecDepth 100000 in
set_option maxHeartbeats 1000000 in
theorem below_k4ff (f : Nat → Bool) (c d : Nat) (g : Bool) (hv : NodesAt w v L) (hn : L[id]? = some ⟨4, f, (c : Int), (d : Int), g⟩) (hid : id ≠ k) (h1 : decide (k ≤ c) = true) (h2 : decide (k ≤ d) = true) (hc : Ans L v k c false) (hd : Ans L v k d false) :
    Calls Try.prog 44 #[v, .int .i64 (id : Int), .int .i64 (k : Int)] w fun e w' => e = .returned (.bool false) ∧ Below w.heap.size w w' := by
  have hne : ((id : Int) == (k : Int)) = false := by simp; omega
  have hN0 := HoldsN.made w na0 rfl
  have hv0 := hv
  obtain ⟨a, cap, rfl, hs⟩ := hv0
  clear hs
  obtain ⟨bb, off, rfl, hE⟩ := hv.eight hn
  obtain ⟨e0, e1, e2, e3, e4, e5, e6, e7⟩ := hE
  have hil := (List.getElem?_eq_some_iff.1 hn).1
  simp only at e0 e1 e2 e3 e4 e5 e6 e7
  clear hn hid
  replace hc := Lib.hid hc
  replace hd := Lib.hid hd
  go_enter Try.func44, Try.ntmps44
  go_wp2_with (first | (refine wpList_store_node rfl (.tmp 7) (.tmp 14) rfl rfl rfl hN0 rfl rfl (one8 _ _ _ _ _ _ _ _) ?_; intro w4 hN4 hg4; obtain ⟨q0, q1, q2, q3, q4, q5, q6, q7⟩ := hN4.cells; have hb4 : Below w.heap.size w w4 := ((Below.refl _ _).alloc (Nat.le_refl _) _).trans (below_grown hg4 (Nat.le_refl _) (by simp)); have hv4 := hv.below hb4 (Nat.le_refl _)) | (go_at_call 44; first | ((with_reducible refine (hc.out _ hv4).mono ?_); rintro e w5 ⟨rfl, hb5⟩; have hv5 := hv4.below hb5 (Nat.le_refl _); clear q0 q1 q2 q3 q4 q5 q6 q7; obtain ⟨q0, q1, q2, q3, q4, q5, q6, q7⟩ := (hN4.below hb5 hN4.lt).cells) | ((with_reducible refine (hd.out _ hv5).mono ?_); rintro e w6 ⟨rfl, hb6⟩)))
  have hs4 := hb4.size
  have hs5 := hb5.size
  go_ret
  exact ⟨rfl, (by repeat (first | exact Below.refl _ _ | assumption | refine Below.drew ?_ | refine below_drewN' ?_ _ | refine Below.setCell ?_ (by first | omega | (simp; done) | (simp; omega)) _ | refine Below.alloc ?_ (by first | omega | (simp; done) | (simp; omega)) _ | refine Below.trans ?_ (Below.mono (by assumption) (by first | omega | (simp; done) | (simp; omega)))))⟩
set_option maxRecDepth 100000 in
set_option maxHeartbeats 1000000 in
theorem below_k4ft (f : Nat → Bool) (c d : Nat) (g : Bool) (hv : NodesAt w v L) (hn : L[id]? = some ⟨4, f, (c : Int), (d : Int), g⟩) (hid : id ≠ k) (h1 : decide (k ≤ c) = true) (h2 : decide (k ≤ d) = true) (hc : Ans L v k c false) (hd : Ans L v k d true) :
    Calls Try.prog 44 #[v, .int .i64 (id : Int), .int .i64 (k : Int)] w fun e w' => e = .returned (.bool true) ∧ Below w.heap.size w w' := by
  have hne : ((id : Int) == (k : Int)) = false := by simp; omega
  have hN0 := HoldsN.made w na0 rfl
  have hv0 := hv
  obtain ⟨a, cap, rfl, hs⟩ := hv0
  clear hs
  obtain ⟨bb, off, rfl, hE⟩ := hv.eight hn
  obtain ⟨e0, e1, e2, e3, e4, e5, e6, e7⟩ := hE
  have hil := (List.getElem?_eq_some_iff.1 hn).1
  simp only at e0 e1 e2 e3 e4 e5 e6 e7
  clear hn hid
  replace hc := Lib.hid hc
  replace hd := Lib.hid hd
  go_enter Try.func44, Try.ntmps44
  go_wp2_with (first | (refine wpList_store_node rfl (.tmp 7) (.tmp 14) rfl rfl rfl hN0 rfl rfl (one8 _ _ _ _ _ _ _ _) ?_; intro w4 hN4 hg4; obtain ⟨q0, q1, q2, q3, q4, q5, q6, q7⟩ := hN4.cells; have hb4 : Below w.heap.size w w4 := ((Below.refl _ _).alloc (Nat.le_refl _) _).trans (below_grown hg4 (Nat.le_refl _) (by simp)); have hv4 := hv.below hb4 (Nat.le_refl _)) | (go_at_call 44; first | ((with_reducible refine (hc.out _ hv4).mono ?_); rintro e w5 ⟨rfl, hb5⟩; have hv5 := hv4.below hb5 (Nat.le_refl _); clear q0 q1 q2 q3 q4 q5 q6 q7; obtain ⟨q0, q1, q2, q3, q4, q5, q6, q7⟩ := (hN4.below hb5 hN4.lt).cells) | ((with_reducible refine (hd.out _ hv5).mono ?_); rintro e w6 ⟨rfl, hb6⟩)))
  have hs4 := hb4.size
  have hs5 := hb5.size
  go_ret
  exact ⟨rfl, (by repeat (first | exact Below.refl _ _ | assumption | refine Below.drew ?_ | refine below_drewN' ?_ _ | refine Below.setCell ?_ (by first | omega | (simp; done) | (simp; omega)) _ | refine Below.alloc ?_ (by first | omega | (simp; done) | (simp; omega)) _ | refine Below.trans ?_ (Below.mono (by assumption) (by first | omega | (simp; done) | (simp; omega)))))⟩
set_option maxRecDepth 100000 in
set_option maxHeartbeats 1000000 in
theorem below_k4t (f : Nat → Bool) (c d : Nat) (g : Bool) (hv : NodesAt w v L) (hn : L[id]? = some ⟨4, f, (c : Int), (d : Int), g⟩) (hid : id ≠ k) (h1 : decide (k ≤ c) = true) (hc : Ans L v k c true) :
    Calls Try.prog 44 #[v, .int .i64 (id : Int), .int .i64 (k : Int)] w fun e w' => e = .returned (.bool true) ∧ Below w.heap.size w w' := by
  have hne : ((id : Int) == (k : Int)) = false := by simp; omega
  have hN0 := HoldsN.made w na0 rfl
  have hv0 := hv
  obtain ⟨a, cap, rfl, hs⟩ := hv0
  clear hs
  obtain ⟨bb, off, rfl, hE⟩ := hv.eight hn
  obtain ⟨e0, e1, e2, e3, e4, e5, e6, e7⟩ := hE
  have hil := (List.getElem?_eq_some_iff.1 hn).1
  simp only at e0 e1 e2 e3 e4 e5 e6 e7
  clear hn hid
  replace hc := Lib.hid hc
  go_enter Try.func44, Try.ntmps44
  go_wp2_with (refine wpList_store_node rfl (.tmp 7) (.tmp 14) rfl rfl rfl hN0 rfl rfl (one8 _ _ _ _ _ _ _ _) ?_; intro w4 hN4 hg4; obtain ⟨q0, q1, q2, q3, q4, q5, q6, q7⟩ := hN4.cells; have hb4 : Below w.heap.size w w4 := ((Below.refl _ _).alloc (Nat.le_refl _) _).trans (below_grown hg4 (Nat.le_refl _) (by simp)); have hv4 := hv.below hb4 (Nat.le_refl _))
  refine (hc.out _ hv4).mono ?_
  rintro e w5 ⟨rfl, hb5⟩
  clear q0 q1 q2 q3 q4 q5 q6 q7 e0 e1 e2 e3 e4 e5 e6 e7
  obtain ⟨q0, q1, q2, q3, q4, q5, q6, q7⟩ := (hN4.below hb5 hN4.lt).cells
  go_wp2_with fail
  have hs4 := hb4.size
  go_ret
  exact ⟨rfl, (by repeat (first | exact Below.refl _ _ | assumption | refine Below.drew ?_ | refine below_drewN' ?_ _ | refine Below.setCell ?_ (by first | omega | (simp; done) | (simp; omega)) _ | refine Below.alloc ?_ (by first | omega | (simp; done) | (simp; omega)) _ | refine Below.trans ?_ (Below.mono (by assumption) (by first | omega | (simp; done) | (simp; omega)))))⟩
set_option maxRecDepth 100000 in
set_option maxHeartbeats 1000000 in
theorem below_k5nn (f : Nat → Bool) (c d : Nat) (g : Bool) (hv : NodesAt w v L) (hn : L[id]? = some ⟨5, f, (c : Int), (d : Int), g⟩) (hid : id ≠ k) (h1 : decide (k ≤ c) = false) (h2 : decide (k ≤ d) = false) :
    Calls Try.prog 44 #[v, .int .i64 (id : Int), .int .i64 (k : Int)] w fun e w' => e = .returned (.bool false) ∧ Below w.heap.size w w' := by
  have hne : ((id : Int) == (k : Int)) = false := by simp; omega
  have hN0 := HoldsN.made w na0 rfl
  have hv0 := hv
  obtain ⟨a, cap, rfl, hs⟩ := hv0
  clear hs
  obtain ⟨bb, off, rfl, hE⟩ := hv.eight hn
  obtain ⟨e0, e1, e2, e3, e4, e5, e6, e7⟩ := hE
  have hil := (List.getElem?_eq_some_iff.1 hn).1
  simp only at e0 e1 e2 e3 e4 e5 e6 e7
  clear hn hid
  go_enter Try.func44, Try.ntmps44
  go_wp2_with (first | (refine wpList_store_node rfl (.tmp 7) (.tmp 14) rfl rfl rfl hN0 rfl rfl (one8 _ _ _ _ _ _ _ _) ?_; intro w4 hN4 hg4; obtain ⟨q0, q1, q2, q3, q4, q5, q6, q7⟩ := hN4.cells; have hb4 : Below w.heap.size w w4 := ((Below.refl _ _).alloc (Nat.le_refl _) _).trans (below_grown hg4 (Nat.le_refl _) (by simp)); have hv4 := hv.below hb4 (Nat.le_refl _)))
  go_ret
  exact ⟨rfl, (by repeat (first | exact Below.refl _ _ | assumption | refine Below.drew ?_ | refine below_drewN' ?_ _ | refine Below.setCell ?_ (by first | omega | (simp; done) | (simp; omega)) _ | refine Below.alloc ?_ (by first | omega | (simp; done) | (simp; omega)) _ | refine Below.trans ?_ (Below.mono (by assumption) (by first | omega | (simp; done) | (simp; omega)))))⟩
set_option maxRecDepth 100000 in
set_option maxHeartbeats 1000000 in
theorem below_k5nf (f : Nat → Bool) (c d : Nat) (g : Bool) (hv : NodesAt w v L) (hn : L[id]? = some ⟨5, f, (c : Int), (d : Int), g⟩) (hid : id ≠ k) (h1 : decide (k ≤ c) = false) (h2 : decide (k ≤ d) = true) (hd : Ans L v k d false) :
    Calls Try.prog 44 #[v, .int .i64 (id : Int), .int .i64 (k : Int)] w fun e w' => e = .returned (.bool false) ∧ Below w.heap.size w w' := by
  have hne : ((id : Int) == (k : Int)) = false := by simp; omega
  have hN0 := HoldsN.made w na0 rfl
  have hv0 := hv
  obtain ⟨a, cap, rfl, hs⟩ := hv0
  clear hs
  obtain ⟨bb, off, rfl, hE⟩ := hv.eight hn
  obtain ⟨e0, e1, e2, e3, e4, e5, e6, e7⟩ := hE
  have hil := (List.getElem?_eq_some_iff.1 hn).1
  simp only at e0 e1 e2 e3 e4 e5 e6 e7
  clear hn hid
  replace hd := Lib.hid hd
  go_enter Try.func44, Try.ntmps44
  go_wp2_with (first | (refine wpList_store_node rfl (.tmp 7) (.tmp 14) rfl rfl rfl hN0 rfl rfl (one8 _ _ _ _ _ _ _ _) ?_; intro w4 hN4 hg4; obtain ⟨q0, q1, q2, q3, q4, q5, q6, q7⟩ := hN4.cells; have hb4 : Below w.heap.size w w4 := ((Below.refl _ _).alloc (Nat.le_refl _) _).trans (below_grown hg4 (Nat.le_refl _) (by simp)); have hv4 := hv.below hb4 (Nat.le_refl _)) | (go_at_call 44; ((with_reducible refine (hd.out _ hv4).mono ?_); rintro e w6 ⟨rfl, hb6⟩)))
  have hs4 := hb4.size
  go_ret
  exact ⟨rfl, (by repeat (first | exact Below.refl _ _ | assumption | refine Below.drew ?_ | refine below_drewN' ?_ _ | refine Below.setCell ?_ (by first | omega | (simp; done) | (simp; omega)) _ | refine Below.alloc ?_ (by first | omega | (simp; done) | (simp; omega)) _ | refine Below.trans ?_ (Below.mono (by assumption) (by first | omega | (simp; done) | (simp; omega)))))⟩
set_option maxRecDepth 100000 in
set_option maxHeartbeats 1000000 in
theorem below_k5nt (f : Nat → Bool) (c d : Nat) (g : Bool) (hv : NodesAt w v L) (hn : L[id]? = some ⟨5, f, (c : Int), (d : Int), g⟩) (hid : id ≠ k) (h1 : decide (k ≤ c) = false) (h2 : decide (k ≤ d) = true) (hd : Ans L v k d true) :
    Calls Try.prog 44 #[v, .int .i64 (id : Int), .int .i64 (k : Int)] w fun e w' => e = .returned (.bool true) ∧ Below w.heap.size w w' := by
  have hne : ((id : Int) == (k : Int)) = false := by simp; omega
  have hN0 := HoldsN.made w na0 rfl
  have hv0 := hv
  obtain ⟨a, cap, rfl, hs⟩ := hv0
  clear hs
  obtain ⟨bb, off, rfl, hE⟩ := hv.eight hn
  obtain ⟨e0, e1, e2, e3, e4, e5, e6, e7⟩ := hE
  have hil := (List.getElem?_eq_some_iff.1 hn).1
  simp only at e0 e1 e2 e3 e4 e5 e6 e7
  clear hn hid
  replace hd := Lib.hid hd
  go_enter Try.func44, Try.ntmps44
  go_wp2_with (first | (refine wpList_store_node rfl (.tmp 7) (.tmp 14) rfl rfl rfl hN0 rfl rfl (one8 _ _ _ _ _ _ _ _) ?_; intro w4 hN4 hg4; obtain ⟨q0, q1, q2, q3, q4, q5, q6, q7⟩ := hN4.cells; have hb4 : Below w.heap.size w w4 := ((Below.refl _ _).alloc (Nat.le_refl _) _).trans (below_grown hg4 (Nat.le_refl _) (by simp)); have hv4 := hv.below hb4 (Nat.le_refl _)) | (go_at_call 44; ((with_reducible refine (hd.out _ hv4).mono ?_); rintro e w6 ⟨rfl, hb6⟩)))
  have hs4 := hb4.size
  go_ret
  exact ⟨rfl, (by repeat (first | exact Below.refl _ _ | assumption | refine Below.drew ?_ | refine below_drewN' ?_ _ | refine Below.setCell ?_ (by first | omega | (simp; done) | (simp; omega)) _ | refine Below.alloc ?_ (by first | omega | (simp; done) | (simp; omega)) _ | refine Below.trans ?_ (Below.mono (by assumption) (by first | omega | (simp; done) | (simp; omega)))))⟩
set_option maxRecDepth 100000 in
set_option maxHeartbeats 1000000 in
theorem below_k5fn (f : Nat → Bool) (c d : Nat) (g : Bool) (hv : NodesAt w v L) (hn : L[id]? = some ⟨5, f, (c : Int), (d : Int), g⟩) (hid : id ≠ k) (h1 : decide (k ≤ c) = true) (h2 : decide (k ≤ d) = false) (hc : Ans L v k c false) :
    Calls Try.prog 44 #[v, .int .i64 (id : Int), .int .i64 (k : Int)] w fun e w' => e = .returned (.bool false) ∧ Below w.heap.size w w' := by
  have hne : ((id : Int) == (k : Int)) = false := by simp; omega
  have hN0 := HoldsN.made w na0 rfl
  have hv0 := hv
  obtain ⟨a, cap, rfl, hs⟩ := hv0
  clear hs
  obtain ⟨bb, off, rfl, hE⟩ := hv.eight hn
  obtain ⟨e0, e1, e2, e3, e4, e5, e6, e7⟩ := hE
  have hil := (List.getElem?_eq_some_iff.1 hn).1
  simp only at e0 e1 e2 e3 e4 e5 e6 e7
  clear hn hid
  replace hc := Lib.hid hc
  go_enter Try.func44, Try.ntmps44
  go_wp2_with (refine wpList_store_node rfl (.tmp 7) (.tmp 14) rfl rfl rfl hN0 rfl rfl (one8 _ _ _ _ _ _ _ _) ?_; intro w4 hN4 hg4; obtain ⟨q0, q1, q2, q3, q4, q5, q6, q7⟩ := hN4.cells; have hb4 : Below w.heap.size w w4 := ((Below.refl _ _).alloc (Nat.le_refl _) _).trans (below_grown hg4 (Nat.le_refl _) (by simp)); have hv4 := hv.below hb4 (Nat.le_refl _))
  refine (hc.out _ hv4).mono ?_
  rintro e w5 ⟨rfl, hb5⟩
  clear q0 q1 q2 q3 q4 q5 q6 q7 e0 e1 e2 e3 e4 e5 e6 e7
  obtain ⟨q0, q1, q2, q3, q4, q5, q6, q7⟩ := (hN4.below hb5 hN4.lt).cells
  go_wp2_with fail
  have hs4 := hb4.size
  go_ret
  exact ⟨rfl, (by repeat (first | exact Below.refl _ _ | assumption | refine Below.drew ?_ | refine below_drewN' ?_ _ | refine Below.setCell ?_ (by first | omega | (simp; done) | (simp; omega)) _ | refine Below.alloc ?_ (by first | omega | (simp; done) | (simp; omega)) _ | refine Below.trans ?_ (Below.mono (by assumption) (by first | omega | (simp; done) | (simp; omega)))))⟩
set_option maxRecDepth 100000 in
set_option maxHeartbeats 1000000 in
theorem below_k5ff (f : Nat → Bool) (c d : Nat) (g : Bool) (hv : NodesAt w v L) (hn : L[id]? = some ⟨5, f, (c : Int), (d : Int), g⟩) (hid : id ≠ k) (h1 : decide (k ≤ c) = true) (h2 : decide (k ≤ d) = true) (hc : Ans L v k c false) (hd : Ans L v k d false) :
    Calls Try.prog 44 #[v, .int .i64 (id : Int), .int .i64 (k : Int)] w fun e w' => e = .returned (.bool false) ∧ Below w.heap.size w w' := by
  have hne : ((id : Int) == (k : Int)) = false := by simp; omega
  have hN0 := HoldsN.made w na0 rfl
  have hv0 := hv
  obtain ⟨a, cap, rfl, hs⟩ := hv0
  clear hs
  obtain ⟨bb, off, rfl, hE⟩ := hv.eight hn
  obtain ⟨e0, e1, e2, e3, e4, e5, e6, e7⟩ := hE
  have hil := (List.getElem?_eq_some_iff.1 hn).1
  simp only at e0 e1 e2 e3 e4 e5 e6 e7
  clear hn hid
  replace hc := Lib.hid hc
  replace hd := Lib.hid hd
  go_enter Try.func44, Try.ntmps44
  go_wp2_with (first | (refine wpList_store_node rfl (.tmp 7) (.tmp 14) rfl rfl rfl hN0 rfl rfl (one8 _ _ _ _ _ _ _ _) ?_; intro w4 hN4 hg4; obtain ⟨q0, q1, q2, q3, q4, q5, q6, q7⟩ := hN4.cells; have hb4 : Below w.heap.size w w4 := ((Below.refl _ _).alloc (Nat.le_refl _) _).trans (below_grown hg4 (Nat.le_refl _) (by simp)); have hv4 := hv.below hb4 (Nat.le_refl _)) | (go_at_call 44; first | ((with_reducible refine (hc.out _ hv4).mono ?_); rintro e w5 ⟨rfl, hb5⟩; have hv5 := hv4.below hb5 (Nat.le_refl _); clear q0 q1 q2 q3 q4 q5 q6 q7; obtain ⟨q0, q1, q2, q3, q4, q5, q6, q7⟩ := (hN4.below hb5 hN4.lt).cells) | ((with_reducible refine (hd.out _ hv5).mono ?_); rintro e w6 ⟨rfl, hb6⟩)))
  have hs4 := hb4.size
  have hs5 := hb5.size
  go_ret
  exact ⟨rfl, (by repeat (first | exact Below.refl _ _ | assumption | refine Below.drew ?_ | refine below_drewN' ?_ _ | refine Below.setCell ?_ (by first | omega | (simp; done) | (simp; omega)) _ | refine Below.alloc ?_ (by first | omega | (simp; done) | (simp; omega)) _ | refine Below.trans ?_ (Below.mono (by assumption) (by first | omega | (simp; done) | (simp; omega)))))⟩
set_option maxRecDepth 100000 in
set_option maxHeartbeats 1000000 in
theorem below_k5ft (f : Nat → Bool) (c d : Nat) (g : Bool) (hv : NodesAt w v L) (hn : L[id]? = some ⟨5, f, (c : Int), (d : Int), g⟩) (hid : id ≠ k) (h1 : decide (k ≤ c) = true) (h2 : decide (k ≤ d) = true) (hc : Ans L v k c false) (hd : Ans L v k d true) :
    Calls Try.prog 44 #[v, .int .i64 (id : Int), .int .i64 (k : Int)] w fun e w' => e = .returned (.bool true) ∧ Below w.heap.size w w' := by
  have hne : ((id : Int) == (k : Int)) = false := by simp; omega
  have hN0 := HoldsN.made w na0 rfl
  have hv0 := hv
  obtain ⟨a, cap, rfl, hs⟩ := hv0
  clear hs
  obtain ⟨bb, off, rfl, hE⟩ := hv.eight hn
  obtain ⟨e0, e1, e2, e3, e4, e5, e6, e7⟩ := hE
  have hil := (List.getElem?_eq_some_iff.1 hn).1
  simp only at e0 e1 e2 e3 e4 e5 e6 e7
  clear hn hid
  replace hc := Lib.hid hc
  replace hd := Lib.hid hd
  go_enter Try.func44, Try.ntmps44
  go_wp2_with (first | (refine wpList_store_node rfl (.tmp 7) (.tmp 14) rfl rfl rfl hN0 rfl rfl (one8 _ _ _ _ _ _ _ _) ?_; intro w4 hN4 hg4; obtain ⟨q0, q1, q2, q3, q4, q5, q6, q7⟩ := hN4.cells; have hb4 : Below w.heap.size w w4 := ((Below.refl _ _).alloc (Nat.le_refl _) _).trans (below_grown hg4 (Nat.le_refl _) (by simp)); have hv4 := hv.below hb4 (Nat.le_refl _)) | (go_at_call 44; first | ((with_reducible refine (hc.out _ hv4).mono ?_); rintro e w5 ⟨rfl, hb5⟩; have hv5 := hv4.below hb5 (Nat.le_refl _); clear q0 q1 q2 q3 q4 q5 q6 q7; obtain ⟨q0, q1, q2, q3, q4, q5, q6, q7⟩ := (hN4.below hb5 hN4.lt).cells) | ((with_reducible refine (hd.out _ hv5).mono ?_); rintro e w6 ⟨rfl, hb6⟩)))
  have hs4 := hb4.size
  have hs5 := hb5.size
  go_ret
  exact ⟨rfl, (by repeat (first | exact Below.refl _ _ | assumption | refine Below.drew ?_ | refine below_drewN' ?_ _ | refine Below.setCell ?_ (by first | omega | (simp; done) | (simp; omega)) _ | refine Below.alloc ?_ (by first | omega | (simp; done) | (simp; omega)) _ | refine Below.trans ?_ (Below.mono (by assumption) (by first | omega | (simp; done) | (simp; omega)))))⟩
set_option maxRecDepth 100000 in
set_option maxHeartbeats 1000000 in
theorem below_k5t (f : Nat → Bool) (c d : Nat) (g : Bool) (hv : NodesAt w v L) (hn : L[id]? = some ⟨5, f, (c : Int), (d : Int), g⟩) (hid : id ≠ k) (h1 : decide (k ≤ c) = true) (hc : Ans L v k c true) :
    Calls Try.prog 44 #[v, .int .i64 (id : Int), .int .i64 (k : Int)] w fun e w' => e = .returned (.bool true) ∧ Below w.heap.size w w' := by
  have hne : ((id : Int) == (k : Int)) = false := by simp; omega
  have hN0 := HoldsN.made w na0 rfl
  have hv0 := hv
  obtain ⟨a, cap, rfl, hs⟩ := hv0
  clear hs
  obtain ⟨bb, off, rfl, hE⟩ := hv.eight hn
  obtain ⟨e0, e1, e2, e3, e4, e5, e6, e7⟩ := hE
  have hil := (List.getElem?_eq_some_iff.1 hn).1
  simp only at e0 e1 e2 e3 e4 e5 e6 e7
  clear hn hid
  replace hc := Lib.hid hc
  go_enter Try.func44, Try.ntmps44
  go_wp2_with (refine wpList_store_node rfl (.tmp 7) (.tmp 14) rfl rfl rfl hN0 rfl rfl (one8 _ _ _ _ _ _ _ _) ?_; intro w4 hN4 hg4; obtain ⟨q0, q1, q2, q3, q4, q5, q6, q7⟩ := hN4.cells; have hb4 : Below w.heap.size w w4 := ((Below.refl _ _).alloc (Nat.le_refl _) _).trans (below_grown hg4 (Nat.le_refl _) (by simp)); have hv4 := hv.below hb4 (Nat.le_refl _))
  refine (hc.out _ hv4).mono ?_
  rintro e w5 ⟨rfl, hb5⟩
  clear q0 q1 q2 q3 q4 q5 q6 q7 e0 e1 e2 e3 e4 e5 e6 e7
  obtain ⟨q0, q1, q2, q3, q4, q5, q6, q7⟩ := (hN4.below hb5 hN4.lt).cells
  go_wp2_with fail
  have hs4 := hb4.size
  go_ret
  exact ⟨rfl, (by repeat (first | exact Below.refl _ _ | assumption | refine Below.drew ?_ | refine below_drewN' ?_ _ | refine Below.setCell ?_ (by first | omega | (simp; done) | (simp; omega)) _ | refine Below.alloc ?_ (by first | omega | (simp; done) | (simp; omega)) _ | refine Below.trans ?_ (Below.mono (by assumption) (by first | omega | (simp; done) | (simp; omega)))))⟩

theorem below_any (hw : WfN L) (v : Value) (k : Nat) : ∀ id n, L[id]? = some n → Ans L v k id (belB L id k) := by
  intro id
  induction id using Nat.strongRecOn with
  | _ id ih =>
    intro n hn w hv
    by_cases hid : id = k
    · subst hid
      rw [belB_self]
      exact below_self v id w
    · have hok := hw id n hn
      have hkd := ok_kind hok
      have hil := (List.getElem?_eq_some_iff.1 hn).1
      obtain ⟨kd, f, na, nb, g⟩ := n
      simp only at hkd
      have hK : (3 ≤ kd ∧ kd ≤ 5) ∨ (kd = 6 ∨ kd = 7) ∨ ¬ (3 ≤ kd ∧ kd ≤ 7) := by omega
      rcases hK with hk | hk | hk
      · obtain ⟨⟨h1, h2⟩, h3, h4⟩ := ok_two hok hk
        simp only at h1 h2 h3 h4
        obtain ⟨c, rfl⟩ := Int.eq_ofNat_of_zero_le h1
        obtain ⟨d, rfl⟩ := Int.eq_ofNat_of_zero_le h3
        have hcl : c < id := by omega
        have hdl : d < id := by omega
        rw [bel_two hw hn hid (kids_two hk f c d g)]
        have hc := ih c hcl _ (List.getElem?_eq_getElem (by omega))
        have hd := ih d hdl _ (List.getElem?_eq_getElem (by omega))
        have hkk : kd = 3 ∨ kd = 4 ∨ kd = 5 := by omega
        rcases part_cases hw hc with ⟨c1, c2⟩ | ⟨c1, B, c2, hB⟩ <;> rw [c2]
        · rcases part_cases hw hd with ⟨d1, d2⟩ | ⟨d1, D, d2, hD⟩ <;> rw [d2]
          · rcases hkk with rfl | rfl | rfl
            · exact below_k3nn f c d g hv hn hid c1 d1
            · exact below_k4nn f c d g hv hn hid c1 d1
            · exact below_k5nn f c d g hv hn hid c1 d1
          · rcases hkk with rfl | rfl | rfl <;> cases D
            · exact below_k3nf f c d g hv hn hid c1 d1 hD
            · exact below_k3nt f c d g hv hn hid c1 d1 hD
            · exact below_k4nf f c d g hv hn hid c1 d1 hD
            · exact below_k4nt f c d g hv hn hid c1 d1 hD
            · exact below_k5nf f c d g hv hn hid c1 d1 hD
            · exact below_k5nt f c d g hv hn hid c1 d1 hD
        · cases B
          · rcases part_cases hw hd with ⟨d1, d2⟩ | ⟨d1, D, d2, hD⟩ <;> rw [d2]
            · rcases hkk with rfl | rfl | rfl
              · exact below_k3fn f c d g hv hn hid c1 d1 hB
              · exact below_k4fn f c d g hv hn hid c1 d1 hB
              · exact below_k5fn f c d g hv hn hid c1 d1 hB
            · rcases hkk with rfl | rfl | rfl <;> cases D
              · exact below_k3ff f c d g hv hn hid c1 d1 hB hD
              · exact below_k3ft f c d g hv hn hid c1 d1 hB hD
              · exact below_k4ff f c d g hv hn hid c1 d1 hB hD
              · exact below_k4ft f c d g hv hn hid c1 d1 hB hD
              · exact below_k5ff f c d g hv hn hid c1 d1 hB hD
              · exact below_k5ft f c d g hv hn hid c1 d1 hB hD
          · rw [Bool.true_or]
            rcases hkk with rfl | rfl | rfl
            · exact below_k3t f c d g hv hn hid c1 hB
            · exact below_k4t f c d g hv hn hid c1 hB
            · exact below_k5t f c d g hv hn hid c1 hB
      · obtain ⟨h1, h2⟩ := ok_one hok hk
        simp only at h1 h2
        obtain ⟨c, rfl⟩ := Int.eq_ofNat_of_zero_le h1
        have hcl : c < id := by omega
        rw [bel_one hw hn hid (kids_one hk f c nb g)]
        have hc := ih c hcl _ (List.getElem?_eq_getElem (by omega))
        rcases part_cases hw hc with ⟨c1, c2⟩ | ⟨c1, B, c2, hB⟩ <;> rw [c2]
        · rcases hk with rfl | rfl
          · exact below_k6n f c nb g hv hn hid c1
          · exact below_k7n f c nb g hv hn hid c1
        · rcases hk with rfl | rfl <;> cases B
          · exact below_k6f f c nb g hv hn hid c1 hB
          · exact below_k6t f c nb g hv hn hid c1 hB
          · exact below_k7f f c nb g hv hn hid c1 hB
          · exact below_k7t f c nb g hv hn hid c1 hB
      · rw [bel_none hw hn hid (kids_none hk f na nb g)]
        have hK : kd = 0 ∨ kd = 1 ∨ kd = 2 ∨ kd = 8 := by omega
        rcases hK with rfl | rfl | rfl | rfl
        · exact below_k0 f na nb g hv hn hid
        · exact below_k1 f na nb g hv hn hid
        · exact below_k2 f na nb g hv hn hid
        · exact below_k8 f na nb g hv hn hid

end Go.Proofs.Ytbmejpghoafapaa
