/-
  Two calls of turn in a region that draws its order: what holds in between.
-/
import Derived.Test.YtbmejpghoafapaaTurn3
import Derived.Test.YtbmejpghoafapaaInvOps
namespace Go.Proofs.Ytbmejpghoafapaa
open Go.RowKit Go.Maps
section
variable {o : Oper} {a : Act} {w : World} {K : Act → World → Prop} {Q : Exit → Act → World → Prop}
theorem Try.size82 : (Try.prog.info? 82).map (·.size) = some 2 := by kernel_rfl
theorem wp_load_tv (x : Operand) (ho : o.op = .load 82 x) {p b d : Nat} (hx : a.eval x = .pointer (some ⟨p, 0, none⟩)) (hB : HoldsX w p b d) (h : K (a.put o.dst (tv b d)) w) : o.wp Try.prog a w K Q := by
  have c0 := hB.c0
  have c1 := hB.c1
  unfold Oper.wp execOp
  simp only [ho, hx]
  simp [go_sem, c0, c1, Result.andThen]
  exact h
theorem wp_field56 (x : Operand) (i q : Nat) (hq : (i = 2 ∧ q = 5) ∨ (i = 3 ∧ q = 6)) (ho : o.op = .fieldAddr 56 x i) {p : Nat} (hx : a.eval x = .pointer (some ⟨p, 0, none⟩)) (h : K (a.put o.dst (.pointer (some ⟨p, q, none⟩))) w) : o.wp Try.prog a w K Q := by
  unfold Oper.wp execOp
  rcases hq with ⟨rfl, rfl⟩ | ⟨rfl, rfl⟩
  all_goals
    simp only [ho, hx]
    simp [go_sem, Result.andThen]
    exact h
theorem wp_load3 (x : Operand) (ho : o.op = .load 3 x) {p q : Nat} (hx : a.eval x = .pointer (some ⟨p, q, none⟩)) {z : Value} (hc : w.cell? ⟨p, q, none⟩ = some z) (h : K (a.put o.dst z) w) : o.wp Try.prog a w K Q := by
  unfold Oper.wp execOp
  simp only [ho, hx]
  simp [go_sem, hc, Result.andThen]
  exact h
theorem wp_store3 (x y : Operand) (ho : o.op = .store 3 x y) {p q : Nat} (hx : a.eval x = .pointer (some ⟨p, q, none⟩)) {z : Value} {n : Int} (hy : a.eval y = .int .i64 n) (hc : w.cell? ⟨p, q, none⟩ = some z) (hf : w.frozen? ⟨p, q, none⟩ = false)
    (h : K (a.put o.dst undef) (w.setCell ⟨p, q, none⟩ (.int .i64 n))) : o.wp Try.prog a w K Q := by
  unfold Oper.wp execOp
  simp only [ho, hx, hy]
  simp [go_sem, hc, hf, Result.andThen]
  exact h
end

section
variable {n0 K b m d id bx nd c e i1 i2 : Nat} {w4 w' : World} {v v5 : Value} {L0 L L5 : List Nd} {M M5 : Nat → Option Nat} {kd : Int} {f : Nat → Bool} {ng : Bool} {s : Nat × Nat} {done : Nat → Bool}
/-- The node's fields, while some of the operations are done. -/
def fA (c : Nat) (s : Nat × Nat) (done : Nat → Bool) : Nat := if done 9 = true then s.1 else c
def fB (e : Nat) (s : Nat × Nat) (done : Nat → Bool) : Nat := if done 11 = true then s.2 else e
structure TI (n0 K b m d : Nat) (L0 : List Nd) (w4 : World) (v : Value) (L : List Nd) (M : Nat → Option Nat) (id bx nd : Nat) (kd : Int) (f : Nat → Bool) (c e : Nat) (ng : Bool) (i1 i2 : Nat) (s : Nat × Nat) (done : Nat → Bool) (w' : World) (v5 : Value) (L5 : List Nd) (M5 : Nat → Option Nat) : Prop where
  st : St n0 K w' b m d v5 L0 L5 M5
  pre : Pre L L5
  low : ∀ j, id ≤ j → M5 j = M j
  fr : ∀ x, x < w4.heap.size → Off b m d v x → x ≠ nd → w'.heap[x]? = w4.heap[x]?
  ow : Ow w4 v v5
  bel : Below n0 w4 w'
  ofx : Off b m d v5 bx
  ofn : Off b m d v5 nd
  hx : HoldsX w' bx b d
  hn : HoldsN w' nd (Nd.cells ⟨kd, f, (fA c s done : Int), (fB e s done : Int), ng⟩).toArray
  m1 : done 3 = true → Mir L5 i1 s.1
  m2 : done 7 = true → Mir L5 i2 s.2
  p9 : done 9 = true → done 2 = true ∧ done 3 = true ∧ done 6 = true
  p11 : done 11 = true → done 2 = true ∧ done 3 = true ∧ done 6 = true ∧ done 7 = true

/-- The same, hidden. -/
def TJ (n0 K b m d : Nat) (L0 : List Nd) (w4 : World) (v : Value) (L : List Nd) (M : Nat → Option Nat) (id bx nd : Nat) (kd : Int) (f : Nat → Bool) (c e : Nat) (ng : Bool) (i1 i2 : Nat) (s : Nat × Nat) (done : Nat → Bool) (w' : World) : Prop :=
  ∃ v5 L5 M5, TI n0 K b m d L0 w4 v L M id bx nd kd f c e ng i1 i2 s done w' v5 L5 M5
variable (h : TJ n0 K b m d L0 w4 v L M id bx nd kd f c e ng i1 i2 s done w')
include h
theorem TJ.quiet {i : Nat} (h3 : i ≠ 3) (h7 : i ≠ 7) (h9 : i ≠ 9) (h11 : i ≠ 11) : TJ n0 K b m d L0 w4 v L M id bx nd kd f c e ng i1 i2 s (also done i) w' := by
  obtain ⟨v5, L5, M5, h⟩ := h
  have e3 := also_other (done := done) (Ne.symm h3)
  have e7 := also_other (done := done) (Ne.symm h7)
  have e9 := also_other (done := done) (Ne.symm h9)
  have e11 := also_other (done := done) (Ne.symm h11)
  have eA : fA c s (also done i) = fA c s done := by unfold fA; rw [e9]
  have eB : fB e s (also done i) = fB e s done := by unfold fB; rw [e11]
  refine ⟨v5, L5, M5, h.st, h.pre, h.low, h.fr, h.ow, h.bel, h.ofx, h.ofn, h.hx, by rw [eA, eB]; exact h.hn, by rw [e3]; exact h.m1, by rw [e7]; exact h.m2, ?_, ?_⟩
  · rw [e9]
    intro h1
    obtain ⟨a1, a2, a3⟩ := h.p9 h1
    exact ⟨also_old a1, also_old a2, also_old a3⟩
  · rw [e11]
    intro h1
    obtain ⟨a1, a2, a3, a4⟩ := h.p11 h1
    exact ⟨also_old a1, also_old a2, also_old a3, also_old a4⟩
theorem TJ.call1 (hn0 : n0 ≤ w4.heap.size) (hbx : bx < w4.heap.size) (hnd : nd < w4.heap.size) (hi1 : i1 < id) (hC : TurnC n0 K b m d L0 i1) (hn3 : done 3 = false) :
    Calls Try.prog 47 #[tv b d, .int .i64 (i1 : Int)] w' fun en w'' => ∃ x : Nat, en = .returned (.int .i64 (x : Int)) ∧ TJ n0 K b m d L0 w4 v L M id bx nd kd f c e ng i1 i2 (x, s.2) (also done 3) w'' := by
  obtain ⟨v5, L5, M5, h⟩ := h
  have hs := h.bel.size
  refine (hC w' v5 L5 M5 h.st (by omega)).mono ?_
  rintro en w'' ⟨x, v6, L6, M6, rfl, hT⟩
  have h9 : done 9 = false := by
    cases h9 : done 9
    · rfl
    · have := (h.p9 h9).2.1; rw [hn3] at this; cases this
  have h11 : done 11 = false := by
    cases h11 : done 11
    · rfl
    · have := (h.p11 h11).2.1; rw [hn3] at this; cases this
  have e7 : also done 3 7 = done 7 := also_other (by decide)
  have e9 : also done 3 9 = done 9 := also_other (by decide)
  have e11 : also done 3 11 = done 11 := also_other (by decide)
  have eA : fA c (x, s.2) (also done 3) = fA c s done := by simp [fA, e9, h9]
  have eB : fB e (x, s.2) (also done 3) = fB e s done := by simp [fB, e11, h11]
  have hs5 := hT.bel.size
  refine ⟨x, rfl, v6, L6, M6, hT.st, h.pre.trans hT.pre, fun j hj => (hT.low j (by omega)).trans (h.low j hj), fun y hy ho hne => (hT.fr y (by omega) (ho.next h.ow hy)).trans (h.fr y hy ho hne), h.ow.trans hT.ow hs, h.bel.trans hT.bel,
    h.ofx.next hT.ow (by omega), h.ofn.next hT.ow (by omega), h.hx.keep (hT.fr _ (by omega) h.ofx), ?_, fun _ => hT.mir, ?_, ?_, ?_⟩
  · rw [eA, eB]; exact (hT.fr _ (by omega) h.ofn).trans h.hn
  · rw [e7]; exact fun h7 => (h.m2 h7).mono hT.pre
  · rw [e9, h9]; intro h1; cases h1
  · rw [e11, h11]; intro h1; cases h1
theorem TJ.call2 (hn0 : n0 ≤ w4.heap.size) (hbx : bx < w4.heap.size) (hnd : nd < w4.heap.size) (hi2 : i2 < id) (hC : TurnC n0 K b m d L0 i2) (hn7 : done 7 = false) :
    Calls Try.prog 47 #[tv b d, .int .i64 (i2 : Int)] w' fun en w'' => ∃ x : Nat, en = .returned (.int .i64 (x : Int)) ∧ TJ n0 K b m d L0 w4 v L M id bx nd kd f c e ng i1 i2 (s.1, x) (also done 7) w'' := by
  obtain ⟨v5, L5, M5, h⟩ := h
  have hs := h.bel.size
  refine (hC w' v5 L5 M5 h.st (by omega)).mono ?_
  rintro en w'' ⟨x, v6, L6, M6, rfl, hT⟩
  have h11 : done 11 = false := by
    cases h11 : done 11
    · rfl
    · have := (h.p11 h11).2.2.2; rw [hn7] at this; cases this
  have e3 : also done 7 3 = done 3 := also_other (by decide)
  have e9 : also done 7 9 = done 9 := also_other (by decide)
  have e11 : also done 7 11 = done 11 := also_other (by decide)
  have eA : fA c (s.1, x) (also done 7) = fA c s done := by unfold fA; rw [e9]
  have eB : fB e (s.1, x) (also done 7) = fB e s done := by simp [fB, e11, h11]
  have hs5 := hT.bel.size
  refine ⟨x, rfl, v6, L6, M6, hT.st, h.pre.trans hT.pre, fun j hj => (hT.low j (by omega)).trans (h.low j hj), fun y hy ho hne => (hT.fr y (by omega) (ho.next h.ow hy)).trans (h.fr y hy ho hne), h.ow.trans hT.ow hs, h.bel.trans hT.bel,
    h.ofx.next hT.ow (by omega), h.ofn.next hT.ow (by omega), h.hx.keep (hT.fr _ (by omega) h.ofx), ?_, ?_, fun _ => hT.mir, ?_, ?_⟩
  · rw [eA, eB]; exact (hT.fr _ (by omega) h.ofn).trans h.hn
  · rw [e3]; exact fun h3 => (h.m1 h3).mono hT.pre
  · rw [e9]
    intro h1
    obtain ⟨a1, a2, a3⟩ := h.p9 h1
    exact ⟨also_old a1, also_old a2, also_old a3⟩
  · rw [e11, h11]; intro h1; cases h1
theorem TJ.st9 (hndl : n0 ≤ nd) (hne : bx ≠ nd) (d2 : done 2 = true) (d3 : done 3 = true) (d6 : done 6 = true) : TJ n0 K b m d L0 w4 v L M id bx nd kd f c e ng i1 i2 s (also done 9) (w'.setCell ⟨nd, 5, none⟩ (.int .i64 (s.1 : Int))) := by
  obtain ⟨v5, L5, M5, h⟩ := h
  have e3 : also done 9 3 = done 3 := also_other (by decide)
  have e7 : also done 9 7 = done 7 := also_other (by decide)
  have e9 : also done 9 9 = true := also_self done 9
  have e11 : also done 9 11 = done 11 := also_other (by decide)
  have eA : fA c s (also done 9) = s.1 := by unfold fA; rw [e9]; rfl
  have eB : fB e s (also done 9) = fB e s done := by unfold fB; rw [e11]
  refine ⟨v5, L5, M5, h.st.other h.ofn 5 _, h.pre, h.low, fun y hy ho hn => (Below.heap_setCell w' _ _ y hn).trans (h.fr y hy ho hn), h.ow, Below.setCell h.bel hndl _, h.ofx, h.ofn, h.hx.other hne 5 _, ?_, by rw [e3]; exact h.m1, by rw [e7]; exact h.m2, fun _ => ⟨also_old d2, also_old d3, also_old d6⟩, ?_⟩
  · rw [eA, eB]; exact node_put5 h.hn _
  · rw [e11]
    intro h1
    obtain ⟨a1, a2, a3, a4⟩ := h.p11 h1
    exact ⟨also_old a1, also_old a2, also_old a3, also_old a4⟩
theorem TJ.st11 (hndl : n0 ≤ nd) (hne : bx ≠ nd) (d2 : done 2 = true) (d3 : done 3 = true) (d6 : done 6 = true) (d7 : done 7 = true) : TJ n0 K b m d L0 w4 v L M id bx nd kd f c e ng i1 i2 s (also done 11) (w'.setCell ⟨nd, 6, none⟩ (.int .i64 (s.2 : Int))) := by
  obtain ⟨v5, L5, M5, h⟩ := h
  have e3 : also done 11 3 = done 3 := also_other (by decide)
  have e7 : also done 11 7 = done 7 := also_other (by decide)
  have e9 : also done 11 9 = done 9 := also_other (by decide)
  have e11 : also done 11 11 = true := also_self done 11
  have eA : fA c s (also done 11) = fA c s done := by unfold fA; rw [e9]
  have eB : fB e s (also done 11) = s.2 := by unfold fB; rw [e11]; rfl
  refine ⟨v5, L5, M5, h.st.other h.ofn 6 _, h.pre, h.low, fun y hy ho hn => (Below.heap_setCell w' _ _ y hn).trans (h.fr y hy ho hn), h.ow, Below.setCell h.bel hndl _, h.ofx, h.ofn, h.hx.other hne 6 _, ?_, by rw [e3]; exact h.m1, by rw [e7]; exact h.m2, ?_, fun _ => ⟨also_old d2, also_old d3, also_old d6, also_old d7⟩⟩
  · rw [eA, eB]; exact node_put6 h.hn _
  · rw [e9]
    intro h1
    obtain ⟨a1, a2, a3⟩ := h.p9 h1
    exact ⟨also_old a1, also_old a2, also_old a3⟩
theorem TJ.box : HoldsX w' bx b d := by obtain ⟨v5, L5, M5, h⟩ := h; exact h.hx
theorem TJ.fa (hn6 : done 2 = false ∨ done 6 = false) : w'.cell? ⟨nd, 5, none⟩ = some (.int .i64 (c : Int)) := by
  obtain ⟨v5, L5, M5, h⟩ := h
  have h9 : done 9 = false := by
    cases h9 : done 9
    · rfl
    · obtain ⟨a1, _, a3⟩ := h.p9 h9
      rcases hn6 with e | e
      · rw [e] at a1; cases a1
      · rw [e] at a3; cases a3
  have h1 := h.hn.cells.2.2.2.2.2.1
  have eA : fA c s done = c := by unfold fA; rw [h9]; rfl
  rw [eA] at h1
  exact h1
theorem TJ.fb (hn6 : done 2 = false ∨ done 6 = false) : w'.cell? ⟨nd, 6, none⟩ = some (.int .i64 (e : Int)) := by
  obtain ⟨v5, L5, M5, h⟩ := h
  have h11 : done 11 = false := by
    cases h11 : done 11
    · rfl
    · obtain ⟨a1, _, a3, _⟩ := h.p11 h11
      rcases hn6 with e | e
      · rw [e] at a1; cases a1
      · rw [e] at a3; cases a3
  have h1 := h.hn.cells.2.2.2.2.2.2.1
  have eB : fB e s done = e := by unfold fB; rw [h11]; rfl
  rw [eB] at h1
  exact h1
theorem TJ.c5 : (∃ z, w'.cell? ⟨nd, 5, none⟩ = some z) ∧ w'.frozen? ⟨nd, 5, none⟩ = false := by
  obtain ⟨v5, L5, M5, h⟩ := h
  exact ⟨⟨_, h.hn.cells.2.2.2.2.2.1⟩, h.hn.free 5⟩
theorem TJ.c6 : (∃ z, w'.cell? ⟨nd, 6, none⟩ = some z) ∧ w'.frozen? ⟨nd, 6, none⟩ = false := by
  obtain ⟨v5, L5, M5, h⟩ := h
  exact ⟨⟨_, h.hn.cells.2.2.2.2.2.2.1⟩, h.hn.free 6⟩
end
/-- What the operations yield. -/
def rv7 (b d nd o1 o2 i1 i2 : Nat) (s : Nat × Nat) : Nat → Value
  | 0 => tv b d
  | 1 => .pointer (some ⟨nd, o1, none⟩)
  | 2 => .int .i64 (i1 : Int)
  | 3 => .int .i64 (s.1 : Int)
  | 4 => tv b d
  | 5 => .pointer (some ⟨nd, o2, none⟩)
  | 6 => .int .i64 (i2 : Int)
  | 7 => .int .i64 (s.2 : Int)
  | 8 => .pointer (some ⟨nd, 5, none⟩)
  | 9 => undef
  | 10 => .pointer (some ⟨nd, 6, none⟩)
  | _ => undef
theorem rv7_1 {b d nd o1 o2 i1 i2 : Nat} {s : Nat × Nat} {x j : Nat} (h : j ≠ 3) : rv7 b d nd o1 o2 i1 i2 (x, s.2) j = rv7 b d nd o1 o2 i1 i2 s j := by
  unfold rv7
  split <;> first | rfl | (exact absurd rfl h)
theorem rv7_2 {b d nd o1 o2 i1 i2 : Nat} {s : Nat × Nat} {x j : Nat} (h : j ≠ 7) : rv7 b d nd o1 o2 i1 i2 (s.1, x) j = rv7 b d nd o1 o2 i1 i2 s j := by
  unfold rv7
  split <;> first | rfl | (exact absurd rfl h)

end Go.Proofs.Ytbmejpghoafapaa
