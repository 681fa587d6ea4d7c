/-
  Two calls of Spans in a region that draws its order: what holds in between.
-/
import Derived.Test.YtbmejpghoafapaaSpans
import Derived.Test.YtbmejpghoafapaaInvOps
import Derived.Test.YtbmejpghoafapaaRev
import Derived.Test.YtbmejpghoafapaaTurn6
namespace Go.Proofs.Ytbmejpghoafapaa
open Go.RowKit Go.Maps
section
variable {o : Oper} {a : Act} {w : World} {K : Act → World → Prop} {Q : Exit → Act → World → Prop}
theorem enter42 (args : Array Value) (w : World) : (callFunc 42 args).run Try.prog w = .ok (.enter 42 args) w := by simp [go_sem]
theorem wp_index68 (x y : Operand) (ho : o.op = .indexAddr 68 x y) {p N co i : Nat} (hx : a.eval x = .slice (some ⟨p, 0, none⟩) N co) (hy : a.eval y = .int .i64 (i : Int)) (hi : i < N) (h : K (a.put o.dst (.pointer (some ⟨p, i, none⟩))) w) : o.wp Try.prog a w K Q := by
  have h1 : (0 : Int) ≤ (i : Int) := by omega
  have h2 : (i : Int) < (N : Int) := by omega
  unfold Oper.wp execOp
  simp only [ho, hx, hy]
  simp [go_sem, Result.andThen, h1, h2, hi]
  exact h
theorem wp_load67 (x : Operand) (ho : o.op = .load 67 x) {p q : Nat} (hx : a.eval x = .pointer (some ⟨p, q, none⟩)) {z : Value} (hc : w.cell? ⟨p, q, none⟩ = some z) (h : K (a.put o.dst z) w) : o.wp Try.prog a w K Q := by
  unfold Oper.wp execOp
  simp only [ho, hx]
  simp [go_sem, hc, Result.andThen]
  exact h
theorem wp_move' (x : Operand) (ho : o.op = .move x) {v : Value} (hx : a.eval x = v) (h : K (a.put o.dst v) w) : o.wp Try.prog a w K Q := by
  unfold Oper.wp execOp
  simp only [ho, hx]
  simp [go_sem, Result.andThen]
  exact h
theorem wp_assign' (x : Operand) (ho : o.op = .assign x) {v : Value} (hx : a.eval x = v) (h : K (a.put o.dst v) w) : o.wp Try.prog a w K Q := by
  unfold Oper.wp execOp
  simp only [ho, hx]
  simp [go_sem, Result.andThen]
  exact h
end

section
variable {n N n9 : Nat} {w w' : World} {u : Value} {T : Tb} {TT T1 T2 : Nat → Tb} {i x : Nat}
def RowP (n N : Nat) (TT : Nat → Tb) (w : World) (u : Value) : Prop := ∃ (o co : Nat) (g : Nat → Nat) (r : Nat → Nat → Nat), u = .slice (some ⟨o, 0, none⟩) N co ∧ o < w.heap.size ∧ (∀ i, i < N → w.cell? ⟨o, i, none⟩ = some (.slice (some ⟨g i, 0, none⟩) n n) ∧ HT w (g i) n (r i) (TT i))
def PtrP (n i : Nat) (T : Tb) (w : World) (u : Value) : Prop := ∃ (o g : Nat) (r : Nat → Nat), u = .pointer (some ⟨o, i, none⟩) ∧ w.cell? ⟨o, i, none⟩ = some (.slice (some ⟨g, 0, none⟩) n n) ∧ HT w g n r T
def TabP (n : Nat) (T : Tb) (w : World) (u : Value) : Prop := ∃ (g : Nat) (r : Nat → Nat), u = .slice (some ⟨g, 0, none⟩) n n ∧ HT w g n r T
theorem RowP.of {n0 : Nat} {g : Nat → Nat} {r : Nat → Nat → Nat} (h : Tabs n0 w n u N g r TT) (h0 : 0 < N) : RowP n N TT w u := by
  obtain ⟨so, co, rfl⟩ := h.shape
  obtain ⟨o, rfl, hc⟩ := h.cell h0
  exact ⟨o, co, g, r, rfl, (own_blk h.own (g := o) rfl).2.1, fun i hi => ⟨hc i hi, h.tab i hi⟩⟩
theorem RowP.below (h : RowP n N TT w u) (hb : Below w.heap.size w w') : RowP n N TT w' u := by
  obtain ⟨o, co, g, r, h1, h2, h3⟩ := h
  exact ⟨o, co, g, r, h1, Nat.lt_of_lt_of_le h2 hb.size, fun i hi => ⟨cell_later hb (h3 i hi).1, (h3 i hi).2.below hb (Nat.le_refl _)⟩⟩
theorem PtrP.below (h : PtrP n i T w u) (hb : Below w.heap.size w w') : PtrP n i T w' u := by
  obtain ⟨o, g, r, h1, h2, h3⟩ := h
  exact ⟨o, g, r, h1, cell_later hb h2, h3.below hb (Nat.le_refl _)⟩
theorem TabP.below (h : TabP n T w u) (hb : Below w.heap.size w w') : TabP n T w' u := by
  obtain ⟨g, r, h1, h2⟩ := h
  exact ⟨g, r, h1, h2.below hb (Nat.le_refl _)⟩
/-- What each operation's value is. -/
def Phi (n N : Nat) (T1 T2 : Nat → Tb) (i x : Nat) : Nat → World → Value → Prop
  | 3 => RowP n N T1
  | 5 => PtrP n i (T1 i)
  | 6 => TabP n (T1 i)
  | 10 => RowP n N T2
  | 12 => PtrP n x (T2 x)
  | 13 => TabP n (T2 x)
  | 14 => TabP n (T1 i)
  | 15 => TabP n (T2 x)
  | _ => fun _ _ => True
theorem Phi.below {j : Nat} (h : Phi n N T1 T2 i x j w u) (hb : Below w.heap.size w w') : Phi n N T1 T2 i x j w' u := by
  revert h
  unfold Phi
  split
  · exact fun h => RowP.below h hb
  · exact fun h => PtrP.below h hb
  · exact fun h => TabP.below h hb
  · exact fun h => RowP.below h hb
  · exact fun h => PtrP.below h hb
  · exact fun h => TabP.below h hb
  · exact fun h => TabP.below h hb
  · exact fun h => TabP.below h hb
  · exact fun _ => trivial
structure R9 (n N : Nat) (T1 T2 : Nat → Tb) (i x : Nat) (w9 : World) (p : Nat → Value) (done : Nat → Bool) (w' : World) : Prop where
  bel : Below w9.heap.size w9 w'
  phi : ∀ j, done j = true → Phi n N T1 T2 i x j w' (p j)
def rv9 (c p : Nat → Value) : Nat → Value
  | 3 => p 3 | 5 => p 5 | 6 => p 6 | 10 => p 10 | 12 => p 12 | 13 => p 13 | 14 => p 14 | 15 => p 15
  | j => c j
def setP (p : Nat → Value) (k : Nat) (u : Value) : Nat → Value := fun j => if j = k then u else p j
theorem rv9_set {c p : Nat → Value} {k : Nat} {u : Value} {done : Nat → Bool} (hn : done k = false) : ∀ j, done j = true → rv9 c (setP p k u) j = rv9 c p j := by
  intro j hj
  have hne : j ≠ k := fun e => by rw [e, hn] at hj; cases hj
  have h1 : setP p k u j = p j := by simp [setP, hne]
  unfold rv9
  split <;> first | exact h1 | rfl
variable {w9 : World} {p c : Nat → Value} {done : Nat → Bool}
theorem R9.quiet (h : R9 n N T1 T2 i x w9 p done w) {k : Nat} (hk : ∀ u w, Phi n N T1 T2 i x k w u) : R9 n N T1 T2 i x w9 p (also done k) w :=
  ⟨h.bel, fun j hj => by
    rcases also_or hj with h1 | h1
    · exact h.phi j h1
    · rw [h1]; exact hk _ _⟩
theorem R9.step (h : R9 n N T1 T2 i x w9 p done w) {k : Nat} {u : Value} (hn : done k = false) (hb : Below w.heap.size w w') (hu : Phi n N T1 T2 i x k w' u) : R9 n N T1 T2 i x w9 (setP p k u) (also done k) w' :=
  ⟨h.bel.trans (hb.mono h.bel.size), fun j hj => by
    by_cases e : j = k
    · subst e; simp only [setP, if_true]; exact hu
    · rcases also_or hj with h1 | h1
      · have := (h.phi j h1).below hb
        simp only [setP, e, if_false]
        exact this
      · exact absurd h1 e⟩
end
theorem own_keep {n0 n1 b m : Nat} {w4 w7 w8 : World} {v4 v : Value} {L4 : List Nd} {e : TypeId} {s k : Nat} {l : List Value} (h : w7.ownsRow n1 e s v k l) (hA : Ar n0 w4 b m v4 L4) (hn : w4.heap.size ≤ n1) (ho : Only w7 w8 b m v4) : w8.ownsRow n1 e s v k l :=
  ownsRow_keep h fun g hg => by
    obtain ⟨h1, h2, _⟩ := own_blk h hg
    have a1 := (hA.ltv (.inl rfl)).2
    have a2 := (hA.ltv (.inr (.inl rfl))).2
    refine ho g h2 (by omega) (by omega) (fun e => ?_)
    have := (hA.ltv (.inr (.inr e.symm))).2
    omega

end Go.Proofs.Ytbmejpghoafapaa
