/-
  A region that draws its order, of this make: its first n operations are quiet in a class C of worlds (loads, arithmetic, calls that leave the class), the rest come up one by one behind all of these, in the text's order (stores).
  One walk of the text's order serves every order. (The laws on quiet operations and on what waits for what are the kit's; here they are put together.)
-/
import Derived.Deep.QuietTactic
import Derived.StillTail
import Derived.KernelRfl
import Derived.Below
import Derived.BigQuiet
namespace Go.Proofs.Ytbmejpghoafapaa

section
variable {P : Program} {ops : Array Oper} {md : Region.Mode} {C : World → Prop}

/-- The quiet phase: f operations below n come up, in whatever order; then L. -/
def Phase (P : Program) (md : Region.Mode) (ops : Array Oper) (C : World → Prop) (n : Nat) (L : Array Bool → Act → Prop) : Nat → Array Bool → Act → Prop
  | 0, done, a => L done a
  | f + 1, done, a => Region.ready md ops done ≠ [] ∧ ∀ i, i ∈ Region.ready md ops done → i < n ∧ qOp P ops C i (Phase P md ops C n L f (done.setIfInBounds i true)) a

/-- The phase, then whatever L leads to: a walk of all orders. -/
theorem Phase.all {n g : Nat} {L : Array Bool → Act → Prop} {Q : Exit → Act → World → Prop} (hL : ∀ done a w, C w → L done a → wpAny P md ops Q g done a w) (f : Nat) :
    ∀ done a w, C w → Phase P md ops C n L f done a → wpAny P md ops Q (f + g) done a w := by
  induction f with
  | zero => intro done a w hw h; rw [Nat.zero_add]; exact hL done a w hw h
  | succ f ih =>
    intro done a w hw h
    obtain ⟨hne, hall⟩ := h
    have e : f + 1 + g = (f + g) + 1 := by omega
    rw [e]
    refine ⟨fun h0 => (hne h0).elim, fun i hi => ?_⟩
    exact wpOp_of_qOp hw (fun a' w' hw' hk => ih _ a' w' hw' hk) (hall i hi).2

/-- In the quiet phase an operation that may come up, and that all others that it is not waited for by are apart from, may be taken first. -/
theorem Phase.first {n i : Nat} {o : Oper} {v : Value} {L : Array Bool → Act → Prop} (ho : ops[i]? = some o) (hsel : ∀ (j : Nat) (x : Oper) cs b, ops[j]? = some x → x.op ≠ .select cs b)
    (hs : Region.sinkB md ops n = true) (hc : Region.chainB md ops n = true) (hn : n < ops.size) (hin : i < n) (hend : ∀ done a, L done a → ∀ j, j ∈ Region.ready md ops done → n ≤ j) (f : Nat) :
    ∀ done a, HeadInv md ops n done →
      (∀ j x, ops[j]? = some x → j ≠ i → done.getD j true = false → (∀ e ∈ x.after, Region.binds md e = true → e.on ≠ i) → o.apart ops x = true) →
      i ∈ Region.ready md ops done → YieldsIn P ops C o v a → Phase P md ops C n L f (done.setIfInBounds i true) (a.put o.dst v) → Phase P md ops C n L (f + 1) done a := by
  induction f with
  | zero =>
    intro done a inv _ hr hy H
    refine ⟨fun h => (by rw [h] at hr; cases hr), fun j hj => ?_⟩
    have hjn : j < n := by
      rcases Nat.lt_or_ge j n with h | h
      · exact h
      · exact (tail_waits hs hc hn inv _ i rfl hin (mem_ready.1 hr).1 j h hj).elim
    by_cases hji : j = i
    · subst hji
      exact ⟨hjn, hy.qOp ho H⟩
    · have := hend _ _ H j (ready_mono hj hji)
      omega
  | succ f ih =>
    intro done a inv hfree hr hy H
    refine ⟨fun h => (by rw [h] at hr; cases hr), fun j hj => ?_⟩
    have hun := (mem_ready.1 hr).1
    have hjn : j < n := by
      rcases Nat.lt_or_ge j n with h | h
      · exact h
      · exact (tail_waits hs hc hn inv _ i rfl hin hun j h hj).elim
    refine ⟨hjn, ?_⟩
    by_cases hji : j = i
    · subst hji
      exact hy.qOp ho H
    · obtain ⟨hjun, x, hx, hall⟩ := mem_ready.1 hj
      have hnot : ∀ e ∈ x.after, Region.binds md e = true → e.on ≠ i := by
        intro e he hb heq
        have h1 := hall e he hb
        rw [heq, getD_both hun] at h1
        cases h1
      have h2 := qOp_put hx (hfree j x hx hji hjun hnot) (fun cs b => hsel i o cs b ho) (fun cs b => hsel j x cs b hx) hy (H.2 j (ready_mono hj hji)).2
      refine qOp_mono (fun a' h3 => ?_) h2
      refine ih (done.setIfInBounds j true) a' (inv.set hj hjn) ?_ (ready_mono hr (Ne.symm hji)) h3.1 ?_
      · intro k y hy' hki hku hkn
        refine hfree k y hy' hki ?_ hkn
        by_cases hjk : j = k
        · rw [← hjk]; exact hjun
        · rwa [getD_set_ne true hjk] at hku
      · rw [Array.setIfInBounds_comm _ _ hji]
        exact h3.2

/-- The quiet phase by the text's order. -/
theorem Phase.lex {n g : Nat} {Lq : Act → Prop} (hsel : Region.noSelect ops = true) (hs : Region.sinkB md ops n = true) (hc : Region.chainB md ops n = true) (hn : n < ops.size) (l : List Oper) :
    ∀ (k : Nat) (done : Array Bool) (a : Act), (∀ j, j < l.length → l[j]? = ops[k + j]?) → k + l.length = n → HeadInv md ops n done →
      Region.lexHead md ops g l.length k done = true → wpQuiet P ops C Lq l a →
      Phase P md ops C n (fun d a' => Region.seqB md ops g n d = true ∧ Lq a') l.length done a := by
  induction l with
  | nil =>
    intro k done a _ hk _ hB h
    have : k = n := by simpa using hk
    subst this
    exact ⟨by simpa [Region.lexHead] using hB, h⟩
  | cons o l ih =>
    intro k done a hl hk inv hB h
    have h0 : ops[k]? = some o := by simpa using (hl 0 (by simp)).symm
    simp only [List.length_cons, Region.lexHead, Bool.and_eq_true] at hB
    obtain ⟨⟨hr, hf⟩, hB'⟩ := hB
    simp only [List.length_cons] at hk
    have hr' : k ∈ Region.ready md ops done := by simpa using hr
    have hq : qOp P ops C k (wpQuiet P ops C Lq l) a := by
      unfold qOp
      simp only [h0]
      exact h
    obtain ⟨v, hy, hK⟩ := yieldsIn_of_qOp h0 hq
    refine Phase.first h0 (Region.noSelect_spec hsel) hs hc hn (by omega) (fun d a' hL => seqB_ready hL.1) l.length done a inv (Region.free_spec h0 hf) hr' hy ?_
    refine ih (k + 1) _ _ (fun j hj => ?_) (by omega) (inv.set hr' (by omega)) hB' hK
    have := hl (j + 1) (by simp; omega)
    simpa [Nat.add_assoc, Nat.add_comm 1 j] using this

/-- THE LAW: the first n operations quiet in C, the rest in the text's order. -/
theorem wp_region_tail {id : Nat} {Q : Exit → Act → World → Prop} {a : Act} {w : World} {l : List Oper} (C : World → Prop) (n : Nat) (hm : P.follows .mixedOrders = true) (hB : Region.lexTailB .any l.toArray n = true) (hC : C w.drew)
    (h : wpQuiet P l.toArray C (fun a' => ∀ w', C w' → wpList P l.toArray Q (l.drop n) a' w') (l.take n) a) : (Code.region id l.toArray true).wp P Q a w := by
  simp only [Region.lexTailB, Bool.and_eq_true, decide_eq_true_eq] at hB
  obtain ⟨⟨⟨⟨hsel, hn⟩, hs⟩, hc⟩, hlex⟩ := hB
  have hn' : n < l.length := by simpa using hn
  have htl : (l.take n).length = n := by simp; omega
  have hdl : (l.drop n).length = l.toArray.size - n := by simp
  have inv0 : HeadInv .any l.toArray n (Array.replicate l.toArray.size false) := by
    refine ⟨by simp, ?_, ?_⟩
    · intro j x _ hd
      rw [getD_replicate_false] at hd
      cases hd
    · intro t _ ht
      exact getD_in (by simpa using ht) (getD_replicate_false _ _)
  have H := Phase.lex (md := .any) (g := l.toArray.size - n) hsel hs hc hn (l.take n) 0 _ a
    (fun j hj => by
      have hj' : j < n := by rw [htl] at hj; exact hj
      simp [hj'])
    (by simpa using htl) inv0 (by rw [htl]; exact hlex) h
  refine wp_region_any hm ?_
  have H2 := Phase.all (Q := Q) (g := l.toArray.size - n) (fun d a' w' hw' hL => by
    have h3 := wpAny_of_seq (md := .any) (Q' := Q) (l.drop n) n d a' w' (fun j => by simp [List.getElem?_drop]) (by rw [hdl]; exact hL.1) (hL.2 w' hw')
    rwa [hdl] at h3) _ _ _ _ hC H
  rw [htl, show n + (l.toArray.size - n) = l.toArray.size by omega] at H2
  exact H2

/-- THE LAW FOR A REGION WITHOUT A TAIL. -/
theorem wp_region_class {id : Nat} {Q : Exit → Act → World → Prop} {a : Act} {w : World} {l : List Oper} (C : World → Prop) (hm : P.follows .mixedOrders = true) (hB : Region.lexB .any l.toArray = true) (hC : C w.drew)
    (h : wpQuiet P l.toArray C (fun a' => ∀ w', C w' → Q .normal a' w') l a) : (Code.region id l.toArray true).wp P Q a w :=
  wp_region_quiet (C := C) hm hB hC (by simpa using h)
end

/-- The worlds that are as w was below block n. -/
structure Wk (n : Nat) (w : World) where
  val : World
  ok : RowKit.Below n w val
instance {n : Nat} {w : World} : Nonempty (Wk n w) := ⟨⟨w, RowKit.Below.refl n w⟩⟩

/-- A callee's contract, met in such a world. -/
theorem wk_call {P : Program} {f : FuncId} {args : Array Value} {n : Nat} {w : World} (hn : n ≤ w.heap.size) {v : Value} (u : Wk n w)
    (h : Calls P f args u.val fun e w' => e = .returned v ∧ RowKit.Below u.val.heap.size u.val w') : Calls P f args u.val fun e w' => e = .returned v ∧ ∃ u' : Wk n w, w' = u'.val :=
  h.mono fun _ w' ⟨he, hb⟩ => ⟨he, ⟨w', u.ok.trans (hb.mono (Nat.le_trans hn u.ok.size))⟩, rfl⟩

end Go.Proofs.Ytbmejpghoafapaa
