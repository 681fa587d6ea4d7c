/-
  A region that draws its order, by an invariant: what holds of the memory and of a ghost while some of the operations are done. One obligation for each operation, whatever the orders are.
  (The values that operations yield may lean on the ghost: a new block's address. The frame is always the one ahead of the region with the values of those operations that are done.)
-/
import Derived.Test.YtbmejpghoafapaaOrder
namespace Go.Proofs.Ytbmejpghoafapaa

/-- The frame with the values of those operations that are done. -/
def fill (vals : Nat → Value) (done : Nat → Bool) : List Oper → Nat → Act → Act
  | [], _, a => a
  | o :: l, k, a => fill vals done l (k + 1) (if done k = true then a.put o.dst (vals k) else a)
def dstsB : List Oper → Bool
  | [] => true
  | o :: l => (match o.dst with | none => true | some d => l.all fun o' => o'.dst != some d) && dstsB l
theorem dstsB_head {o : Oper} {l : List Oper} (h : dstsB (o :: l) = true) : ∀ o' ∈ l, ∀ d, o.dst = some d → o'.dst ≠ some d := by
  intro o' ho d hd
  simp only [dstsB, Bool.and_eq_true, hd] at h
  have := List.all_eq_true.1 h.1 o' ho
  simpa using this
theorem dstsB_tail {o : Oper} {l : List Oper} (h : dstsB (o :: l) = true) : dstsB l = true := by
  simp only [dstsB, Bool.and_eq_true] at h
  exact h.2

theorem fill_put (vals : Nat → Value) (done : Nat → Bool) (x : Option Tmp) (v : Value) : ∀ (l : List Oper) (k : Nat) (a : Act), (∀ o' ∈ l, ∀ d, x = some d → o'.dst ≠ some d) → fill vals done l k (a.put x v) = (fill vals done l k a).put x v
  | [], _, _, _ => rfl
  | o :: l, k, a, h => by
    simp only [fill]
    split
    · rw [Act.put_comm a v _ (fun d hd => h o (by simp) d hd)]
      exact fill_put vals done x v l (k + 1) _ fun o' ho => h o' (by simp [ho])
    · exact fill_put vals done x v l (k + 1) _ fun o' ho => h o' (by simp [ho])
theorem fill_congr {vals vals' : Nat → Value} {done done' : Nat → Bool} : ∀ (l : List Oper) (k : Nat) (a : Act), (∀ j, k ≤ j → done' j = done j ∧ (done j = true → vals' j = vals j)) → fill vals' done' l k a = fill vals done l k a
  | [], _, _, _ => rfl
  | o :: l, k, a, h => by
    simp only [fill]
    obtain ⟨h1, h2⟩ := h k (Nat.le_refl _)
    rw [h1]
    split
    · rw [h2 (by assumption)]
      exact fill_congr l (k + 1) _ fun j hj => h j (by omega)
    · exact fill_congr l (k + 1) _ fun j hj => h j (by omega)
theorem fill_step {vals vals' : Nat → Value} {done done' : Nat → Bool} : ∀ (l : List Oper) (k i : Nat) (o : Oper) (a : Act), dstsB l = true → l[i]? = some o → done (k + i) = false → (∀ j, done' j = (done j || j == k + i)) → (∀ j, done j = true → vals' j = vals j) →
    fill vals' done' l k a = (fill vals done l k a).put o.dst (vals' (k + i))
  | [], _, _, _, _, _, h, _, _, _ => by simp at h
  | x :: l, k, 0, o, a, hd, h, hn, h1, h2 => by
    obtain rfl : x = o := by simpa using h
    have e1 : done' k = true := by rw [h1]; simp
    have e2 : done k = false := hn
    simp only [fill, e1, e2, if_true, Bool.false_eq_true, if_false, Nat.add_zero]
    rw [fill_put _ _ _ _ _ _ _ (dstsB_head hd)]
    congr 1
    refine fill_congr l (k + 1) a fun j hj => ⟨?_, h2 j⟩
    rw [h1, Nat.add_zero]
    have : (j == k) = false := by simp; omega
    rw [this, Bool.or_false]
  | x :: l, k, i + 1, o, a, hd, h, hn, h1, h2 => by
    have e1 : done' k = done k := by
      rw [h1]
      simp
    simp only [fill, e1]
    have ih := fun a => fill_step (vals := vals) (vals' := vals') (done := done) (done' := done') l (k + 1) i o a (dstsB_tail hd) (by simpa using h) (by rw [show k + 1 + i = k + (i + 1) from by omega]; exact hn) (by intro j; rw [h1, show k + 1 + i = k + (i + 1) from by omega]) h2
    rw [show k + 1 + i = k + (i + 1) from by omega] at ih
    split
    · rw [h2 k (by assumption), ih]
    · rw [ih]
theorem fill_size (vals : Nat → Value) (done : Nat → Bool) : ∀ (l : List Oper) (k : Nat) (a : Act), (fill vals done l k a).tmps.size = a.tmps.size
  | [], _, _ => rfl
  | o :: l, k, a => by
    simp only [fill]
    rw [fill_size vals done l (k + 1) _]
    split
    · cases o.dst <;> simp [Act.put]
    · rfl
theorem eval_put_self (a : Act) (t : Tmp) (v : Value) (h : t < a.tmps.size) : (a.put (some t) v).eval (.tmp t) = v := by
  simp [Act.eval, Act.put, h]
theorem fill_out (vals : Nat → Value) (done : Nat → Bool) (t : Tmp) : ∀ (l : List Oper) (k : Nat) (a : Act), (∀ o ∈ l, o.dst ≠ some t) → (fill vals done l k a).eval (.tmp t) = a.eval (.tmp t)
  | [], _, _, _ => rfl
  | o :: l, k, a, h => by
    simp only [fill]
    rw [fill_out vals done t l (k + 1) _ fun o' ho => h o' (by simp [ho])]
    split
    · exact Act.eval_put fun d hd e => h o (by simp) (by rw [hd]; cases e; rfl)
    · rfl
theorem fill_at (vals : Nat → Value) (done : Nat → Bool) (t : Tmp) : ∀ (l : List Oper) (k j : Nat) (o : Oper) (a : Act), dstsB l = true → l[j]? = some o → o.dst = some t → done (k + j) = true → t < a.tmps.size → (fill vals done l k a).eval (.tmp t) = vals (k + j)
  | [], _, _, _, _, _, h, _, _, _ => by simp at h
  | x :: l, k, 0, o, a, hd, h, ht, hn, hs => by
    obtain rfl : x = o := by simpa using h
    have e2 : done k = true := hn
    simp only [fill, e2, if_true, Nat.add_zero]
    rw [fill_out vals done t l (k + 1) _ fun o' ho => dstsB_head hd o' ho t ht, ht]
    exact eval_put_self a t _ hs
  | x :: l, k, j + 1, o, a, hd, h, ht, hn, hs => by
    simp only [fill]
    have := fill_at vals done t l (k + 1) j o (if done k = true then a.put x.dst (vals k) else a) (dstsB_tail hd) (by simpa using h) ht (by rw [show k + 1 + j = k + (j + 1) from by omega]; exact hn) (by
      split
      · cases x.dst <;> simpa [Act.put] using hs
      · exact hs)
    rw [this, show k + 1 + j = k + (j + 1) from by omega]

theorem fill_none (vals : Nat → Value) : ∀ (l : List Oper) (k : Nat) (a : Act), fill vals (fun _ => false) l k a = a
  | [], _, _ => rfl
  | o :: l, k, a => by
    simp only [fill, Bool.false_eq_true, if_false]
    exact fill_none vals l (k + 1) a
theorem fill_upto' (vals : Nat → Value) {done : Nat → Bool} : ∀ (l : List Oper) (k : Nat) (a : Act), (∀ j, k ≤ j → j < k + l.length → done j = true) → fill vals done l k a = fill vals (fun _ => true) l k a
  | [], _, _, _ => rfl
  | o :: l, k, a, h => by
    simp only [fill, h k (Nat.le_refl _) (by simp), if_true]
    exact fill_upto' vals l (k + 1) _ fun j h1 h2 => h j (by omega) (by simp; omega)
theorem fill_upto (vals : Nat → Value) {arr : Array Bool} (l : List Oper) (a : Act) (h : ∀ i, i < l.length → arr.getD i false = true) : fill vals (fun j => arr.getD j false) l 0 a = fill vals (fun _ => true) l 0 a :=
  fill_upto' vals l 0 a fun j _ h2 => h j (by omega)

/-- What is known of the frame inside the region. -/
structure View (vals : Nat → Value) (done : Nat → Bool) (l : List Oper) (a0 a : Act) : Prop where
  inn : ∀ (j : Nat) (o : Oper) (t : Tmp), l[j]? = some o → o.dst = some t → done j = true → a.eval (.tmp t) = vals j
  out : ∀ t, (l.all fun o => o.dst != some t) = true → a.eval (.tmp t) = a0.eval (.tmp t)

/-- Something of each operation. -/
def Each (K : Nat → Oper → Prop) : List Oper → Nat → Prop
  | [], _ => True
  | o :: l, k => K k o ∧ Each K l (k + 1)
theorem Each.get {K : Nat → Oper → Prop} : ∀ (l : List Oper) (k i : Nat) (o : Oper), Each K l k → l[i]? = some o → K (k + i) o
  | [], _, _, _, _, h => by simp at h
  | x :: l, k, 0, o, hE, h => by
    obtain rfl : x = o := by simpa using h
    exact hE.1
  | x :: l, k, i + 1, o, hE, h => by
    have := Each.get l (k + 1) i o hE.2 (by simpa using h)
    rwa [show k + 1 + i = k + (i + 1) from by omega] at this

/-- One more is done. -/
def also (done : Nat → Bool) (i : Nat) : Nat → Bool := fun j => done j || j == i
theorem also_self (done : Nat → Bool) (i : Nat) : also done i i = true := by simp [also]
theorem also_other {done : Nat → Bool} {i j : Nat} (h : j ≠ i) : also done i j = done j := by simp [also, h]
theorem also_old {done : Nat → Bool} {i j : Nat} (h : done j = true) : also done i j = true := by simp [also, h]
theorem also_or {done : Nat → Bool} {i j : Nat} (h : also done i j = true) : done j = true ∨ j = i := by simpa [also] using h

/-- One operation's obligation. -/
def Obl {σ : Type} (P : Program) (vals : σ → Nat → Value) (I : σ → (Nat → Bool) → World → Prop) (Q : Exit → Act → World → Prop) (l : List Oper) (a0 : Act) (i : Nat) (o : Oper) : Prop :=
  ∀ s done a w, I s done w → done i = false → (∀ e ∈ o.after, Region.binds .any e = true → done e.on = true) → View (vals s) done l a0 a →
    o.wp P a w (fun a' w' => ∃ s', a' = a.put o.dst (vals s' i) ∧ (∀ j, done j = true → vals s' j = vals s j) ∧ I s' (also done i) w') Q

theorem countP_drop {p p' : Nat → Bool} {i : Nat} (h : ∀ j, p' j = true → p j = true) (hi : p i = true) (hi' : p' i = false) : ∀ l : List Nat, l.countP p' + (if i ∈ l then 1 else 0) ≤ l.countP p
  | [] => by simp
  | x :: l => by
    have ih := countP_drop h hi hi' l
    by_cases hx : x = i
    · subst hx
      simp [hi, hi']
      split at ih <;> omega
    · have hne : ¬ i = x := fun e => hx e.symm
      simp only [List.countP_cons, List.mem_cons, hne, false_or]
      cases h1 : p' x
      · cases h2 : p x <;> simp <;> omega
      · simp [h x h1]
        omega

/-- No operation waits for itself or for a later one. -/
def backB : List Oper → Nat → Bool
  | [], _ => true
  | o :: l, k => (o.after.all fun e => !Region.binds .any e || decide (e.on < k)) && backB l (k + 1)
theorem backB_get : ∀ (l : List Oper) (k i : Nat) (o : Oper), backB l k = true → l[i]? = some o → ∀ e ∈ o.after, Region.binds .any e = true → e.on < k + i
  | [], _, _, _, _, h => by simp at h
  | x :: l, k, 0, o, hb, h => by
    obtain rfl : x = o := by simpa using h
    intro e he hbe
    simp only [backB, Bool.and_eq_true] at hb
    have := (Array.all_eq_true_iff_forall_mem.1 hb.1) e he
    simpa [hbe] using this
  | x :: l, k, i + 1, o, hb, h => by
    simp only [backB, Bool.and_eq_true] at hb
    have := backB_get l (k + 1) i o hb.2 (by simpa using h)
    rwa [show k + 1 + i = k + (i + 1) from by omega] at this
theorem getD_false_of {arr : Array Bool} {i : Nat} (h : arr.getD i true = false) : arr.getD i false = false ∧ i < arr.size := by
  rcases Nat.lt_or_ge i arr.size with h1 | h1
  · simp [h1] at h ⊢
    exact h
  · simp [h1] at h
theorem all_done {l : List Oper} {arr : Array Bool} (hs : arr.size = l.length) (hb : backB l 0 = true) (h : Region.ready .any l.toArray arr = []) : ∀ i, i < l.length → arr.getD i false = true := by
  intro i
  induction i using Nat.strongRecOn with
  | _ i ih =>
    intro hi
    cases hd : arr.getD i false
    · exfalso
      have h1 : i ∈ Region.ready .any l.toArray arr := by
        unfold Region.ready
        rw [List.mem_filter]
        refine ⟨by simpa using hi, ?_⟩
        have h2 : arr.getD i true = false := by simp [hs, hi] at hd ⊢; exact hd
        rw [h2]
        simp only [List.getElem?_toArray, List.getElem?_eq_getElem hi, Option.map_some, Option.getD_some, Bool.not_false, Bool.true_and]
        refine Array.all_eq_true_iff_forall_mem.2 fun e he => ?_
        cases hbe : Region.binds .any e
        · rfl
        · have h3 := backB_get l 0 i _ hb (List.getElem?_eq_getElem hi) e he hbe
          rw [ih e.on (by omega) (by omega)]
          rfl
      rw [h] at h1
      cases h1
    · rfl

/-- THE LAW. -/
theorem wp_region_inv {σ : Type} {P : Program} {id : Nat} {Q : Exit → Act → World → Prop} {a : Act} {w : World} {l : List Oper} (vals : σ → Nat → Value) (I : σ → (Nat → Bool) → World → Prop)
    (hm : P.follows .mixedOrders = true) (hg : (l.all fun o => o.guard.isNone) = true) (hd : dstsB l = true) (hb : backB l 0 = true) (hz : (l.all fun o => match o.dst with | none => true | some d => decide (d < a.tmps.size)) = true)
    (s0 : σ) (h0 : I s0 (fun _ => false) w.drew) (hstep : Each (Obl P vals I Q l a) l 0)
    (hend : ∀ s done w', I s done w' → (∀ i, i < l.length → done i = true) → Q .normal (fill (vals s) (fun _ => true) l 0 a) w') : (Code.region id l.toArray true).wp P Q a w := by
  refine wp_region_any hm ?_
  have key : ∀ (f : Nat) (arr : Array Bool) (s : σ) (wx : World), arr.size = l.length → (List.range l.length).countP (fun j => !arr.getD j false) ≤ f → I s (fun j => arr.getD j false) wx →
      wpAny P .any l.toArray Q f arr (fill (vals s) (fun j => arr.getD j false) l 0 a) wx := by
    intro f
    induction f with
    | zero =>
      intro arr s wx hs hc hI
      have hall : ∀ i, i < l.length → arr.getD i false = true := by
        intro i hi
        have := List.countP_eq_zero.1 (Nat.le_zero.1 hc) i (by simpa using hi)
        simpa using this
      refine ⟨?_, ?_⟩
      · rw [List.eq_nil_iff_forall_not_mem]
        intro i hi
        unfold Region.ready at hi
        rw [List.mem_filter] at hi
        obtain ⟨h1, h2⟩ := hi
        simp only [Bool.and_eq_true, Bool.not_eq_true'] at h2
        have h3 := (getD_false_of h2.1).1
        rw [hall i (by simpa using h1)] at h3
        cases h3
      · have := hend s _ wx hI hall
        rwa [fill_upto (vals s) l a hall]
    | succ f ih =>
      intro arr s wx hs hc hI
      refine ⟨fun hr => ?_, fun i hi => ?_⟩
      · have hall := all_done hs hb hr
        have := hend s _ wx hI hall
        rwa [fill_upto (vals s) l a hall]
      · have hi0 := hi
        unfold Region.ready at hi
        rw [List.mem_filter] at hi
        obtain ⟨h1, h2⟩ := hi
        have hil : i < l.length := by simpa using h1
        simp only [Bool.and_eq_true, Bool.not_eq_true'] at h2
        obtain ⟨h2, h3⟩ := h2
        have hnot := (getD_false_of h2).1
        have ho : l.toArray[i]? = some l[i] := by simp [hil]
        have ho' : l[i]? = some l[i] := List.getElem?_eq_getElem hil
        unfold wpOp
        rw [ho]
        simp only [ho, Option.map_some, Option.getD_some] at h3
        have hgi : l[i].guard = none := by
          have := List.all_eq_true.1 hg l[i] (List.getElem_mem hil)
          simpa using this
        have hw : Region.wanted l[i] (yielded l.toArray (fill (vals s) (fun j => arr.getD j false) l 0 a).tmps) = true := by
          simp [Region.wanted, hgi]
        simp only [hw, if_true]
        left
        have hE := Each.get l 0 i l[i] hstep ho'
        rw [Nat.zero_add] at hE
        refine Oper.wp_mono ?_ (hE s (fun j => arr.getD j false) _ wx hI hnot ?_ ⟨?_, ?_⟩)
        · rintro a' w' ⟨s', rfl, hv, hI'⟩
          have hset : ∀ j, (arr.setIfInBounds i true).getD j false = (arr.getD j false || j == i) := by
            intro j
            by_cases hj : j = i
            · subst hj
              simp [hs, hil]
            · have hne : ¬ i = j := fun e => hj e.symm
              have : (j == i) = false := by simp [hj]
              rw [this, Bool.or_false]
              simp only [Array.getD_eq_getD_getElem?, Array.getElem?_setIfInBounds, hne, if_false]
          have hfs := fill_step (vals := vals s) (vals' := vals s') (done := fun j => arr.getD j false) (done' := fun j => (arr.setIfInBounds i true).getD j false) l 0 i l[i] a hd ho' (by simpa using hnot) (by intro j; rw [Nat.zero_add]; exact hset j) hv
          rw [Nat.zero_add] at hfs
          rw [← hfs]
          refine ih _ s' w' (by simpa using hs) ?_ ?_
          · have hcd := countP_drop (p := fun j => !arr.getD j false) (p' := fun j => !(arr.setIfInBounds i true).getD j false) (i := i) (by intro j; simp only [hset]; cases arr.getD j false <;> simp) (by simp only [hnot]; rfl) (by simp only [hset]; simp) (List.range l.length)
            rw [if_pos (by simpa using hil)] at hcd
            omega
          · have he : (fun j => (arr.setIfInBounds i true).getD j false) = also (fun j => arr.getD j false) i := by funext j; exact hset j
            rw [he]
            exact hI'
        · intro e he hbe
          have := (Array.all_eq_true_iff_forall_mem.1 h3) e he
          simpa [hbe] using this
        · intro j o t hj ht hdn
          have hoz : t < a.tmps.size := by
            have := List.all_eq_true.1 hz o (List.mem_of_getElem? hj)
            simpa [ht] using this
          have := fill_at (vals s) (fun j => arr.getD j false) t l 0 j o a hd hj ht (by simpa using hdn) hoz
          rwa [Nat.zero_add] at this
        · intro t ht
          refine fill_out _ _ t l 0 a fun o ho e => ?_
          have := List.all_eq_true.1 ht o ho
          simp [e] at this
  have hf : (fun j => (Array.replicate l.toArray.size false).getD j false) = fun _ => false := by
    funext j
    by_cases hj : j < l.length <;> simp [hj]
  have h00 : fill (vals s0) (fun _ => false) l 0 a = a := fill_none _ l 0 a
  have := key l.length (Array.replicate l.toArray.size false) s0 w.drew (by simp) (Nat.le_trans List.countP_le_length (by simp)) (by rw [hf]; exact h0)
  rw [hf, h00] at this
  simpa using this

end Go.Proofs.Ytbmejpghoafapaa
