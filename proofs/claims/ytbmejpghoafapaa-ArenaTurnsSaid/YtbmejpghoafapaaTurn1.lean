/-
  What the walk of turner.turn keeps: the map of what is done, the arena that grows, what mirrors what.
-/
import Derived.Test.YtbmejpghoafapaaMir
namespace Go.Proofs.Ytbmejpghoafapaa
open Go.RowKit Go.Maps

section
variable {w w' : World} {d K : Nat} {M : Nat → Option Nat}
def cnt (K : Nat) (M : Nat → Option Nat) : Nat := (List.range K).countP fun j => (M j).isSome
theorem cnt_le (K : Nat) (M : Nat → Option Nat) : cnt K M ≤ K := by
  have := List.countP_le_length (p := fun j => (M j).isSome) (l := List.range K)
  simpa [cnt] using this
def setM (M : Nat → Option Nat) (id x : Nat) : Nat → Option Nat := fun j => if j = id then some x else M j
theorem cnt_set {id x : Nat} (h : M id = none) : ∀ {K : Nat}, id < K → cnt K (setM M id x) = cnt K M + 1
  | 0, hk => by omega
  | K + 1, hk => by
    unfold cnt
    rw [List.range_succ, List.countP_append, List.countP_append]
    rcases Nat.lt_or_ge id K with h1 | h1
    · have ih := cnt_set (x := x) h h1
      unfold cnt at ih
      have e : (setM M id x K).isSome = (M K).isSome := by
        have : ¬ K = id := by omega
        simp [setM, this]
      rw [ih]
      simp only [List.countP_singleton, e]
      omega
    · obtain rfl : id = K := by omega
      have e1 : (List.range id).countP (fun j => (setM M id x j).isSome) = (List.range id).countP (fun j => (M j).isSome) := by
        refine List.countP_congr fun j hj => ?_
        have : ¬ j = id := by have := List.mem_range.1 hj; omega
        simp [setM, this]
      rw [e1]
      simp [setM, h]

/-- Block d is a map of the numbers M. -/
def IM (w : World) (d K : Nat) (M : Nat → Option Nat) : Prop :=
  ∃ D : DataW Unit, w.ownsMap Try.prog 3 (plainElem Try.prog 3) d (cnt K M) D ∧ (∀ (id : Nat) kl, keyOf Try.prog 3 (.int .i64 (id : Int)) = some kl → (Maps.has D kl = true ↔ (M id).isSome = true)) ∧
    ∀ (id x : Nat) kl, M id = some x → keyOf Try.prog 3 (.int .i64 (id : Int)) = some kl → D.atKey kl (.lit (.int .i64 0)) = .lit (.int .i64 (x : Int))
theorem Try.keyed3 : Keyed Try.prog 3 := int_keyed Try.underlying3
theorem key3 {id : Nat} (h : id < 20000) : keyOf Try.prog 3 (.int .i64 (id : Int)) = some (.int .i64 (id : Int)) := keyOf_int_mk Try.underlying3 (wf_len h)
theorem IM.made (K : Nat) (w : World) {d : Nat} (hd : d = w.heap.size) : IM (w.alloc (.map #[] 0)) d K (fun _ => none) := by
  subst hd
  refine ⟨.map [], ?_, ?_, ?_⟩
  · have : cnt K (fun _ => none) = 0 := by simp [cnt]
    rw [this]
    exact World.ownsMap_made _ _ _ _
  · intro id kl _
    simp [Maps.has]
  · intro id x kl h
    cases h
theorem IM.blk (h : IM w d K M) : ∃ es c, w.heap[d]? = some (.map es c) := by
  obtain ⟨D, ⟨es, clock, h1, r⟩, h2⟩ := h
  exact ⟨es, clock, h1⟩
theorem IM.lt (h : IM w d K M) : d < w.heap.size := let ⟨_, _, h1⟩ := h.blk; heap_lt h1
theorem IM.keep (h : IM w d K M) (hk : w'.heap[d]? = w.heap[d]?) : IM w' d K M := by
  obtain ⟨D, ⟨es, clock, h1, r⟩, h2⟩ := h
  exact ⟨D, ⟨es, clock, hk.trans h1, r⟩, h2⟩
theorem IM.yes (h : IM w d K M) {id x : Nat} (hid : id < 20000) (hx : M id = some x) : (Instr.lookup 80 (.map (some d)) (.int .i64 (id : Int)) true).run Try.prog w = .ok (.tuple #[.int .i64 (x : Int), .bool true]) w := by
  obtain ⟨D, h1, h2, h3⟩ := h
  have hkey := key3 hid
  obtain ⟨v, ps, hrun, hv⟩ := h1.look_ok Try.keyed3 Try.underlying80 (Try.zero3 w) (plainElem_int Try.underlying3 (by decide)) hkey
  obtain ⟨c, rfl, hc, _⟩ := plainElem_int_inv Try.underlying3 hv
  have e1 := (h2 id _ hkey).2 (by rw [hx]; rfl)
  have e2 := h3 id x _ hx hkey
  have e3 : D.atKey (.int .i64 (id : Int)) (.lit (.int .i64 0)) = .lit (.int .i64 c) := congrArg Prod.fst hc
  rw [e2] at e3
  injection e3 with e3
  injection e3 with _ e3
  rw [hrun, e1, e3]
theorem IM.no (h : IM w d K M) {id : Nat} (hid : id < 20000) (hx : M id = none) : (Instr.lookup 80 (.map (some d)) (.int .i64 (id : Int)) true).run Try.prog w = .ok (.tuple #[.int .i64 0, .bool false]) w := by
  obtain ⟨D, ⟨es, clock, hb, F, hsz, rfl⟩, h2, h3⟩ := h
  have hkey := key3 hid
  have e1 : ¬ Maps.has (DataW.map ((es.toList.map (WideElems.rg Try.prog 3 (plainElem Try.prog 3))).foldr DataW.insert [])) (.int .i64 (id : Int)) = true := fun e => by
    have := (h2 id _ hkey).1 e
    rw [hx] at this
    cases this
  rcases Maps.fit_look true Try.keyed3 Try.underlying80 (Try.zero3 w) hb F hkey with ⟨hrun, _, hat⟩ | ⟨e0, y, _, _, hrun, hRv, hat, _⟩
  · exact hrun
  · exact (e1 (Maps.has_true_of_atKey hat)).elim
theorem IM.put (h : IM w d K M) {id x : Nat} (hid : id < 20000) (hk : id < K) (hK : K ≤ 100) (hx : M id = none) (hxw : x < 20000) :
    ∃ w', (Instr.mapUpdate 80 (.map (some d)) (.int .i64 (id : Int)) (.int .i64 (x : Int))).run Try.prog w = .ok () w' ∧ IM w' d K (setM M id x) ∧ w.grownBy w' (some d) := by
  obtain ⟨D, h1, h2, h3⟩ := h
  have hkey := key3 hid
  have hc := cnt_le K M
  obtain ⟨w', hrun, hown, hturn⟩ := h1.store Try.keyed3 Try.underlying80 (by unfold maxLen; omega) hkey (plainElem_int Try.underlying3 (wf_len hxw))
  refine ⟨w', hrun, ⟨_, by rw [cnt_set hx hk]; exact hown, ?_, ?_⟩, hturn.grown⟩
  · intro id' kl' hk'
    by_cases e : kl' = .int .i64 (id : Int)
    · subst e
      rw [Maps.has_put_same h1.isMap (Try.keyed3.key hkey)]
      have : Value.int .i64 (id' : Int) = .int .i64 (id : Int) := Try.keyed3.inj hk' hkey
      have e2 : id' = id := by injection this with _ h; omega
      simp [setM, e2]
    · rw [Maps.has_put_other e, h2 id' kl' hk']
      have : ¬ id' = id := fun e2 => e (by rw [e2, hkey] at hk'; exact (Option.some.inj hk').symm)
      simp [setM, this]
  · intro id' x' kl' hx' hk'
    by_cases e : kl' = .int .i64 (id : Int)
    · subst e
      have : Value.int .i64 (id' : Int) = .int .i64 (id : Int) := Try.keyed3.inj hk' hkey
      have e2 : id' = id := by injection this with _ h; omega
      rw [Maps.atKey_put_same h1.isMap (Try.keyed3.key hkey)]
      simp only [setM, e2, if_true] at hx'
      cases hx'
      rfl
    · rw [Maps.atKey_put_other e]
      have : ¬ id' = id := fun e2 => e (by rw [e2, hkey] at hk'; exact (Option.some.inj hk').symm)
      simp only [setM, this, if_false] at hx'
      exact h3 id' x' kl' hx' hk'
end

section
variable {n0 K b m d : Nat} {w w' w1 : World} {v v' : Value} {L0 L L' : List Nd} {M M' : Nat → Option Nat}
/-- What holds between the calls. -/
structure St (n0 K : Nat) (w : World) (b m d : Nat) (v : Value) (L0 L : List Nd) (M : Nat → Option Nat) : Prop where
  ar : Ar n0 w b m v L
  wf : WfN L
  im : IM w d K M
  mir : ∀ j x, M j = some x → Mir L j x
  dom : ∀ j, K ≤ j → M j = none
  pre : Pre L0 L
  kl : L0.length = K
  len : L.length ≤ K + cnt K M
  lod : n0 ≤ d
  ne : d ≠ m
/-- Another block. -/
def Off (b m d : Nat) (v : Value) (x : Nat) : Prop := x ≠ b ∧ x ≠ m ∧ x ≠ d ∧ some x ≠ v.ownBlock
/-- What the calls leave alone. -/
def Fr (w w' : World) (b m d : Nat) (v : Value) : Prop := ∀ x, x < w.heap.size → Off b m d v x → w'.heap[x]? = w.heap[x]?
def Ow (w : World) (v v' : Value) : Prop := v'.ownBlock = v.ownBlock ∨ ∃ g, v'.ownBlock = some g ∧ w.heap.size ≤ g
theorem Off.next {x : Nat} (h : Off b m d v x) (ho : Ow w v v') (hx : x < w.heap.size) : Off b m d v' x := by
  refine ⟨h.1, h.2.1, h.2.2.1, ?_⟩
  rcases ho with ho | ⟨g, ho, hg⟩
  · rw [ho]; exact h.2.2.2
  · rw [ho]; intro e; cases e; omega
theorem Ow.trans {v'' : Value} (h1 : Ow w v v') (h2 : Ow w1 v' v'') (hs : w.heap.size ≤ w1.heap.size) : Ow w v v'' := by
  rcases h2 with h2 | ⟨g, h2, hg⟩
  · rcases h1 with h1 | ⟨g, h1, hg⟩
    · exact .inl (h2.trans h1)
    · exact .inr ⟨g, h2.trans h1, hg⟩
  · exact .inr ⟨g, h2, by omega⟩
theorem Fr.trans {w2 : World} (h1 : Fr w w1 b m d v) (ho : Ow w v v') (hs : w.heap.size ≤ w1.heap.size) (h2 : Fr w1 w2 b m d v') : Fr w w2 b m d v :=
  fun x hx ho' => (h2 x (by omega) (ho'.next ho hx)).trans (h1 x hx ho')
theorem Fr.of_below (h : Below w.heap.size w w') : Fr w w' b m d v := fun x hx _ => h.block x hx
theorem St.dlt (h : St n0 K w b m d v L0 L M) : d < w.heap.size := h.im.lt
theorem St.keep (h : St n0 K w b m d v L0 L M) (hk : ∀ x, x = b ∨ x = m ∨ x = d ∨ v.ownBlock = some x → w'.heap[x]? = w.heap[x]?) : St n0 K w' b m d v L0 L M :=
  ⟨h.ar.keep fun x hx => hk x (by rcases hx with h1 | h1 | h1; exact .inl h1; exact .inr (.inl h1); exact .inr (.inr (.inr h1))), h.wf, h.im.keep (hk d (.inr (.inr (.inl rfl)))), h.mir, h.dom, h.pre, h.kl, h.len, h.lod, h.ne⟩
theorem St.lts (h : St n0 K w b m d v L0 L M) {x : Nat} (hx : x = b ∨ x = m ∨ x = d ∨ v.ownBlock = some x) : x < w.heap.size := by
  rcases hx with h1 | h1 | h1 | h1
  · exact (h.ar.ltv (.inl h1)).2
  · exact (h.ar.ltv (.inr (.inl h1))).2
  · rw [h1]; exact h.dlt
  · exact (h.ar.ltv (.inr (.inr h1))).2
theorem St.below (h : St n0 K w b m d v L0 L M) {k : Nat} (hb : Below k w w') (hk : w.heap.size ≤ k) : St n0 K w' b m d v L0 L M :=
  h.keep fun x hx => hb.block x (Nat.lt_of_lt_of_le (h.lts hx) hk)
/-- A new block is another one. -/
theorem St.off (h : St n0 K w b m d v L0 L M) {x : Nat} (hx : w.heap.size ≤ x) : Off b m d v x := by
  have h1 := h.lts (.inl rfl)
  have h2 := h.lts (.inr (.inl rfl))
  have h3 := h.lts (.inr (.inr (.inl rfl)))
  refine ⟨by omega, by omega, by omega, fun e => ?_⟩
  have := h.lts (.inr (.inr (.inr e.symm)))
  omega
/-- A store into another block. -/
theorem St.other (h : St n0 K w b m d v L0 L M) {x : Nat} (hx : Off b m d v x) (i : Nat) (u : Value) : St n0 K (w.setCell ⟨x, i, none⟩ u) b m d v L0 L M :=
  h.keep fun y hy => Below.heap_setCell w _ _ y (by
    rintro rfl
    obtain ⟨h1, h2, h3, h4⟩ := hx
    rcases hy with e | e | e | e
    · exact h1 e
    · exact h2 e
    · exact h3 e
    · exact h4 e.symm)
theorem St.dnb (h : St n0 K w b m d v L0 L M) : d ≠ b := fun e => by
  obtain ⟨es, c, h1⟩ := h.im.blk
  rw [e, h.ar.blk] at h1
  cases h1
theorem St.dnv (h : St n0 K w b m d v L0 L M) : some d ≠ v.ownBlock := fun e => by
  obtain ⟨_, _, cur, h2⟩ := own_blk h.ar.own e.symm
  obtain ⟨es, c, h1⟩ := h.im.blk
  rw [h2] at h1
  cases h1
/-- Put and the note of what is done. -/
theorem St.fin (h : St n0 K w b m d v L0 L M) (hn0 : n0 ≤ w.heap.size) {n : Nd} {id : Nat} (hid : M id = none) (hik : id < K) {w2 : World} (hA : Ar n0 w1 b m v' (putL L n)) (ho : Ow w v v') (hb : Below n0 w w1) (hOnly : Only w w1 b m v)
    (hM : Mir (putL L n) id (idN L n)) (hI : IM w2 d K (setM M id (idN L n))) (hg : w1.grownBy w2 (some d)) :
    St n0 K w2 b m d v' L0 (putL L n) (setM M id (idN L n)) ∧ Fr w w2 b m d v ∧ Ow w v v' ∧ Below n0 w w2 := by
  have hs := hb.size
  have hdl := h.dlt
  have hdv' : some d ≠ v'.ownBlock := fun e => by
    rcases ho with ho | ⟨g, ho, hg⟩
    · exact h.dnv (e.trans ho)
    · rw [ho] at e; cases e; omega
  refine ⟨⟨hA.keep fun x hx => hg.block x (hA.ltv hx).2 (fun e => ?_), wf_put h.wf, hI, ?_, ?_, h.pre.trans (pre_put L n), h.kl, ?_, h.lod, h.ne⟩, ?_, ho, ?_⟩
  · cases e
    rcases hx with e | e | e
    · exact h.dnb e
    · exact h.ne e
    · exact hdv' e.symm
  · intro j x hj
    by_cases e : j = id
    · subst e
      simp only [setM, if_true] at hj
      cases hj
      exact hM
    · simp only [setM, e, if_false] at hj
      exact (h.mir j x hj).mono (pre_put L n)
  · intro j hj
    have : ¬ j = id := by omega
    simp only [setM, this, if_false]
    exact h.dom j hj
  · rw [cnt_set hid hik]
    have := putL_len L n
    have := h.len
    omega
  · intro x hx hoff
    rw [hg.block x (by omega) (fun e => hoff.2.2.1 (by cases e; rfl))]
    exact hOnly x hx hoff.1 hoff.2.1 hoff.2.2.2
  · exact hb.grown hg (by omega) (fun j hj => by cases hj; exact h.lod)
theorem ok_leaf {i j : Nat} {n : Nd} (h : okN i n.kind n.f n.a n.b n.neg = true) (hk : n.kind < 3 ∨ n.kind = 8) : okN j n.kind n.f n.a n.b n.neg = true := by
  unfold okN at *
  simp only [Bool.or_eq_true, decide_eq_true_eq] at *
  rcases h with (((h | h) | h) | h) | h
  · exact .inl (.inl (.inl (.inl h)))
  · exact .inl (.inl (.inl (.inr h)))
  · omega
  · omega
  · exact .inr h
theorem ok_new2 {i j : Nat} {k a c : Int} {f : Nat → Bool} {g : Bool} {x y : Nat} (h : okN i k f a c g = true) (hk : 3 ≤ k ∧ k ≤ 5) (hx : x < j) (hy : y < j) : okN j k f (x : Int) (y : Int) g = true := by
  obtain ⟨h1, h2, _, _⟩ := ok_parts2 (n := ⟨k, f, a, c, g⟩) h hk
  unfold okN
  simp only [Bool.or_eq_true, decide_eq_true_eq]
  exact .inl (.inl (.inr ⟨hk, h1, h2, by omega, by omega⟩))
theorem ok_new1 {i j : Nat} {k a c : Int} {f : Nat → Bool} {g : Bool} {x : Nat} (h : okN i k f a c g = true) (hk : k = 6 ∨ k = 7) (hx : x < j) : okN j k f (x : Int) c g = true := by
  obtain ⟨h1, h2, h3, _⟩ := ok_parts1 (n := ⟨k, f, a, c, g⟩) h hk
  unfold okN
  simp only [Bool.or_eq_true, decide_eq_true_eq]
  exact .inl (.inr ⟨hk, h1, h2, h3, by omega⟩)
theorem put_key_at {n : Nd} (hr : okN L.length n.kind n.f n.a n.b n.neg = true) : ∃ y, (putL L n)[idN L n]? = some y ∧ y.key = n.key := by
  obtain ⟨y, h1, h2⟩ := put_get hr
  exact ⟨y, h1, Nd.key_v.2 h2⟩
theorem Mir.lt {i x : Nat} (h : Mir L i x) : x < L.length := by
  cases h with
  | leaf _ h' _ _ => exact (List.getElem?_eq_some_iff.1 h').1
  | cat _ h' _ _ _ _ => exact (List.getElem?_eq_some_iff.1 h').1
  | two _ h' _ _ _ _ => exact (List.getElem?_eq_some_iff.1 h').1
  | one _ h' _ _ _ => exact (List.getElem?_eq_some_iff.1 h').1
theorem fin_leaf {id : Nat} {n : Nd} (h : L[id]? = some n) (hk : n.kind < 3 ∨ n.kind = 8) (hr : okN L.length n.kind n.f n.a n.b n.neg = true) : Mir (putL L n) id (idN L n) := by
  obtain ⟨y, h1, h2⟩ := put_key_at hr
  exact .leaf (pre_put L n _ _ h) h1 hk h2
theorem fin_cat {id x1 x2 : Nat} {f : Nat → Bool} {c e : Nat} {g : Bool} (h : L[id]? = some ⟨3, f, (c : Int), (e : Int), g⟩) (h1 : Mir L e x1) (h2 : Mir L c x2) (hr : okN L.length 3 f (x1 : Int) (x2 : Int) g = true) :
    Mir (putL L ⟨3, f, (x1 : Int), (x2 : Int), g⟩) id (idN L ⟨3, f, (x1 : Int), (x2 : Int), g⟩) := by
  obtain ⟨y, y1, y2⟩ := put_key_at (n := ⟨3, f, (x1 : Int), (x2 : Int), g⟩) hr
  obtain ⟨k0, _, k1, k2, _⟩ := key_parts y2
  refine .cat (pre_put L _ _ _ h) y1 rfl k0 ?_ ?_
  · rw [k1]; exact h1.mono (pre_put L _)
  · rw [k2]; exact h2.mono (pre_put L _)
theorem fin_two {id x1 x2 : Nat} {k : Int} {f : Nat → Bool} {c e : Nat} {g : Bool} (hk : k = 4 ∨ k = 5) (h : L[id]? = some ⟨k, f, (c : Int), (e : Int), g⟩) (h1 : Mir L c x1) (h2 : Mir L e x2) (hr : okN L.length k f (x1 : Int) (x2 : Int) g = true) :
    Mir (putL L ⟨k, f, (x1 : Int), (x2 : Int), g⟩) id (idN L ⟨k, f, (x1 : Int), (x2 : Int), g⟩) := by
  obtain ⟨y, y1, y2⟩ := put_key_at (n := ⟨k, f, (x1 : Int), (x2 : Int), g⟩) hr
  obtain ⟨k0, _, k1, k2, _⟩ := key_parts y2
  refine .two (pre_put L _ _ _ h) y1 hk k0 ?_ ?_
  · rw [k1]; exact h1.mono (pre_put L _)
  · rw [k2]; exact h2.mono (pre_put L _)
theorem fin_one {id x1 : Nat} {k : Int} {f : Nat → Bool} {c : Nat} {e : Int} {g : Bool} (hk : k = 6 ∨ k = 7) (h : L[id]? = some ⟨k, f, (c : Int), e, g⟩) (h1 : Mir L c x1) (hr : okN L.length k f (x1 : Int) e g = true) :
    Mir (putL L ⟨k, f, (x1 : Int), e, g⟩) id (idN L ⟨k, f, (x1 : Int), e, g⟩) := by
  obtain ⟨y, y1, y2⟩ := put_key_at (n := ⟨k, f, (x1 : Int), e, g⟩) hr
  obtain ⟨k0, _, k1, k2, _⟩ := key_parts y2
  refine .one (pre_put L _ _ _ h) y1 hk k0 ?_
  rw [k1]; exact h1.mono (pre_put L _)
theorem idN_small {n : Nd} (hr : okN L.length n.kind n.f n.a n.b n.neg = true) (hL : L.length ≤ 200) : idN L n < 20000 := by
  obtain ⟨y, h1, _⟩ := put_key_at hr
  have h2 := (List.getElem?_eq_some_iff.1 h1).1
  have := putL_len L n
  omega
/-- The turner. -/
abbrev tv (b d : Nat) : Value := .agg #[.pointer (some ⟨b, 0, none⟩), .map (some d)]
/-- What a call of turn does. -/
structure TurnR (n0 K b m d : Nat) (L0 : List Nd) (id : Nat) (w : World) (v : Value) (L : List Nd) (M : Nat → Option Nat) (w' : World) (x : Nat) (v' : Value) (L' : List Nd) (M' : Nat → Option Nat) : Prop where
  st : St n0 K w' b m d v' L0 L' M'
  mir : Mir L' id x
  pre : Pre L L'
  low : ∀ j, id < j → M' j = M j
  fr : Fr w w' b m d v
  ow : Ow w v v'
  bel : Below n0 w w'
def TurnE (n0 K b m d : Nat) (L0 : List Nd) (id : Nat) (w : World) (v : Value) (L : List Nd) (M : Nat → Option Nat) (e : Ending) (w' : World) : Prop :=
  ∃ (x : Nat) (v' : Value) (L' : List Nd) (M' : Nat → Option Nat), e = .returned (.int .i64 (x : Int)) ∧ TurnR n0 K b m d L0 id w v L M w' x v' L' M'
theorem turnE {id : Nat} {x : Nat} (h : TurnR n0 K b m d L0 id w v L M w' x v' L' M') : TurnE n0 K b m d L0 id w v L M (.returned (.int .i64 (x : Int))) w' := ⟨x, v', L', M', rfl, h⟩
theorem ow_refl (w : World) (v : Value) : Ow w v v := .inl rfl
def TurnC (n0 K b m d : Nat) (L0 : List Nd) (id : Nat) : Prop := ∀ (w : World) (v : Value) (L : List Nd) (M : Nat → Option Nat), St n0 K w b m d v L0 L M → n0 ≤ w.heap.size →
  Calls Try.prog 47 #[tv b d, .int .i64 (id : Int)] w fun e w' => TurnE n0 K b m d L0 id w v L M e w'
end
end Go.Proofs.Ytbmejpghoafapaa
