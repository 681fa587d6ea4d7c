/-
  A map that numbers its keys in the order in which they came: the key that came i-th is mapped to i.
-/
import Derived.Maps.OwnSet
import Derived.DeepKeys4
import Derived.Below
import Derived.WalkKit
namespace Go.Proofs.Ytbmejpghoafapaa
open Go.RowKit
open Go.Maps (Keyed)

section
variable {P : Program} {K E : TypeId} {q : IntKind} {w : World} {b : Nat} {L : List Value}

/-- Block b is a map whose keys are L; the i-th of them leads to i. -/
def KSeq (P : Program) (K E : TypeId) (q : IntKind) (w : World) (b : Nat) (L : List Value) : Prop :=
  ∃ D : DataW Unit, w.ownsMap P K (plainElem P E) b L.length D ∧ (∀ key kl, keyOf P K key = some kl → (Maps.has D kl = true ↔ key ∈ L)) ∧
    ∀ (i : Nat) key kl, L[i]? = some key → keyOf P K key = some kl → D.atKey kl (.lit (.int q 0)) = .lit (.int q (i : Int))

theorem KSeq.made (P : Program) (K E : TypeId) (q : IntKind) (w : World) {b : Nat} (hb : b = w.heap.size) : KSeq P K E q (w.alloc (.map #[] 0)) b [] := by
  subst hb
  refine ⟨.map [], World.ownsMap_made _ _ _ _, ?_, ?_⟩
  · intro key kl _
    simp [Maps.has]
  · intro i key kl h
    simp at h
theorem KSeq.lt (h : KSeq P K E q w b L) : b < w.heap.size := let ⟨_, h1, _⟩ := h; h1.lt
theorem KSeq.kept {w' : World} {row : Option Nat} (h : KSeq P K E q w b L) (hg : w.grownBy w' row) (hne : some b ≠ row) : KSeq P K E q w' b L :=
  let ⟨D, h1, h2⟩ := h; ⟨D, h1.kept hg hne, h2⟩
theorem KSeq.below {w' : World} {n : Nat} (h : KSeq P K E q w b L) (hb : Below n w w') (hlt : b < n) : KSeq P K E q w' b L := by
  obtain ⟨D, ⟨es, clock, h1, r⟩, h2⟩ := h
  exact ⟨D, ⟨es, clock, (hb.block b hlt).trans h1, r⟩, h2⟩
theorem KSeq.alloc (h : KSeq P K E q w b L) (o : Obj) : KSeq P K E q (w.alloc o) b L := let ⟨D, h1, h2⟩ := h; ⟨D, h1.alloc o, h2⟩
theorem KSeq.drew (h : KSeq P K E q w b L) : KSeq P K E q w.drew b L := h
theorem KSeq.other (h : KSeq P K E q w b L) {a : Addr} (ha : b ≠ a.block) (v : Value) : KSeq P K E q (w.setCell a v) b L := let ⟨D, h1, h2⟩ := h; ⟨D, h1.setCell ha v, h2⟩

theorem KSeq.look_yes (h : KSeq P K E q w b L) (hK : Keyed P K) {t : TypeId} (ht : P.underlying t = some (.map K E)) (he : P.underlying E = some (.int q)) (hz : (zeroValue E).run P w = .ok (.int q 0) w) {key : Value} {kl : Lit} (hkey : keyOf P K key = some kl)
    {i : Nat} (hi : L[i]? = some key) : (Instr.lookup t (.map (some b)) key true).run P w = .ok (.tuple #[.int q (i : Int), .bool true]) w := by
  obtain ⟨D, h1, h2, h3⟩ := h
  obtain ⟨v, ps, hrun, hv⟩ := h1.look_ok hK ht hz (plainElem_int he (by cases q <;> decide)) hkey
  obtain ⟨c, rfl, hc, _⟩ := plainElem_int_inv he hv
  have e1 : Maps.has D kl = true := (h2 key kl hkey).2 (List.mem_of_getElem? hi)
  have e2 := h3 i key kl hi hkey
  have e3 : D.atKey kl (.lit (.int q 0)) = .lit (.int q c) := congrArg Prod.fst hc
  rw [e2] at e3
  injection e3 with e3
  injection e3 with _ e3
  rw [hrun, e1, e3]
theorem KSeq.look_no (h : KSeq P K E q w b L) (hK : Keyed P K) {t : TypeId} (ht : P.underlying t = some (.map K E)) (hz : (zeroValue E).run P w = .ok (.int q 0) w) {key : Value} {kl : Lit} (hkey : keyOf P K key = some kl)
    (hi : key ∉ L) : (Instr.lookup t (.map (some b)) key true).run P w = .ok (.tuple #[.int q 0, .bool false]) w := by
  obtain ⟨D, ⟨es, clock, hb, F, hsz, rfl⟩, h2, h3⟩ := h
  have e1 : ¬ Maps.has (DataW.map ((es.toList.map (WideElems.rg P K (plainElem P E))).foldr DataW.insert [])) kl = true := fun e => hi ((h2 key kl hkey).1 e)
  rcases Maps.fit_look true hK ht hz hb F hkey with ⟨hrun, _, hat⟩ | ⟨e0, y, _, _, hrun, hRv, hat, _⟩
  · exact hrun
  · exact (e1 (Maps.has_true_of_atKey hat)).elim
theorem KSeq.store (h : KSeq P K E q w b L) (hK : Keyed P K) {t : TypeId} (ht : P.underlying t = some (.map K E)) (he : P.underlying E = some (.int q)) (hn : L.length < maxLen) (hw : (Lit.int q (L.length : Int)).wf = true) {key : Value} {kl : Lit} (hkey : keyOf P K key = some kl) (hi : key ∉ L) :
    ∃ w', (Instr.mapUpdate t (.map (some b)) key (.int q (L.length : Int))).run P w = .ok () w' ∧ KSeq P K E q w' b (L ++ [key]) ∧ w.grownBy w' (some b) := by
  obtain ⟨D, h1, h2, h3⟩ := h
  obtain ⟨w', hrun, hown, hturn⟩ := h1.store hK ht hn hkey (plainElem_int he hw)
  refine ⟨w', hrun, ⟨_, by simpa using hown, ?_, ?_⟩, hturn.grown⟩
  · intro key' kl' hk'
    by_cases e : kl' = kl
    · subst e
      rw [Maps.has_put_same h1.isMap (hK.key hkey)]
      have : key' = key := hK.inj hk' hkey
      simp [this]
    · rw [Maps.has_put_other e, h2 key' kl' hk']
      have : ¬ key' = key := fun e2 => e (by rw [e2, hkey] at hk'; exact (Option.some.inj hk').symm)
      simp [this]
  · intro i key' kl' hi' hk'
    by_cases e : kl' = kl
    · subst e
      have hkk : key' = key := hK.inj hk' hkey
      subst hkk
      have hil : i = L.length := by
        rcases Nat.lt_trichotomy i L.length with h | h | h
        · rw [List.getElem?_append_left h] at hi'
          exact (hi (List.mem_of_getElem? hi')).elim
        · exact h
        · rw [List.getElem?_eq_none (by simp; omega)] at hi'
          cases hi'
      rw [Maps.atKey_put_same h1.isMap (hK.key hkey), hil]
    · rw [Maps.atKey_put_other e]
      have hne : ¬ key' = key := fun e2 => e (by rw [e2, hkey] at hk'; exact (Option.some.inj hk').symm)
      have hil : i < L.length := by
        rcases Nat.lt_trichotomy i L.length with h | h | h
        · exact h
        · subst h
          simp at hi'
          exact (hne hi'.symm).elim
        · rw [List.getElem?_eq_none (by simp; omega)] at hi'
          cases hi'
      rw [List.getElem?_append_left hil] at hi'
      exact h3 i key' kl' hi' hk'

/-! at the operation -/
variable {ops : Array Oper} {rest : List Oper} {o : Oper} {a : Act} {Q : Exit → Act → World → Prop}
theorem wpList_seq_yes (hg : o.guard = none) (m x : Operand) (t : TypeId) (hop : o.op = Op.lookup t m x true) (hm : a.eval m = .map (some b)) (key : Value) (hx : a.eval x = key)
    {v : Value} (h : (Instr.lookup t (.map (some b)) key true).run P w = .ok v w) (hK : wpList P ops Q rest (a.put o.dst v) w) : wpList P ops Q (o :: rest) a w := by
  refine wpList_plain hg fun K' hK' => ?_
  unfold Oper.wp
  simp [execOp, hop, hm, hx, h, Result.andThen]
  exact hK' _ _ hK
theorem wpList_seq_put (hg : o.guard = none) (m x y : Operand) (t : TypeId) (hop : o.op = Op.mapUpdate t m x y) (hm : a.eval m = .map (some b)) (key val : Value) (hx : a.eval x = key) (hy : a.eval y = val) {w' : World}
    (h : (Instr.mapUpdate t (.map (some b)) key val).run P w = .ok () w') (hK : wpList P ops Q rest (a.put o.dst undef) w') : wpList P ops Q (o :: rest) a w := by
  refine wpList_plain hg fun K' hK' => ?_
  unfold Oper.wp
  simp [execOp, hop, hm, hx, hy, h, Result.andThen]
  exact hK' _ _ hK
end

end Go.Proofs.Ytbmejpghoafapaa
