/-
  Plain facts on lists of nodes: whose parts lie ahead of them, what lies below a node, the sets below a node.
-/
import Derived.Test.YtbmejpghoafapaaPuts
namespace Go.Proofs.Ytbmejpghoafapaa
open Go.RowKit Go.Maps

/-- Each node may stand where it stands. -/
def WfN (L : List Nd) : Prop := ∀ (i : Nat) (n : Nd), L[i]? = some n → okN i n.kind n.f n.a n.b n.neg = true
theorem wf_nil : WfN [] := fun i n h => by simp at h
theorem wf_put {L : List Nd} {n : Nd} (h : WfN L) : WfN (putL L n) := by
  unfold putL
  split
  · rename_i hr
    unfold addN
    split
    · exact h
    · intro i x hx
      rcases Nat.lt_trichotomy i L.length with hi | hi | hi
      · rw [List.getElem?_append_left hi] at hx
        exact h i x hx
      · subst hi
        rw [List.getElem?_append_right (Nat.le_refl _)] at hx
        obtain rfl : n = x := by simpa using hx
        exact hr
      · rw [List.getElem?_eq_none (by simp; omega)] at hx
        cases hx
  · exact h
theorem wf_fold (l : List Nd) : ∀ L, WfN L → WfN (l.foldl putL L) := by
  induction l with
  | nil => exact fun L h => h
  | cons x l ih => exact fun L h => ih _ (wf_put h)
theorem wf_pre (l : List Nd) (k : Nat) : WfN (preL l k) := wf_fold _ _ wf_nil

/-- The parts of a node. -/
def kids (n : Nd) : List Nat := if 3 ≤ n.kind ∧ n.kind ≤ 5 then [n.a.toNat, n.b.toNat] else if n.kind = 6 ∨ n.kind = 7 then [n.a.toNat] else []
theorem ok_two {i : Nat} {n : Nd} (h : okN i n.kind n.f n.a n.b n.neg = true) (hk : 3 ≤ n.kind ∧ n.kind ≤ 5) : (0 ≤ n.a ∧ n.a < i) ∧ (0 ≤ n.b ∧ n.b < i) := by
  unfold okN at h
  simp at h
  omega
theorem ok_one {i : Nat} {n : Nd} (h : okN i n.kind n.f n.a n.b n.neg = true) (hk : n.kind = 6 ∨ n.kind = 7) : 0 ≤ n.a ∧ n.a < i := by
  unfold okN at h
  simp at h
  omega
theorem ok_kind {i : Nat} {n : Nd} (h : okN i n.kind n.f n.a n.b n.neg = true) : 0 ≤ n.kind ∧ n.kind ≤ 8 := by
  unfold okN at h
  simp at h
  omega
theorem ok_bytes {i : Nat} {n : Nd} (h : okN i n.kind n.f n.a n.b n.neg = true) (hk : n.kind = 2) : n.a = 0 ∧ n.b = 0 ∧ n.neg = false := by
  unfold okN at h
  simp [hk] at h
  exact h
theorem kids_lt {L : List Nd} (h : WfN L) {i : Nat} {n : Nd} (hn : L[i]? = some n) {c : Nat} (hc : c ∈ kids n) : c < i := by
  have hk := h i n hn
  unfold kids at hc
  split at hc
  · have := ok_two hk (by assumption)
    simp at hc
    omega
  · split at hc
    · have := ok_one hk (by assumption)
      simp at hc
      omega
    · cases hc

/-- Is k below id, or id itself? -/
def belF (L : List Nd) (k : Nat) : Nat → Nat → Bool
  | 0, _ => false
  | f + 1, id => (id == k) || match L[id]? with | none => false | some n => (kids n).any fun c => belF L k f c
def belB (L : List Nd) (id k : Nat) : Bool := belF L k (id + 1) id
theorem any_congr {l : List Nat} {p q : Nat → Bool} (h : ∀ c ∈ l, p c = q c) : l.any p = l.any q := by
  induction l with
  | nil => rfl
  | cons x l ih => simp only [List.any_cons]; rw [h x (by simp), ih fun c hc => h c (by simp [hc])]
theorem belF_more {L : List Nd} (h : WfN L) (k : Nat) : ∀ (id f g : Nat), id < f → id < g → belF L k f id = belF L k g id := by
  intro id
  induction id using Nat.strongRecOn with
  | _ id ih =>
    intro f g hf hg
    cases f with
    | zero => omega
    | succ f =>
      cases g with
      | zero => omega
      | succ g =>
        simp only [belF]
        cases hn : L[id]? with
        | none => rfl
        | some n =>
          simp only
          congr 1
          refine any_congr fun c hc => ?_
          have hlt := kids_lt h hn hc
          exact ih c hlt f g (by omega) (by omega)
theorem belB_eq {L : List Nd} (h : WfN L) {id k : Nat} {n : Nd} (hn : L[id]? = some n) : belB L id k = ((id == k) || (kids n).any fun c => belB L c k) := by
  unfold belB
  simp only [belF, hn]
  congr 1
  exact any_congr fun c hc => belF_more h k c id (c + 1) (kids_lt h hn hc) (by omega)
theorem belB_self (L : List Nd) (id : Nat) : belB L id id = true := by simp [belB, belF]
theorem belB_le {L : List Nd} (h : WfN L) (k : Nat) : ∀ id, belB L id k = true → k ≤ id := by
  intro id
  induction id using Nat.strongRecOn with
  | _ id ih =>
    intro hb
    cases hn : L[id]? with
    | none => simp [belB, belF, hn] at hb; omega
    | some n =>
      rw [belB_eq h hn] at hb
      rcases Bool.or_eq_true_iff.1 hb with h1 | h1
      · simp at h1; omega
      · obtain ⟨c, hc, h2⟩ := List.any_eq_true.1 h1
        have := kids_lt h hn hc
        have := ih c this h2
        omega

/-- Whoever is seen up to id has its parts seen. -/
def Shut (L : List Nd) (sn : Nat → Bool) (id : Nat) : Prop := ∀ j, j ≤ id → sn j = true → ∀ n, L[j]? = some n → ∀ c ∈ kids n, sn c = true
/-- What is seen behind a call. -/
def sees (L : List Nd) (sn : Nat → Bool) (id : Nat) : Nat → Bool := fun j => sn j || belB L id j
theorem sees_old {L : List Nd} (h : WfN L) {sn : Nat → Bool} : ∀ id, Shut L sn id → sn id = true → sees L sn id = sn := by
  intro id hs hid
  funext j
  unfold sees
  cases hb : belB L id j
  · simp
  · have : ∀ id, Shut L sn id → sn id = true → belB L id j = true → sn j = true := by
      intro id
      induction id using Nat.strongRecOn with
      | _ id ih =>
        intro hs hid hb
        cases hn : L[id]? with
        | none =>
          simp [belB, belF, hn] at hb
          exact hb ▸ hid
        | some n =>
          rw [belB_eq h hn] at hb
          rcases Bool.or_eq_true_iff.1 hb with h1 | h1
          · simp at h1; exact h1 ▸ hid
          · obtain ⟨c, hc, h2⟩ := List.any_eq_true.1 h1
            have hlt := kids_lt h hn hc
            exact ih c hlt (fun i hi => hs i (by omega)) (hs id (Nat.le_refl _) hid n hn c hc) h2
    rw [this id hs hid hb]
    rfl
/-- id is marked. -/
def mark (sn : Nat → Bool) (id : Nat) : Nat → Bool := fun j => sn j || j == id
theorem shut_mark {L : List Nd} {sn : Nat → Bool} {id c : Nat} (hs : Shut L sn id) (hc : c < id) : Shut L (mark sn id) c := by
  intro j hj hm n hn d hd
  unfold mark at *
  have : (j == id) = false := by simp; omega
  rw [this, Bool.or_false] at hm
  rw [hs j (by omega) hm n hn d hd]
  rfl
theorem shut_sees {L : List Nd} (h : WfN L) {sn : Nat → Bool} {c d id : Nat} (hs : Shut L (mark sn id) d) : Shut L (sees L (mark sn id) c) d := by
  intro j hj hm n hn e he
  unfold sees at *
  rcases Bool.or_eq_true_iff.1 hm with h1 | h1
  · rw [hs j hj h1 n hn e he]; rfl
  · have : belB L c e = true := by
      clear hm hs
      revert h1
      induction c using Nat.strongRecOn with
      | _ c ih =>
        intro h1
        cases hcn : L[c]? with
        | none =>
          simp [belB, belF, hcn] at h1
          rw [h1, hn] at hcn
          cases hcn
        | some nc =>
          rw [belB_eq h hcn] at h1 ⊢
          rcases Bool.or_eq_true_iff.1 h1 with h2 | h2
          · have h3 : c = j := by simpa using h2
            subst h3
            rw [hcn] at hn
            cases hn
            rw [Bool.or_eq_true_iff]
            exact .inr (List.any_eq_true.2 ⟨e, he, belB_self L e⟩)
          · obtain ⟨g, hg, h3⟩ := List.any_eq_true.1 h2
            rw [Bool.or_eq_true_iff]
            exact .inr (List.any_eq_true.2 ⟨g, hg, ih g (kids_lt h hcn hg) h3⟩)
    rw [this, Bool.or_true]
theorem sees_none {L : List Nd} (h : WfN L) {sn : Nat → Bool} {id : Nat} {n : Nd} (hn : L[id]? = some n) (hk : kids n = []) : sees L sn id = mark sn id := by
  funext j
  unfold sees mark
  rw [belB_eq h hn, hk]
  have : (id == j) = (j == id) := BEq.comm
  rw [this]
  simp
theorem sees_one {L : List Nd} (h : WfN L) {sn : Nat → Bool} {id c : Nat} {n : Nd} (hn : L[id]? = some n) (hk : kids n = [c]) : sees L sn id = sees L (mark sn id) c := by
  funext j
  unfold sees mark
  rw [belB_eq h hn, hk]
  have : (id == j) = (j == id) := BEq.comm
  rw [this]
  simp [Bool.or_assoc]
theorem sees_two {L : List Nd} (h : WfN L) {sn : Nat → Bool} {id c d : Nat} {n : Nd} (hn : L[id]? = some n) (hk : kids n = [c, d]) : sees L sn id = sees L (sees L (mark sn id) c) d := by
  funext j
  unfold sees mark
  rw [belB_eq h hn, hk]
  have : (id == j) = (j == id) := BEq.comm
  rw [this]
  simp [Bool.or_assoc]

/-- The sets of the chosen ones among the first k nodes. -/
def sel (L : List Nd) (p : Nat → Bool) : Nat → List (Nat → Bool)
  | 0 => []
  | k + 1 => sel L p k ++ match L[k]? with | none => [] | some n => if p k && decide (n.kind = 2) then [n.f] else []
theorem sel_yes {L : List Nd} {p : Nat → Bool} {k : Nat} {n : Nd} (hn : L[k]? = some n) (hp : p k = true) (hk : n.kind = 2) : sel L p (k + 1) = sel L p k ++ [n.f] := by simp [sel, hn, hp, hk]
theorem sel_no {L : List Nd} {p : Nat → Bool} {k : Nat} {n : Nd} (hn : L[k]? = some n) (hp : p k = false ∨ n.kind ≠ 2) : sel L p (k + 1) = sel L p k := by
  rcases hp with hp | hp <;> simp [sel, hn, hp]
theorem sel_len (L : List Nd) (p : Nat → Bool) : ∀ k, (sel L p k).length ≤ k
  | 0 => by simp [sel]
  | k + 1 => by
    have := sel_len L p k
    simp only [sel, List.length_append]
    cases L[k]? with
    | none => simp; omega
    | some n => simp only []; split <;> simp <;> omega
theorem sel_prefix (L : List Nd) (p : Nat → Bool) (k : Nat) : ∀ d, ∃ r, sel L p (k + d) = sel L p k ++ r
  | 0 => ⟨[], by simp⟩
  | d + 1 => by
    obtain ⟨r, hr⟩ := sel_prefix L p k d
    rw [← Nat.add_assoc]
    simp only [sel, hr, List.append_assoc]
    exact ⟨_, rfl⟩
theorem sel_at {L : List Nd} {p : Nat → Bool} {k m : Nat} {n : Nd} (hn : L[k]? = some n) (hp : p k = true) (hk : n.kind = 2) (hm : k < m) : (sel L p m)[(sel L p k).length]? = some n.f := by
  obtain ⟨r, hr⟩ := sel_prefix L p (k + 1) (m - (k + 1))
  rw [show k + 1 + (m - (k + 1)) = m from by omega, sel_yes hn hp hk] at hr
  rw [hr, List.append_assoc, List.getElem?_append_right (Nat.le_refl _)]
  simp
theorem sel_mem {L : List Nd} {p : Nat → Bool} {f : Nat → Bool} : ∀ k, f ∈ sel L p k → ∃ i n, i < k ∧ L[i]? = some n ∧ n.kind = 2 ∧ n.f = f
  | 0, h => by simp [sel] at h
  | k + 1, h => by
    simp only [sel, List.mem_append] at h
    rcases h with h | h
    · obtain ⟨i, n, h1, h2⟩ := sel_mem k h
      exact ⟨i, n, by omega, h2⟩
    · cases hn : L[k]? with
      | none => simp [hn] at h
      | some n =>
        simp only [hn] at h
        split at h
        · rename_i hc
          simp at hc h
          exact ⟨k, n, by omega, hn, hc.2, h.symm⟩
        · cases h
/-- No set stands twice. -/
theorem sel_fresh {L : List Nd} (h : WfN L) (hd : (L.map Nd.key).Nodup) {p : Nat → Bool} {k : Nat} {n : Nd} (hn : L[k]? = some n) (hk : n.kind = 2) : ∀ g ∈ sel L p k, eqS n.f g = false := by
  intro g hg
  obtain ⟨i, m, hi, hm, hmk, rfl⟩ := sel_mem k hg
  cases he : eqS n.f m.f
  · rfl
  · exfalso
    have h1 := ok_bytes (h k n hn) hk
    have h2 := ok_bytes (h i m hm) hmk
    obtain ⟨e0, e1, e2, e3⟩ := eqS_words.1 he
    have h3 : n.key = m.key := by
      unfold Nd.key
      rw [e0, e1, e2, e3, h1.1, h1.2.1, h1.2.2, h2.1, h2.2.1, h2.2.2, hk, hmk]
    have hkl := (List.getElem?_eq_some_iff.1 hn).1
    have h4 := key_at hn
    have h5 := key_at hm
    rw [List.getElem?_eq_some_iff] at h4 h5
    obtain ⟨a4, b4⟩ := h4
    obtain ⟨a5, b5⟩ := h5
    have := (List.getElem_inj hd).1 (b5.trans (h3.symm.trans b4.symm))
    omega

end Go.Proofs.Ytbmejpghoafapaa
