/-
  Nodes turned round, in plain words: what mirrors what, and that the tables are mirrored too.
-/
import Derived.Test.YtbmejpghoafapaaSpn
namespace Go.Proofs.Ytbmejpghoafapaa
open Go.RowKit Go.Maps

/-- Node x is node i turned round. -/
inductive Mir (L : List Nd) : Nat → Nat → Prop
  | leaf {i x : Nat} {n n' : Nd} (h : L[i]? = some n) (h' : L[x]? = some n') (hk : n.kind < 3 ∨ n.kind = 8) (he : n'.key = n.key) : Mir L i x
  | cat {i x : Nat} {n n' : Nd} (h : L[i]? = some n) (h' : L[x]? = some n') (hk : n.kind = 3) (he : n'.kind = n.kind) (h1 : Mir L n.b.toNat n'.a.toNat) (h2 : Mir L n.a.toNat n'.b.toNat) : Mir L i x
  | two {i x : Nat} {n n' : Nd} (h : L[i]? = some n) (h' : L[x]? = some n') (hk : n.kind = 4 ∨ n.kind = 5) (he : n'.kind = n.kind) (h1 : Mir L n.a.toNat n'.a.toNat) (h2 : Mir L n.b.toNat n'.b.toNat) : Mir L i x
  | one {i x : Nat} {n n' : Nd} (h : L[i]? = some n) (h' : L[x]? = some n') (hk : n.kind = 6 ∨ n.kind = 7) (he : n'.kind = n.kind) (h1 : Mir L n.a.toNat n'.a.toNat) : Mir L i x
/-- L2 begins as L1. -/
def Pre (L1 L2 : List Nd) : Prop := ∀ (i : Nat) (n : Nd), L1[i]? = some n → L2[i]? = some n
theorem pre_refl (L : List Nd) : Pre L L := fun _ _ h => h
theorem Pre.trans {L1 L2 L3 : List Nd} (h1 : Pre L1 L2) (h2 : Pre L2 L3) : Pre L1 L3 := fun i n h => h2 i n (h1 i n h)
theorem Pre.len {L1 L2 : List Nd} (h : Pre L1 L2) : L1.length ≤ L2.length := by
  rcases Nat.eq_zero_or_pos L1.length with h0 | h0
  · omega
  · have h1 := h (L1.length - 1) _ (List.getElem?_eq_getElem (by omega))
    have := (List.getElem?_eq_some_iff.1 h1).1
    omega
theorem pre_put (L : List Nd) (n : Nd) : Pre L (putL L n) := by
  intro i x h
  unfold putL addN
  have hi := (List.getElem?_eq_some_iff.1 h).1
  split
  · split
    · exact h
    · rw [List.getElem?_append_left hi]; exact h
  · exact h
theorem Mir.mono {L L' : List Nd} (hp : Pre L L') {i x : Nat} (h : Mir L i x) : Mir L' i x := by
  induction h with
  | leaf h h' hk he => exact .leaf (hp _ _ h) (hp _ _ h') hk he
  | cat h h' hk he _ _ i1 i2 => exact .cat (hp _ _ h) (hp _ _ h') hk he i1 i2
  | two h h' hk he _ _ i1 i2 => exact .two (hp _ _ h) (hp _ _ h') hk he i1 i2
  | one h h' hk he _ i1 => exact .one (hp _ _ h) (hp _ _ h') hk he i1
theorem key_kind {n m : Nd} (h : n.key = m.key) : n.kind = m.kind := by
  unfold Nd.key at h
  injection h
theorem key_parts {n m : Nd} (h : n.key = m.key) : n.kind = m.kind ∧ (wd n.f 0 = wd m.f 0 ∧ wd n.f 1 = wd m.f 1 ∧ wd n.f 2 = wd m.f 2 ∧ wd n.f 3 = wd m.f 3) ∧ n.a = m.a ∧ n.b = m.b ∧ n.neg = m.neg := by
  simp only [Nd.key, List.cons.injEq] at h
  obtain ⟨h0, h1, h2, h3, h4, h5, h6, h7, _⟩ := h
  refine ⟨h0, ⟨h1, h2, h3, h4⟩, h5, h6, ?_⟩
  cases hn : n.neg <;> cases hm : m.neg <;> simp [hn, hm] at h7 <;> rfl
theorem Mir.symm {L : List Nd} {i x : Nat} (h : Mir L i x) : Mir L x i := by
  induction h with
  | leaf h h' hk he => exact .leaf h' h (by rw [key_kind he]; exact hk) he.symm
  | cat h h' hk he _ _ i1 i2 => exact .cat h' h (by rw [he]; exact hk) he.symm i2 i1
  | two h h' hk he _ _ i1 i2 => exact .two h' h (by rw [he]; exact hk) he.symm i1 i2
  | one h h' hk he _ i1 => exact .one h' h (by rw [he]; exact hk) he.symm i1
theorem zf_words {f g : Nat → Bool} (hf : Zf f) (hg : Zf g) : wd f 0 = wd g 0 ∧ wd f 1 = wd g 1 ∧ wd f 2 = wd g 2 ∧ wd f 3 = wd g 3 := by
  unfold Zf at hf hg
  omega
theorem key_eq {n m : Nd} (h0 : n.kind = m.kind) (hw : wd n.f 0 = wd m.f 0 ∧ wd n.f 1 = wd m.f 1 ∧ wd n.f 2 = wd m.f 2 ∧ wd n.f 3 = wd m.f 3) (ha : n.a = m.a) (hb : n.b = m.b) (hg : n.neg = m.neg) : n.key = m.key := by
  unfold Nd.key
  obtain ⟨h1, h2, h3, h4⟩ := hw
  rw [h0, h1, h2, h3, h4, ha, hb, hg]
theorem ok_parts2 {i : Nat} {n : Nd} (h : okN i n.kind n.f n.a n.b n.neg = true) (hk : 3 ≤ n.kind ∧ n.kind ≤ 5) : Zf n.f ∧ n.neg = false ∧ (0 ≤ n.a ∧ n.a < i) ∧ (0 ≤ n.b ∧ n.b < i) := by
  unfold okN at h
  simp only [Bool.or_eq_true, decide_eq_true_eq] at h
  rcases h with (((h | h) | h) | h) | h
  · omega
  · omega
  · exact ⟨h.2.1, h.2.2.1, h.2.2.2.1, h.2.2.2.2⟩
  · omega
  · omega
theorem ok_parts1 {i : Nat} {n : Nd} (h : okN i n.kind n.f n.a n.b n.neg = true) (hk : n.kind = 6 ∨ n.kind = 7) : Zf n.f ∧ n.b = 0 ∧ n.neg = false ∧ (0 ≤ n.a ∧ n.a < i) := by
  unfold okN at h
  simp only [Bool.or_eq_true, decide_eq_true_eq] at h
  rcases h with (((h | h) | h) | h) | h
  · omega
  · omega
  · omega
  · exact ⟨h.2.1, h.2.2.1, h.2.2.2.1, h.2.2.2.2⟩
  · omega
theorem nodup_idx {L : List Nd} (hd : (L.map Nd.key).Nodup) {x y : Nat} {n m : Nd} (hx : L[x]? = some n) (hy : L[y]? = some m) (he : n.key = m.key) : x = y := by
  have h1 := key_at hx
  have h2 := key_at hy
  rw [← he] at h2
  have hx1 := (List.getElem?_eq_some_iff.1 h1).1
  exact (List.getElem?_inj hx1 hd).1 (h1.trans h2.symm)
theorem Mir.uniq {L : List Nd} (hw : WfN L) (hd : (L.map Nd.key).Nodup) {i x : Nat} (h : Mir L i x) : ∀ {y : Nat}, Mir L i y → x = y := by
  induction h with
  | @leaf i x n n' h h' hk he =>
    intro y hy
    cases hy with
    | @leaf _ _ m m' g g' gk ge =>
      obtain rfl : n = m := Option.some.inj (h.symm.trans g)
      exact nodup_idx hd h' g' (he.trans ge.symm)
    | @cat _ _ m m' g g' gk ge _ _ => obtain rfl : n = m := Option.some.inj (h.symm.trans g); omega
    | @two _ _ m m' g g' gk ge _ _ => obtain rfl : n = m := Option.some.inj (h.symm.trans g); omega
    | @one _ _ m m' g g' gk ge _ => obtain rfl : n = m := Option.some.inj (h.symm.trans g); omega
  | @cat i x n n' h h' hk he _ _ i1 i2 =>
    intro y hy
    cases hy with
    | @leaf _ _ m m' g g' gk ge => obtain rfl : n = m := Option.some.inj (h.symm.trans g); omega
    | @cat _ _ m m' g g' gk ge g1 g2 =>
      obtain rfl : n = m := Option.some.inj (h.symm.trans g)
      have e1 := i1 g1
      have e2 := i2 g2
      obtain ⟨z1, z2, z3, z4⟩ := ok_parts2 (hw _ _ h') (by omega)
      obtain ⟨y1, y2, y3, y4⟩ := ok_parts2 (hw _ _ g') (by omega)
      exact nodup_idx hd h' g' (key_eq (by omega) (zf_words z1 y1) (by omega) (by omega) (by rw [z2, y2]))
    | @two _ _ m m' g g' gk ge _ _ => obtain rfl : n = m := Option.some.inj (h.symm.trans g); omega
    | @one _ _ m m' g g' gk ge _ => obtain rfl : n = m := Option.some.inj (h.symm.trans g); omega
  | @two i x n n' h h' hk he _ _ i1 i2 =>
    intro y hy
    cases hy with
    | @leaf _ _ m m' g g' gk ge => obtain rfl : n = m := Option.some.inj (h.symm.trans g); omega
    | @cat _ _ m m' g g' gk ge _ _ => obtain rfl : n = m := Option.some.inj (h.symm.trans g); omega
    | @two _ _ m m' g g' gk ge g1 g2 =>
      obtain rfl : n = m := Option.some.inj (h.symm.trans g)
      have e1 := i1 g1
      have e2 := i2 g2
      obtain ⟨z1, z2, z3, z4⟩ := ok_parts2 (hw _ _ h') (by omega)
      obtain ⟨y1, y2, y3, y4⟩ := ok_parts2 (hw _ _ g') (by omega)
      exact nodup_idx hd h' g' (key_eq (by omega) (zf_words z1 y1) (by omega) (by omega) (by rw [z2, y2]))
    | @one _ _ m m' g g' gk ge _ => obtain rfl : n = m := Option.some.inj (h.symm.trans g); omega
  | @one i x n n' h h' hk he _ i1 =>
    intro y hy
    cases hy with
    | @leaf _ _ m m' g g' gk ge => obtain rfl : n = m := Option.some.inj (h.symm.trans g); omega
    | @cat _ _ m m' g g' gk ge _ _ => obtain rfl : n = m := Option.some.inj (h.symm.trans g); omega
    | @two _ _ m m' g g' gk ge _ _ => obtain rfl : n = m := Option.some.inj (h.symm.trans g); omega
    | @one _ _ m m' g g' gk ge g1 =>
      obtain rfl : n = m := Option.some.inj (h.symm.trans g)
      have e1 := i1 g1
      obtain ⟨z1, z2, z3, z4⟩ := ok_parts1 (hw _ _ h') (by omega)
      obtain ⟨y1, y2, y3, y4⟩ := ok_parts1 (hw _ _ g') (by omega)
      exact nodup_idx hd h' g' (key_eq (by omega) (zf_words z1 y1) (by omega) (by omega) (by rw [z3, y3]))

/-- Table A' is table A, mirrored. -/
def MirT (n : Nat) (A A' : Tb) : Prop := ∀ p q, p ≤ q → q < n → A p q = A' (n - 1 - q) (n - 1 - p)
theorem then_iff {n : Nat} {A B : Tb} {p q : Nat} (hq : q < n) : tThen n A B p q = true ↔ ∃ k, p ≤ k ∧ k ≤ q ∧ A p k = true ∧ B k q = true := by
  unfold tThen thenK
  rw [List.any_eq_true]
  constructor
  · rintro ⟨k, _, h⟩
    simp only [Bool.and_eq_true, decide_eq_true_eq] at h
    exact ⟨k, h.1.1.1, h.1.1.2, h.1.2, h.2⟩
  · rintro ⟨k, h1, h2, h3, h4⟩
    refine ⟨k, by simp; omega, ?_⟩
    simp only [Bool.and_eq_true, decide_eq_true_eq]
    exact ⟨⟨⟨h1, h2⟩, h3⟩, h4⟩
theorem mirT_then {n : Nat} {A A' B B' : Tb} (hA : MirT n A A') (hB : MirT n B B') : MirT n (tThen n A B) (tThen n B' A') := by
  intro p q hpq hq
  rw [Bool.eq_iff_iff, then_iff hq, then_iff (by omega)]
  constructor
  · rintro ⟨k, h1, h2, h3, h4⟩
    refine ⟨n - 1 - k, by omega, by omega, ?_, ?_⟩
    · rw [← hB k q h2 hq]; exact h4
    · rw [← hA p k h1 (by omega)]; exact h3
  · rintro ⟨k, h1, h2, h3, h4⟩
    refine ⟨n - 1 - k, by omega, by omega, ?_, ?_⟩
    · rw [hA p (n - 1 - k) (by omega) (by omega), show n - 1 - (n - 1 - k) = k from by omega]; exact h4
    · rw [hB (n - 1 - k) q (by omega) hq, show n - 1 - (n - 1 - k) = k from by omega]; exact h3
theorem mirT_either {n : Nat} {A A' B B' : Tb} (hA : MirT n A A') (hB : MirT n B B') : MirT n (tEither A B) (tEither A' B') := by
  intro p q hpq hq
  simp only [tEither, hA p q hpq hq, hB p q hpq hq]
theorem mirT_both {n : Nat} {A A' B B' : Tb} (hA : MirT n A A') (hB : MirT n B B') : MirT n (tBoth A B) (tBoth A' B') := by
  intro p q hpq hq
  simp only [tBoth, hA p q hpq hq, hB p q hpq hq]
theorem mirT_other {n : Nat} {A A' : Tb} (hA : MirT n A A') : MirT n (tOther A) (tOther A') := by
  intro p q hpq hq
  have : n - 1 - q ≤ n - 1 - p := by omega
  simp only [tOther, hA p q hpq hq, hpq, this]
theorem mirT_one (n : Nat) : MirT n tOne tOne := by
  intro p q hpq hq
  unfold tOne
  rw [Bool.eq_iff_iff, beq_iff_eq, beq_iff_eq]
  omega
theorem mirT_blank (n : Nat) : MirT n tBlank tBlank := fun _ _ _ _ => rfl
theorem any_comm (n : Nat) (A : Tb) : ∀ m p q, p ≤ q → q < n → tThen n A (anyK n A m) p q = tThen n (anyK n A m) A p q
  | 0, p, q, hpq, hq => by
    rw [Bool.eq_iff_iff, then_iff hq, then_iff hq]
    constructor
    · rintro ⟨k, h1, h2, h3, h4⟩
      obtain rfl : k = q := by simpa [anyK, tOne] using h4
      exact ⟨p, Nat.le_refl _, h1, by simp [anyK, tOne], h3⟩
    · rintro ⟨k, h1, h2, h3, h4⟩
      obtain rfl : p = k := by simpa [anyK, tOne] using h3
      exact ⟨q, h2, Nat.le_refl _, h4, by simp [anyK, tOne]⟩
  | m + 1, p, q, hpq, hq => by
    have ih := any_comm n A m
    rw [Bool.eq_iff_iff, then_iff hq, then_iff hq]
    constructor
    · rintro ⟨k, h1, h2, h3, h4⟩
      simp only [anyK, tEither, Bool.or_eq_true] at h4
      rcases h4 with h4 | h4
      · have h5 : tThen n A (anyK n A m) p q = true := (then_iff hq).2 ⟨k, h1, h2, h3, h4⟩
        rw [ih p q hpq hq, then_iff hq] at h5
        obtain ⟨j, j1, j2, j3, j4⟩ := h5
        exact ⟨j, j1, j2, by simp only [anyK, tEither, j3, Bool.true_or], j4⟩
      · obtain ⟨j, j1, j2, j3, j4⟩ := (then_iff hq).1 h4
        have h5 : tThen n A (anyK n A m) p j = true := (then_iff (by omega)).2 ⟨k, h1, j1, h3, j3⟩
        rw [ih p j (by omega) (by omega)] at h5
        exact ⟨j, by omega, j2, by simp only [anyK, tEither, h5, Bool.or_true], j4⟩
    · rintro ⟨k, h1, h2, h3, h4⟩
      simp only [anyK, tEither, Bool.or_eq_true] at h3
      rcases h3 with h3 | h3
      · have h5 : tThen n (anyK n A m) A p q = true := (then_iff hq).2 ⟨k, h1, h2, h3, h4⟩
        rw [← ih p q hpq hq, then_iff hq] at h5
        obtain ⟨j, j1, j2, j3, j4⟩ := h5
        exact ⟨j, j1, j2, j3, by simp only [anyK, tEither, j4, Bool.true_or]⟩
      · rw [← ih p k h1 (by omega), then_iff (by omega)] at h3
        obtain ⟨j, j1, j2, j3, j4⟩ := h3
        have h5 : tThen n (anyK n A m) A j q = true := (then_iff hq).2 ⟨k, j2, h2, j4, h4⟩
        exact ⟨j, j1, by omega, j3, by simp only [anyK, tEither, h5, Bool.or_true]⟩
theorem mirT_anyK {n : Nat} {A A' : Tb} (hA : MirT n A A') : ∀ m, MirT n (anyK n A m) (anyK n A' m)
  | 0 => mirT_one n
  | m + 1 => by
    have ih := mirT_anyK hA m
    refine mirT_either ih ?_
    intro p q hpq hq
    rw [mirT_then ih hA p q hpq hq]
    exact any_comm n A' m _ _ (by omega) (by omega)
theorem mirT_any {n : Nat} {A A' : Tb} (hA : MirT n A A') : MirT n (tAny n A) (tAny n A') := mirT_anyK hA n
theorem rev_getD (l : List Int) {p r : Nat} (h : p + r + 1 = l.length) : l.reverse.getD r 0 = l.getD p 0 := by
  have h1 : r < l.reverse.length := by simp; omega
  have h2 : p < l.length := by omega
  rw [List.getD_eq_getElem?_getD, List.getD_eq_getElem?_getD, List.getElem?_eq_getElem h1, List.getElem?_eq_getElem h2, List.getElem_reverse]
  simp only [Option.getD_some]
  congr 1
  omega
theorem mirT_bytes {n : Nat} {f f' : Nat → Bool} {wl : List Int} (hn : wl.length + 1 = n) (h256 : ∀ x ∈ wl, 0 ≤ x ∧ x < 256) (hf : eqS f' f = true) : MirT n (tBytes f wl) (tBytes f' wl.reverse) := by
  intro p q hpq hq
  by_cases h : q = p + 1
  · subst h
    have e1 : n - 1 - p = n - 1 - (p + 1) + 1 := by omega
    rw [e1, tBytes_at (by omega), tBytes_at (by simp; omega), rev_getD wl (p := p) (by omega)]
    have := h256 _ (getD_mem (l := wl) (m := p) (by omega))
    exact (eqS_iff.1 hf _ (by omega)).symm
  · rw [tBytes_no f wl p q h, tBytes_no f' wl.reverse _ _ (by omega)]
theorem mirT_look {n : Nat} {bl : List Int} (hn : bl.length = n) (a : Int) (g : Bool) : MirT n (tLook bl a g) (tLook bl.reverse a g) := by
  intro p q hpq hq
  by_cases h : q = p
  · subst h
    rw [tLook_at, tLook_at, rev_getD bl (p := q) (by omega)]
  · rw [tLook_no bl a g p q h, tLook_no bl.reverse a g _ _ (by omega)]

theorem tN_congr {n i : Nat} {wl bl : List Int} {O O' : Nat → Tb} {x : Nd} (hok : okN i x.kind x.f x.a x.b x.neg = true) (h : ∀ j, j < i → O j = O' j) : tN n wl bl O x = tN n wl bl O' x := by
  by_cases h3 : 3 ≤ x.kind ∧ x.kind ≤ 5
  · obtain ⟨_, _, h1, h2⟩ := ok_parts2 hok h3
    unfold tN
    rw [h x.a.toNat (by omega), h x.b.toNat (by omega)]
  · by_cases h6 : x.kind = 6 ∨ x.kind = 7
    · obtain ⟨_, _, _, h1⟩ := ok_parts1 hok h6
      have e3 : ¬ x.kind = 3 := by omega
      have e4 : ¬ x.kind = 4 := by omega
      have e5 : ¬ x.kind = 5 := by omega
      unfold tN
      rw [h x.a.toNat (by omega)]
      simp only [e3, e4, e5, if_false]
    · have e3 : ¬ x.kind = 3 := by omega
      have e4 : ¬ x.kind = 4 := by omega
      have e5 : ¬ x.kind = 5 := by omega
      have e6 : ¬ x.kind = 6 := by omega
      have e7 : ¬ x.kind = 7 := by omega
      unfold tN
      simp only [e3, e4, e5, e6, e7, if_false]
theorem tS_fix {n : Nat} {wl bl : List Int} {L : List Nd} (hw : WfN L) {i : Nat} {x : Nd} (h : L[i]? = some x) : tS n wl bl L L.length i = tN n wl bl (tS n wl bl L L.length) x := by
  have hi := (List.getElem?_eq_some_iff.1 h).1
  have h1 := tS_more (n := n) (wl := wl) (bl := bl) (L := L) (i := i) (k := i + 1) (by omega) (L.length - (i + 1))
  rw [show i + 1 + (L.length - (i + 1)) = L.length from by omega, tS_new h] at h1
  rw [h1]
  refine tN_congr (hw i x h) fun j hj => ?_
  have h2 := tS_more (n := n) (wl := wl) (bl := bl) (L := L) (i := j) (k := i) hj (L.length - i)
  rw [show i + (L.length - i) = L.length from by omega] at h2
  exact h2.symm
theorem mir_tab {n : Nat} {wl bl : List Int} {L : List Nd} (hw : WfN L) (hn : wl.length + 1 = n) (hb : bl.length = n) (h256 : ∀ x ∈ wl, 0 ≤ x ∧ x < 256) {i x : Nat} (h : Mir L i x) :
    MirT n (tS n wl bl L L.length i) (tS n wl.reverse bl.reverse L L.length x) := by
  induction h with
  | @leaf i x m m' h h' hk he =>
    rw [tS_fix hw h, tS_fix hw h']
    obtain ⟨e0, e1, e2, e3, e4⟩ := key_parts he
    have hk0 := ok_kind (hw _ _ h)
    have hks : m.kind = 0 ∨ m.kind = 1 ∨ m.kind = 2 ∨ m.kind = 8 := by omega
    unfold tN
    rw [e0, e2, e4]
    rcases hks with hk | hk | hk | hk
    · rw [hk]; exact mirT_blank n
    · rw [hk]; exact mirT_one n
    · rw [hk]; exact mirT_bytes hn h256 (eqS_words.2 e1)
    · rw [hk]; exact mirT_look hb _ _
  | @cat i x m m' h h' hk he _ _ i1 i2 =>
    rw [tS_fix hw h, tS_fix hw h']
    unfold tN
    rw [he, hk]
    exact mirT_then i2 i1
  | @two i x m m' h h' hk he _ _ i1 i2 =>
    rw [tS_fix hw h, tS_fix hw h']
    unfold tN
    rw [he]
    rcases hk with hk | hk
    · rw [hk]; exact mirT_either i1 i2
    · rw [hk]; exact mirT_both i1 i2
  | @one i x m m' h h' hk he _ i1 =>
    rw [tS_fix hw h, tS_fix hw h']
    unfold tN
    rw [he]
    rcases hk with hk | hk
    · rw [hk]; exact mirT_other i1
    · rw [hk]; exact mirT_any i1

end Go.Proofs.Ytbmejpghoafapaa
