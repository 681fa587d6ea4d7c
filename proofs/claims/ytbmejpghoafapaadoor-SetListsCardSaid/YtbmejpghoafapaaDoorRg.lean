/-
  The ranges of a rising list of numbers; the walk of set.Ranges.
-/
import Derived.Test.YtbmejpghoafapaaDoorLists
namespace Go.Proofs.YtbmejpghoafapaaDoor
open Go.RowKit

theorem bs_lt {f : Nat → Bool} {k j x : Nat} (h : (bs f k)[j]? = some x) : x < k := by
  have := List.mem_of_getElem? h
  simpa [bs] using (List.mem_filter.1 this).1
theorem bs_up (f : Nat → Bool) : ∀ (k i j x y : Nat), i < j → (bs f k)[i]? = some x → (bs f k)[j]? = some y → x < y
  | 0, i, j, x, y, _, hx, _ => by simp [bs] at hx
  | k + 1, i, j, x, y, hij, hx, hy => by
    cases hf : f k
    · rw [bs_no hf] at hx hy; exact bs_up f k i j x y hij hx hy
    · rw [bs_yes hf] at hx hy
      have hj : j < (bs f k ++ [k]).length := (List.getElem?_eq_some_iff.1 hy).1
      have hl : (bs f k ++ [k]).length = (bs f k).length + 1 := by simp
      have hi : i < (bs f k).length := by omega
      rw [List.getElem?_append_left hi] at hx
      by_cases h : j < (bs f k).length
      · rw [List.getElem?_append_left h] at hy
        exact bs_up f k i j x y hij hx hy
      · have : j = (bs f k).length := by omega
        rw [this, List.getElem?_append_right (Nat.le_refl _), Nat.sub_self] at hy
        obtain rfl : k = y := by simpa using hy
        exact bs_lt hx

/-- The numbers of a range. -/
def rg (p : Nat × Nat) : List Nat := List.range' p.1 (p.2 + 1 - p.1)
/-- Ranges, rising, with gaps. -/
structure Gaps (R : List (Nat × Nat)) : Prop where
  le : ∀ (i : Nat) (p : Nat × Nat), R[i]? = some p → p.1 ≤ p.2
  lt : ∀ (i : Nat) (p : Nat × Nat), R[i]? = some p → p.2 < 256
  gap : ∀ (i : Nat) (p q : Nat × Nat), R[i]? = some p → R[i + 1]? = some q → p.2 + 1 < q.1
theorem gaps_nil : Gaps [] := ⟨fun i p h => by simp at h, fun i p h => by simp at h, fun i p q h => by simp at h⟩
theorem snoc_get {R : List (Nat × Nat)} {p x : Nat × Nat} {i : Nat} (h : (R ++ [p])[i]? = some x) : (i < R.length ∧ R[i]? = some x) ∨ (i = R.length ∧ x = p) := by
  have hi : i < (R ++ [p]).length := (List.getElem?_eq_some_iff.1 h).1
  have hl : (R ++ [p]).length = R.length + 1 := by simp
  by_cases h1 : i < R.length
  · rw [List.getElem?_append_left h1] at h; exact .inl ⟨h1, h⟩
  · have : i = R.length := by omega
    rw [this, List.getElem?_append_right (Nat.le_refl _), Nat.sub_self] at h
    exact .inr ⟨this, by simpa using h.symm⟩
theorem gaps_snoc {R : List (Nat × Nat)} (h : Gaps R) {p : Nat × Nat} (h1 : p.1 ≤ p.2) (h2 : p.2 < 256) (h3 : ∀ q, R.getLast? = some q → q.2 + 1 < p.1) : Gaps (R ++ [p]) := by
  refine ⟨fun i x hx => ?_, fun i x hx => ?_, fun i x y hx hy => ?_⟩
  · rcases snoc_get hx with ⟨_, h4⟩ | ⟨_, rfl⟩
    · exact h.le i x h4
    · exact h1
  · rcases snoc_get hx with ⟨_, h4⟩ | ⟨_, rfl⟩
    · exact h.lt i x h4
    · exact h2
  · rcases snoc_get hy with ⟨h4, h5⟩ | ⟨h4, rfl⟩
    · rcases snoc_get hx with ⟨_, h6⟩ | ⟨h6, _⟩
      · exact h.gap i x y h6 h5
      · omega
    · rcases snoc_get hx with ⟨_, h6⟩ | ⟨h6, _⟩
      · refine h3 x ?_
        rw [List.getLast?_eq_getElem?, ← h4, Nat.add_sub_cancel]
        exact h6
      · omega
theorem gaps_init {R : List (Nat × Nat)} {p : Nat × Nat} (h : Gaps (R ++ [p])) : Gaps R := by
  have up : ∀ (i : Nat) (x : Nat × Nat), R[i]? = some x → (R ++ [p])[i]? = some x := fun i x hx => by
    rw [List.getElem?_append_left (List.getElem?_eq_some_iff.1 hx).1]; exact hx
  exact ⟨fun i x hx => h.le i x (up i x hx), fun i x hx => h.lt i x (up i x hx), fun i x y hx hy => h.gap i x y (up _ _ hx) (up _ _ hy)⟩
theorem rg_next {x y : Nat} (h : x ≤ y) : rg (x, y + 1) = rg (x, y) ++ [y + 1] := by
  unfold rg
  rw [show y + 1 + 1 - x = (y + 1 - x) + 1 from by omega, List.range'_concat]
  simp; omega
theorem rg_one (x : Nat) : rg (x, x) = [x] := by
  unfold rg
  rw [show x + 1 - x = 1 from by omega]
  rfl
theorem rg_last {x y : Nat} (h : x ≤ y) : (rg (x, y)).getLast? = some y := by
  by_cases h1 : x = y
  · subst h1; rw [rg_one]; rfl
  · obtain ⟨z, rfl⟩ : ∃ z, y = z + 1 := ⟨y - 1, by omega⟩
    rw [rg_next (by omega)]; simp
/-- What Ranges makes of one more number. -/
theorem flat_last {R : List (Nat × Nat)} {x y : Nat} (h : x ≤ y) : ((R ++ [(x, y)]).flatMap rg).getLast? = some y := by
  have h1 := rg_last h
  have hne : rg (x, y) ≠ [] := fun e => by rw [e] at h1; cases h1
  rw [List.flatMap_append, List.flatMap_singleton, List.getLast?_append, h1]
  rfl
theorem last_lt {L : List Nat} (hup : ∀ i j x y : Nat, i < j → L[i]? = some x → L[j]? = some y → x < y) {k b y : Nat} (hb : L[k]? = some b) (hy : (L.take k).getLast? = some y) : y < b := by
  have hk := (List.getElem?_eq_some_iff.1 hb).1
  have hl : (L.take k).length = k := by rw [List.length_take]; omega
  rw [List.getLast?_eq_getElem?, hl] at hy
  have hk0 : k - 1 < k := by
    rcases Nat.eq_zero_or_pos k with h | h
    · subst h; simp at hy
    · omega
  rw [List.getElem?_take, if_pos hk0] at hy
  exact hup _ _ _ _ hk0 hy hb
theorem take_next {α : Type} {L : List α} {k : Nat} {n : α} (h : L[k]? = some n) : L.take (k + 1) = L.take k ++ [n] := by
  rw [List.take_add_one, h]; rfl

/-- The cells of ranges. -/
def rc (p : Nat × Nat) : List Value := [.int .u8 (p.1 : Int), .int .u8 (p.2 : Int)]
abbrev OwnR (n0 : Nat) (w : World) (v : Value) (R : List (Nat × Nat)) : Prop := w.ownsRow n0 44 2 v R.length (R.flatMap rc)
theorem rc_len (R : List (Nat × Nat)) : (R.flatMap rc).length = R.length * 2 := by
  induction R with
  | nil => rfl
  | cons p R ih => simp [List.flatMap_cons, rc] at *; omega
theorem rc_at {R : List (Nat × Nat)} {i : Nat} {p : Nat × Nat} (h : R[i]? = some p) : (R.flatMap rc)[i * 2]? = some (.int .u8 (p.1 : Int)) ∧ (R.flatMap rc)[i * 2 + 1]? = some (.int .u8 (p.2 : Int)) := by
  induction R generalizing i with
  | nil => simp at h
  | cons q R ih =>
    cases i with
    | zero => obtain rfl : q = p := by simpa using h
              simp [List.flatMap_cons, rc]
    | succ i =>
      have h1 := ih (i := i) (by simpa using h)
      rw [List.flatMap_cons]
      have e1 : (i + 1) * 2 = i * 2 + 1 + 1 := by omega
      have e2 : (i + 1) * 2 + 1 = (i * 2 + 1) + 1 + 1 := by omega
      rw [e2, e1]
      exact h1
/-- A store into the last pair. -/
theorem OwnR.last {n0 : Nat} {w : World} {v : Value} {R : List (Nat × Nat)} {x y b : Nat} {g : Nat} (h : OwnR n0 w v (R ++ [(x, y)])) (hg : v.ownBlock = some g) :
    OwnR n0 (w.setCell ⟨g, R.length * 2 + 1, none⟩ (.int .u8 (b : Int))) v (R ++ [(x, b)]) := by
  refine ⟨by rw [rc_len], ?_⟩
  rcases h.2 with ⟨rfl, _⟩ | ⟨g', cap, cur, rfl, h1, h2, h3, h4, h5, h6⟩
  · cases hg
  · obtain rfl : g' = g := by simpa [Value.ownBlock] using hg
    refine .inr ⟨g', cap, cur.setIfInBounds (R.length * 2 + 1) (.int .u8 (b : Int)), by simp, h1, ?_, by simpa using h3, h4, by simpa using h5, ?_⟩
    · simp only [World.setCell, Array.getElem?_modify, h2]; simp
    · have e : (R ++ [(x, b)]).length = (R ++ [(x, y)]).length := by simp
      rw [Array.toList_setIfInBounds, List.take_set, e, h6]
      rw [List.flatMap_append, List.flatMap_append, List.set_append_right _ _ (by rw [rc_len]; omega), rc_len, show R.length * 2 + 1 - R.length * 2 = 1 from by omega]
      rfl

end Go.Proofs.YtbmejpghoafapaaDoor
