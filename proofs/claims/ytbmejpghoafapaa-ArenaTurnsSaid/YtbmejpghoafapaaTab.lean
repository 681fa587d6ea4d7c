/-
  Tables of truths in memory; the walks of Blank and One.
-/
import Derived.Test.YtbmejpghoafapaaSets43
namespace Go.Proofs.Ytbmejpghoafapaa
open Go.RowKit Go.Maps

abbrev Tb := Nat → Nat → Bool
def slv (g n : Nat) : Value := .slice (some ⟨g, 0, none⟩) n n
/-- The first k rows are there. -/
def rwA (n k : Nat) (r : Nat → Nat) : Array Value := ((List.range n).map fun i => if i < k then slv (r i) n else .slice none 0 0).toArray
theorem rwA_at (n k : Nat) (r : Nat → Nat) {i : Nat} (h : i < n) : (rwA n k r)[i]? = some (if i < k then slv (r i) n else .slice none 0 0) := by simp [rwA, h]
theorem rwA_size (n k : Nat) (r : Nat → Nat) : (rwA n k r).size = n := by simp [rwA]
theorem rwA_set (n k : Nat) (r : Nat → Nat) (x : Nat) (hk : k < n) : (rwA n k r).setIfInBounds k (slv x n) = rwA n (k + 1) (fun i => if i = k then x else r i) := by
  apply Array.ext_getElem?
  intro j
  rw [Array.getElem?_setIfInBounds]
  by_cases hj : k = j
  · subst hj
    rw [if_pos rfl, if_pos (by rw [rwA_size]; exact hk), rwA_at _ _ _ hk]
    simp
  · rw [if_neg hj]
    by_cases h : j < n
    · rw [rwA_at _ _ _ h, rwA_at _ _ _ h]
      have h1 : (j < k + 1) = (j < k) := by simp; omega
      have h2 : ¬ j = k := fun e => hj e.symm
      simp only [h1, h2, if_false]
    · rw [Array.getElem?_eq_none (by rw [rwA_size]; omega), Array.getElem?_eq_none (by rw [rwA_size]; omega)]

variable {w w' w1 : World} {g n k n0 : Nat} {r : Nat → Nat} {T T' : Tb}
/-- A table in memory: its first k rows. -/
structure HTk (w : World) (g n k : Nat) (r : Nat → Nat) (T : Tb) : Prop where
  top : w.heap[g]? = some (.cells (rwA n k r) 70 (0, 0))
  row : ∀ i, i < k → HoldsB w (r i) n (T i)
  inj : ∀ i j, i < k → j < k → r i = r j → i = j
abbrev HT (w : World) (g n : Nat) (r : Nat → Nat) (T : Tb) : Prop := HTk w g n n r T
theorem heap_lt {b : Nat} {o : Obj} (h : w.heap[b]? = some o) : b < w.heap.size := by
  rcases Nat.lt_or_ge b w.heap.size with h1 | h1
  · exact h1
  · rw [Array.getElem?_eq_none h1] at h; cases h
theorem HTk.below (h : HTk w g n k r T) {m : Nat} (hb : Below m w w') (hk : w.heap.size ≤ m) : HTk w' g n k r T :=
  ⟨(hb.block g (Nat.lt_of_lt_of_le (heap_lt h.top) hk)).trans h.top, fun i hi => (h.row i hi).below hb (Nat.lt_of_lt_of_le (h.row i hi).lt hk), h.inj⟩
theorem HTk.congr (h : HTk w g n k r T) (he : ∀ i j, i < k → j < n → T i j = T' i j) : HTk w g n k r T' := by
  refine ⟨h.top, fun i hi => ?_, h.inj⟩
  have h1 := h.row i hi
  unfold HoldsB at *
  rw [h1]
  have : bvA n (T i) = bvA n (T' i) := by
    unfold bvA
    congr 1
    refine List.map_congr_left fun j hj => ?_
    rw [he i j hi (by simpa using hj)]
  rw [this]
theorem HTk.ne (h : HTk w g n k r T) {i : Nat} (hi : i < k) : g ≠ r i := fun e => by
  have h1 := h.row i hi
  unfold HoldsB at h1
  rw [← e, h.top] at h1
  simp at h1
theorem HT.c (h : HT w g n r T) {i : Nat} (hi : i < n) : w.cell? ⟨g, i, none⟩ = some (.slice (some ⟨r i, 0, none⟩) n n) := by
  rw [cell_of_row w g i _ 70 (0, 0) h.top, rwA_at n n r hi, if_pos hi]; rfl
theorem HT.e (h : HT w g n r T) {i j : Nat} (hi : i < n) (hj : j < n) : w.cell? ⟨r i, j, none⟩ = some (.bool (T i j)) := (h.row i hi).cell hj
theorem HT.fz (h : HT w g n r T) {i : Nat} (hi : i < n) (j : Nat) : w.frozen? ⟨r i, j, none⟩ = false := (h.row i hi).free j
theorem HTk.top_free (h : HTk w g n k r T) (j : Nat) : w.frozen? ⟨g, j, none⟩ = false := by
  have := h.top
  simp [World.frozen?, this]
/-- One truth is put. -/
def putT (T : Tb) (i j : Nat) (v : Bool) : Tb := fun x y => if x = i ∧ y = j then v else T x y
theorem bvA_put (n : Nat) (sn : Nat → Bool) (id : Nat) (v : Bool) : (bvA n sn).setIfInBounds id (.bool v) = bvA n (fun x => if x = id then v else sn x) := by
  apply Array.ext_getElem?
  intro j
  rw [Array.getElem?_setIfInBounds]
  by_cases hj : id = j
  · subst hj
    rw [if_pos rfl]
    by_cases h : id < n
    · rw [if_pos (by simpa [bvA] using h), bvA_at n _ id h]
      simp
    · rw [if_neg (by simpa [bvA] using h), Array.getElem?_eq_none (by simp [bvA]; omega)]
  · rw [if_neg hj]
    by_cases h : j < n
    · rw [bvA_at n _ j h, bvA_at n _ j h]
      have : ¬ j = id := fun e => hj e.symm
      simp [this]
    · rw [Array.getElem?_eq_none (by simp [bvA]; omega), Array.getElem?_eq_none (by simp [bvA]; omega)]
theorem HT.put (h : HT w g n r T) {i : Nat} (hi : i < n) (j : Nat) (v : Bool) : HT (w.setCell ⟨r i, j, none⟩ (.bool v)) g n r (putT T i j v) := by
  refine ⟨(Below.heap_setCell w _ _ g (h.ne hi)).trans h.top, fun x hx => ?_, h.inj⟩
  by_cases he : x = i
  · subst he
    have h1 := h.row x hx
    unfold HoldsB at *
    rw [heap_setCell_same w (r x) j _ 4 _ h1, bvA_put]
    have : (fun y => if y = j then v else T x y) = putT T x j v x := by funext y; simp [putT]
    rw [this]
  · have h1 := h.row x hx
    have hne : r x ≠ r i := fun e => he (h.inj x i hx hi e)
    have h2 : putT T i j v x = T x := by funext y; simp [putT, he]
    unfold HoldsB at *
    rw [h2]
    exact (Below.heap_setCell w _ _ (r x) hne).trans h1
/-- A table of its own. -/
structure NT (n0 : Nat) (w : World) (g n : Nat) (r : Nat → Nat) (T : Tb) : Prop where
  ht : HT w g n r T
  lo : n0 ≤ g
  los : ∀ i, i < n → n0 ≤ r i
theorem NT.below (h : NT n0 w g n r T) {m : Nat} (hb : Below m w w') (hk : w.heap.size ≤ m) : NT n0 w' g n r T := ⟨h.ht.below hb hk, h.lo, h.los⟩
theorem NT.congr (h : NT n0 w g n r T) (he : ∀ i j, i < n → j < n → T i j = T' i j) : NT n0 w g n r T' := ⟨h.ht.congr he, h.lo, h.los⟩
theorem NT.put (h : NT n0 w g n r T) {i : Nat} (hi : i < n) (j : Nat) (v : Bool) : NT n0 (w.setCell ⟨r i, j, none⟩ (.bool v)) g n r (putT T i j v) := ⟨h.ht.put hi j v, h.lo, h.los⟩
theorem NT.put_below (h : NT n0 w g n r T) {i : Nat} (hi : i < n) (j : Nat) (v : Bool) (hb : Below n0 w1 w) : Below n0 w1 (w.setCell ⟨r i, j, none⟩ (.bool v)) :=
  Below.setCell hb (h.los i hi) _
theorem NT.mono {n1 : Nat} (h : NT n0 w g n r T) (hn : n1 ≤ n0) : NT n1 w g n r T := ⟨h.ht, Nat.le_trans hn h.lo, fun i hi => Nat.le_trans hn (h.los i hi)⟩

theorem madeCells_nil (n : Nat) (r : Nat → Nat) : madeCells #[.slice none 0 0] n = rwA n 0 r := by
  apply Array.ext_getElem?
  intro j
  by_cases h : j < n
  · rw [rwA_at n 0 r h]
    simp [madeCells, h, Nat.mod_one]
  · rw [Array.getElem?_eq_none (by unfold madeCells; simp; omega), Array.getElem?_eq_none (by rw [rwA_size]; omega)]
def tBlank : Tb := fun _ _ => false
theorem Try.info70 : (Try.prog.info? 70).map (fun i => (i.zero, i.size, i.bytes)) = some (some (.slice none 0 0), 1, 24) := by kernel_rfl
theorem HTk.step (h : HTk w g n k r tBlank) (hk : k < n) (hg : g < w.heap.size) : HTk ((w.alloc (.cells (bvA n (fun _ => false)) 4)).setCell ⟨g, k, none⟩ (.slice (some ⟨w.heap.size, 0, none⟩) n n)) g n (k + 1) (fun i => if i = k then w.heap.size else r i) tBlank := by
  have hX := Below.alloc (Below.refl w.heap.size w) (Nat.le_refl _) (.cells (bvA n (fun _ => false)) 4)
  have h1 := h.below hX (Nat.le_refl _)
  have hnew : HoldsB (w.alloc (.cells (bvA n (fun _ => false)) 4)) w.heap.size n (fun _ => false) := heap_alloc_new w _
  have hlt : ∀ i, i < k → r i < w.heap.size := fun i hi => (h.row i hi).lt
  refine ⟨?_, fun i hi => ?_, fun i j hi hj he => ?_⟩
  · rw [heap_setCell_same _ g k _ 70 _ h1.top]
    have := rwA_set n k r w.heap.size hk
    unfold slv at this
    rw [this]
  · by_cases e : i = k
    · subst e
      rw [if_pos rfl]
      have hne : w.heap.size ≠ g := by omega
      exact (Below.heap_setCell _ _ _ _ hne).trans hnew
    · rw [if_neg e]
      have hne : r i ≠ g := fun e1 => (h.ne (i := i) (by omega)) e1.symm
      exact (Below.heap_setCell _ _ _ _ hne).trans (h1.row i (by omega))
  · by_cases e1 : i = k <;> by_cases e2 : j = k
    · omega
    · rw [if_pos e1, if_neg e2] at he
      have := hlt j (by omega); omega
    · rw [if_neg e1, if_pos e2] at he
      have := hlt i (by omega); omega
    · rw [if_neg e1, if_neg e2] at he
      exact h.inj i j (by omega) (by omega) he

set_option maxRecDepth 100000 in
set_option maxHeartbeats 1000000 in
theorem blank_any (n : Nat) (hn : n ≤ 100) (w : World) : Calls Try.prog 48 #[.int .i64 (n : Int)] w fun e w' => (∃ g r, e = .returned (.slice (some ⟨g, 0, none⟩) n n) ∧ NT w.heap.size w' g n r tBlank) ∧ Below w.heap.size w w' := by
  obtain ⟨i4, hi4, hz4, hy4, hbb4⟩ := info_parts Try.info4
  obtain ⟨i7, hi7, hz7, hy7, hbb7⟩ := info_parts Try.info70
  replace hi4 := Lib.hid hi4
  replace hz4 := Lib.hid hz4
  replace hy4 := Lib.hid hy4
  replace hbb4 := Lib.hid hbb4
  replace hi7 := Lib.hid hi7
  replace hz7 := Lib.hid hz7
  replace hy7 := Lib.hid hy7
  replace hbb7 := Lib.hid hbb7
  go_enter Try.func48, Try.ntmps48
  go_wp2_with (refine wpList_make_row _ rfl (.tmp 5) (.tmp 5) 67 rfl 70 i7 (.slice none 0 0) Try.underlying67 hi7.out hz7.out hy7.out rfl .i64 .i64 n rfl rfl (by rw [hbb7.out]; omega) (by omega) ?_; rw [madeCells_nil n (fun _ => 0)])
  have h0 : HTk (w.alloc (.cells (rwA n 0 (fun _ => 0)) 70)) w.heap.size n 0 (fun _ => 0) tBlank := ⟨heap_alloc_new w _, fun i hi => absurd hi (by omega), fun i j hi => absurd hi (by omega)⟩
  go_loopw [9] (fun i wr => ∃ (k : Nat) (r : Nat → Nat), k ≤ n ∧ i = .int .i64 k ∧ Below w.heap.size w wr ∧ HTk wr w.heap.size n k r tBlank ∧ ∀ j, j < k → w.heap.size ≤ r j) (fun i _ => (n - intOf i).toNat)
  case atStart => exact ⟨0, fun _ => 0, by omega, rfl, (by repeat (first | exact Below.refl _ _ | assumption | refine Below.drew ?_ | refine below_drewN' ?_ _ | refine Below.setCell ?_ (by first | omega | (simp; done) | (simp; omega)) _ | refine Below.alloc ?_ (by first | omega | (simp; done) | (simp; omega)) _ | refine Below.trans ?_ (Below.mono (by assumption) (by first | omega | (simp; done) | (simp; omega))))), h0, fun j hj => absurd hj (by omega)⟩
  case round =>
    clear h0
    obtain ⟨k, r, hk, rfl, hbl, hH, hlo⟩ := hrel
    by_cases hlt : k < n
    · have hst := hH.step hlt (heap_lt hH.top)
      have hsz := hbl.size
      have hf : ∀ o, (wr.alloc o).frozen? ⟨w.heap.size, k, none⟩ = false := fun o => (hH.below (Below.alloc (Below.refl wr.heap.size wr) (Nat.le_refl _) o) (Nat.le_refl _)).top_free k
      have hc : ∀ o, (wr.alloc o).cell? ⟨w.heap.size, k, none⟩ = some (.slice none 0 0) := fun o => by
        rw [cell_of_row _ w.heap.size k _ 70 (0, 0) (hH.below (Below.alloc (Below.refl wr.heap.size wr) (Nat.le_refl _) o) (Nat.le_refl _)).top, rwA_at n k r hlt, if_neg (by omega)]
      go_wp2_with (refine wpList_make_row _ rfl (.tmp 14) (.tmp 14) 70 rfl 4 i4 (.bool false) Try.underlying70 hi4.out hz4.out hy4.out rfl .i64 .i64 n rfl rfl (by rw [hbb4.out]; omega) (by omega) ?_; rw [madeCells_false])
      go_round
      case rel => exact ⟨k + 1, fun i => if i = k then wr.heap.size else r i, by omega, by go_num, (by repeat (first | exact Below.refl _ _ | assumption | refine Below.drew ?_ | refine below_drewN' ?_ _ | refine Below.setCell ?_ (by first | omega | (simp; done) | (simp; omega)) _ | refine Below.alloc ?_ (by first | omega | (simp; done) | (simp; omega)) _ | refine Below.trans ?_ (Below.mono (by assumption) (by first | omega | (simp; done) | (simp; omega))))), hst, fun j hj => by simp only; split; exact hsz; exact hlo j (by omega)⟩
      case measure => simp [intOf]; omega
    · obtain rfl : k = n := by omega
      go_wp2_with fail
      go_ret
      exact ⟨⟨_, r, rfl, hH, Nat.le_refl _, hlo⟩, hbl⟩

end Go.Proofs.Ytbmejpghoafapaa
