/-
  Lists of nodes that are put one behind the other; own slices of nodes beside an arena.
-/
import Derived.Test.YtbmejpghoafapaaNil
import Derived.Test.YtbmejpghoafapaaRefRight
import Derived.Test.YtbmejpghoafapaaRow3
namespace Go.Proofs.Ytbmejpghoafapaa
open Go.RowKit Go.Maps

/-- The nodes behind the first k. -/
def preL (l : List Nd) (k : Nat) : List Nd := (l.take k).foldl putL []
theorem preL_zero (l : List Nd) : preL l 0 = [] := rfl
theorem preL_succ (l : List Nd) (k : Nat) (n : Nd) (h : l[k]? = some n) : preL l (k + 1) = putL (preL l k) n := by
  obtain ⟨hk, rfl⟩ := List.getElem?_eq_some_iff.1 h
  unfold preL
  rw [List.take_succ_eq_append_getElem hk, List.foldl_append]
  rfl
theorem putL_len (L : List Nd) (n : Nd) : (putL L n).length ≤ L.length + 1 := by
  unfold putL addN
  split
  · split <;> simp
  · simp
theorem preL_len (l : List Nd) : ∀ k, k ≤ l.length → (preL l k).length ≤ k
  | 0, _ => by simp [preL_zero]
  | k + 1, h => by
    have ih := preL_len l k (by omega)
    rw [preL_succ l k _ (List.getElem?_eq_getElem (by omega))]
    have := putL_len (preL l k) l[k]
    omega

variable {n0 b m : Nat} {w w' : World} {v va va' vw : Value} {L : List Nd} {n : Nd}

theorem putL_bad (hr : okN L.length n.kind n.f n.a n.b n.neg = false) : putL L n = L := by simp [putL, hr]
theorem putR_bad (hr : okN L.length n.kind n.f n.a n.b n.neg = false) : putR L n = .tuple #[.int .i64 0, .int .i64 1] := by simp [putR, hr]
theorem putR_ok (hr : okN L.length n.kind n.f n.a n.b n.neg = true) : putR L n = .tuple #[.int .i64 (idN L n : Int), .int .i64 0] := by simp [putR, hr]
theorem key_at {i : Nat} {x : Nd} (h : L[i]? = some x) : (L.map Nd.key)[i]? = some x.key := by rw [List.getElem?_map, h]; rfl
theorem not_in_of (h : ∀ (i : Nat) (x : Nd), L[i]? = some x → x.key ≠ n.key) : n.key ∉ L.map Nd.key := by
  intro hm
  obtain ⟨x, hx, he⟩ := List.mem_map.1 hm
  obtain ⟨i, hi⟩ := List.mem_iff_getElem?.1 hx
  exact h i x hi he
theorem idN_at {j : Nat} {x : Nd} (hx : L[j]? = some x) (he : x.key = n.key) (h : ∀ i, i < j → ∀ y : Nd, L[i]? = some y → y.key ≠ n.key) : idN L n = j := by
  have hm : n.key ∈ L.map Nd.key := by rw [← he]; exact List.mem_map_of_mem (List.mem_of_getElem? hx)
  have h1 := idN_lt hm
  have h2 := idN_get hm
  rw [List.getElem?_map, List.getElem?_eq_getElem h1] at h2
  have h3 : L[idN L n].key = n.key := Nd.key_v.2 (by simpa using h2)
  have hj : j < L.length := (List.getElem?_eq_some_iff.1 hx).1
  rcases Nat.lt_trichotomy (idN L n) j with h4 | h4 | h4
  · exact absurd h3 (h _ h4 _ (List.getElem?_eq_getElem h1))
  · exact h4
  · exfalso
    unfold idN at h4
    have h5 := List.not_of_lt_findIdx (p := (· == n.key)) (xs := L.map Nd.key) (i := j) h4
    rw [List.getElem?_eq_getElem hj] at hx
    have h6 : L[j] = x := by simpa using hx
    simp [h6, he] at h5
theorem put_miss (hr : okN L.length n.kind n.f n.a n.b n.neg = true) (h : ∀ i, i < L.length → ∀ x : Nd, L[i]? = some x → x.key ≠ n.key) : putL L n = L ++ [n] ∧ idN L n = L.length := by
  have hn := not_in_of (L := L) (n := n) fun i x hx => h i (List.getElem?_eq_some_iff.1 hx).1 x hx
  exact ⟨by simp [putL, hr, addN, hn], idN_new hn⟩
theorem put_hit (hr : okN L.length n.kind n.f n.a n.b n.neg = true) {j : Nat} {x : Nd} (hx : L[j]? = some x) (he : x.key = n.key) (h : ∀ i, i < j → ∀ y : Nd, L[i]? = some y → y.key ≠ n.key) : putL L n = L ∧ idN L n = j := by
  have hm : n.key ∈ L.map Nd.key := by rw [← he]; exact List.mem_map_of_mem (List.mem_of_getElem? hx)
  exact ⟨by simp [putL, hr, addN, hm], idN_at hx he h⟩
theorem put_get (hr : okN L.length n.kind n.f n.a n.b n.neg = true) : ∃ x, (putL L n)[idN L n]? = some x ∧ x.v = n.v := by
  by_cases hm : n.key ∈ L.map Nd.key
  · have h1 := idN_get hm
    rw [List.getElem?_map, List.getElem?_eq_getElem (idN_lt hm)] at h1
    refine ⟨L[idN L n]'(idN_lt hm), ?_, by simpa using h1⟩
    simp [putL, hr, addN, hm, idN_lt hm]
  · refine ⟨n, ?_, rfl⟩
    rw [idN_new hm]
    simp [putL, hr, addN, hm]
theorem node_put (h : Ar n0 w b m va (putL L n)) (hr : okN L.length n.kind n.f n.a n.b n.neg = true) : Calls Try.prog 36 #[.pointer (some ⟨b, 0, none⟩), .int .i64 (idN L n : Int)] w fun e w' => e = .returned (.tuple #[n.v, .bool true]) ∧ Below w.heap.size w w' := by
  obtain ⟨x, hx, he⟩ := put_get hr
  rw [← he]
  exact node_in h _ x hx
theorem nq_self (n : Nd) : nq n.kind (wd n.f 0) (wd n.f 1) (wd n.f 2) (wd n.f 3) n.a n.b n.neg n.kind (wd n.f 0) (wd n.f 1) (wd n.f 2) (wd n.f 3) n.a n.b n.neg = true := by simp [nq]

/-! ### An own slice of nodes -/
abbrev OwnN (n0 : Nat) (w : World) (v : Value) (L : List Nd) : Prop := w.ownsRow n0 56 8 v L.length (L.flatMap Nd.cells)
theorem OwnN.shape (h : OwnN n0 w v L) : ∃ sv cap, v = .slice sv L.length cap := by
  rcases h.2 with ⟨rfl, h0⟩ | ⟨g, cap, cur, rfl, _⟩
  · exact ⟨none, 0, by rw [h0]⟩
  · exact ⟨_, _, rfl⟩
theorem OwnN.row (h : OwnN n0 w v L) {i : Nat} {n : Nd} (hi : L[i]? = some n) : ∃ g cap, v = .slice (some ⟨g, 0, none⟩) L.length cap ∧ n0 ≤ g ∧ g < w.heap.size ∧ ∀ j, j < 8 → w.cell? ⟨g, i * 8 + j, none⟩ = n.cells[j]? := by
  rcases h.2 with ⟨_, h0⟩ | ⟨g, cap, cur, rfl, hg, hb, hc, _, hs, ht⟩
  · rw [List.eq_nil_of_length_eq_zero h0] at hi; simp at hi
  · refine ⟨g, cap, rfl, hg, lt_of_heap hb, fun j hj => ?_⟩
    rw [cell_of_row w g _ _ _ _ hb, ← flat_get L i j n hi hj, ← ht]
    have hil : i < L.length := by
      rcases Nat.lt_or_ge i L.length with h1 | h1
      · exact h1
      · rw [List.getElem?_eq_none h1] at hi; cases hi
    rw [List.getElem?_take, if_pos (by omega)]
    simp
theorem OwnN.below (h : OwnN n0 w v L) {k : Nat} (hb : Below k w w') (hk : w.heap.size ≤ k) : OwnN n0 w' v L :=
  ownsRow_keep h fun g hg => hb.block g (by have := (own_blk h hg).2.1; omega)
/-- Two slices have not one block. -/
def Apart2 (v va : Value) : Prop := ∀ g, v.ownBlock = some g → va.ownBlock ≠ some g
theorem OwnN.put (h : OwnN n0 w v L) {L' : List Nd} (hA : Ar n0 w b m va L') (hd : Apart2 v va) (ho : Only w w' b m va) : OwnN n0 w' v L :=
  ownsRow_keep h fun g hg => ho g (own_blk h hg).2.1 (fun e => by
    obtain ⟨_, _, cur, h1⟩ := own_blk h hg
    rw [e, hA.blk] at h1
    simp at h1) (fun e => by
    obtain ⟨_, _, cur, h1⟩ := own_blk h hg
    obtain ⟨es, c, h2⟩ := hA.map.blk
    rw [e, h2] at h1
    cases h1) (fun e => hd g hg e.symm)
theorem Apart2.put (h : OwnN n0 w v L) (hd : Apart2 v va) (hor : va'.ownBlock = va.ownBlock ∨ ∃ g, va'.ownBlock = some g ∧ w.heap.size ≤ g) : Apart2 v va' := by
  intro g hg he
  rcases hor with hor | ⟨g', h1, h2⟩
  · exact hd g hg (hor.symm.trans he)
  · have h3 := (own_blk h hg).2.1
    rw [h1] at he
    have : g' = g := by simpa using he
    omega
/-- The arena behind an append to another slice. -/
theorem Ar.grown (h : Ar n0 w b m va L) {L' : List Nd} (hw : OwnN n0 w v L') (hd : Apart2 v va) (hg : w.grownBy w' v.ownBlock) : Ar n0 w' b m va L :=
  h.keep fun x hx => hg.block x (h.ltv hx).2 (fun e => by
    rcases hx with rfl | rfl | hx
    · obtain ⟨_, _, cur, h1⟩ := own_blk hw e.symm
      rw [h.blk] at h1
      simp at h1
    · obtain ⟨_, _, cur, h1⟩ := own_blk hw e.symm
      obtain ⟨es, c, h2⟩ := h.map.blk
      rw [h2] at h1
      cases h1
    · exact hd x e.symm hx)
theorem Apart2.grown {g len cap : Nat} (h : Ar n0 w b m va L) (hd : Apart2 v va) (hat : v.ownBlock = some g ∨ g = w.heap.size) : Apart2 (.slice (some ⟨g, 0, none⟩) len cap) va := by
  intro x hx he
  obtain rfl : g = x := by simpa [Value.ownBlock] using hx
  rcases hat with hat | hat
  · exact hd g hat he
  · have := (h.ltv (.inr (.inr he))).2
    omega
theorem OwnN.snoc {n : Nd} {v : Value} (h : w.ownsRow n0 56 8 v (L.length + 1) (L.flatMap Nd.cells ++ n.cells)) : OwnN n0 w v (L ++ [n]) := by
  simpa [OwnN] using h

/-- A slice that came in: a node's cells. -/
theorem NodesAt.row {l : List Nd} (h : NodesAt w v l) {i : Nat} {n : Nd} (hi : l[i]? = some n) : ∃ bb off cap, v = .slice (some ⟨bb, off, none⟩) l.length cap ∧ ∀ j, j < 8 → w.cell? ⟨bb, off + (i * 8 + j), none⟩ = n.cells[j]? := by
  obtain ⟨a, cap, rfl, hs⟩ := h
  obtain ⟨bb, off, rfl, hc⟩ := hs (by rintro rfl; simp at hi)
  exact ⟨bb, off, cap, rfl, fun j hj => hc i n hi j hj⟩

set_option maxRecDepth 100000 in
theorem few_yes (a : Option Addr) (len cap : Nat) (w : World) (h : len ≤ 40) : Calls Try.prog 31 #[.slice a len cap] w fun e w' => e = .returned (.bool true) ∧ w = w' := by
  have hd : decide ((len : Int) ≤ 40) = true := by simp; omega
  go_enter Try.func31, Try.ntmps31
  go_wp2
  go_ret
  exact ⟨rfl, rfl⟩
set_option maxRecDepth 100000 in
theorem few_no (a : Option Addr) (len cap : Nat) (w : World) (h : 40 < len) : Calls Try.prog 31 #[.slice a len cap] w fun e w' => e = .returned (.bool false) ∧ w = w' := by
  have hd : decide ((len : Int) ≤ 40) = false := by simp; omega
  go_enter Try.func31, Try.ntmps31
  go_wp2
  go_ret
  exact ⟨rfl, rfl⟩

/-- Eight cells of a node in a row. -/
def Eight (w : World) (p o : Nat) (n : Nd) : Prop :=
  w.cell? ⟨p, o, none⟩ = some (.int .i64 n.kind) ∧ w.cell? ⟨p, o + 1, none⟩ = some (.int .u64 (wd n.f 0)) ∧ w.cell? ⟨p, o + 2, none⟩ = some (.int .u64 (wd n.f 1)) ∧ w.cell? ⟨p, o + 3, none⟩ = some (.int .u64 (wd n.f 2)) ∧
    w.cell? ⟨p, o + 4, none⟩ = some (.int .u64 (wd n.f 3)) ∧ w.cell? ⟨p, o + 5, none⟩ = some (.int .i64 n.a) ∧ w.cell? ⟨p, o + 6, none⟩ = some (.int .i64 n.b) ∧ w.cell? ⟨p, o + 7, none⟩ = some (.bool n.neg)
theorem Eight.later {p o : Nat} (h : Eight w p o n) {k : Nat} (hb : Below k w w') (hk : w.heap.size ≤ k) : Eight w' p o n := by
  obtain ⟨h0, h1, h2, h3, h4, h5, h6, h7⟩ := h
  have hb' := hb.mono hk
  exact ⟨cell_later hb' h0, cell_later hb' h1, cell_later hb' h2, cell_later hb' h3, cell_later hb' h4, cell_later hb' h5, cell_later hb' h6, cell_later hb' h7⟩
theorem eight_of {p o : Nat} (h : ∀ j, j < 8 → w.cell? ⟨p, o + j, none⟩ = n.cells[j]?) : Eight w p o n :=
  ⟨h 0 (by omega), h 1 (by omega), h 2 (by omega), h 3 (by omega), h 4 (by omega), h 5 (by omega), h 6 (by omega), h 7 (by omega)⟩
theorem NodesAt.eight {l : List Nd} {a : Option Addr} {cap : Nat} (h : NodesAt w (.slice a l.length cap) l) {i : Nat} {n : Nd} (hi : l[i]? = some n) : ∃ bb off, a = some ⟨bb, off, none⟩ ∧ Eight w bb (off + i * 8) n := by
  obtain ⟨bb, off, cap', hv, hc⟩ := h.row hi
  cases hv
  exact ⟨bb, off, rfl, eight_of fun j hj => by rw [Nat.add_assoc]; exact hc j hj⟩
theorem OwnN.eight {sv : Option Addr} {cap : Nat} (h : OwnN n0 w (.slice sv L.length cap) L) {i : Nat} {n : Nd} (hi : L[i]? = some n) : ∃ g, sv = some ⟨g, 0, none⟩ ∧ Eight w g (i * 8) n := by
  obtain ⟨g, cap', hv, _, _, hc⟩ := h.row hi
  cases hv
  exact ⟨g, rfl, eight_of hc⟩
theorem OwnN.grown_below (h : OwnN n0 w v L) (hn0 : n0 ≤ w.heap.size) (hg : w.grownBy w' v.ownBlock) : Below n0 w w' :=
  (Below.refl n0 w).grown hg hn0 (fun _ hj => (own_blk h hj).1)

end Go.Proofs.Ytbmejpghoafapaa
