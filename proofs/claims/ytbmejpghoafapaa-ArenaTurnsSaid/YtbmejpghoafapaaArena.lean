/-
  Arenas in memory: the nodes' keys, and what an arena's blocks hold.
-/
import Derived.Test.YtbmejpghoafapaaRight
import Derived.Test.YtbmejpghoafapaaSplit
import Derived.Deep.AppendLies
namespace Go.Proofs.Ytbmejpghoafapaa
open Go.RowKit Go.Maps

theorem Try.row56 : (56 : TypeId) < Try.prog.types.size := of_decide_eq_true (by kernel_rfl)
theorem Try.key56 : Try.prog.keyTypeAt 3 56 = true := by kernel_rfl
theorem Try.wide56 : (match Try.prog.underlying 56 with | some (.array _ _) | some (.struct _) => true | _ => false) = true := by rw [Try.underlying56]
theorem Try.law56 : Keyed Try.prog 56 := Keyed.of_law (deep_law_laid Try.laidOutK (m := 3) (by omega) Try.row56 Try.key56 Try.wide56)
theorem Try.keyType56 : Try.prog.keyType 56 = true := by kernel_rfl
theorem Try.cells56 : Try.prog.cellsOf 56 = 8 := by kernel_rfl
theorem Try.cells3 : Try.prog.cellsOf 3 = 1 := by kernel_rfl
theorem Try.cells26n : Try.prog.cellsOf 26 = 4 := by kernel_rfl
theorem Try.cells24n : Try.prog.cellsOf 24 = 1 := by kernel_rfl
theorem Try.zero3 (w : World) : (zeroValue 3).run Try.prog w = .ok (.int .i64 0) w := by kernel_rfl

/-- The numbers of a node are int's. -/
def Nd.ok (n : Nd) : Prop := (Lit.int .i64 n.kind).wf = true ∧ (Lit.int .i64 n.a).wf = true ∧ (Lit.int .i64 n.b).wf = true
abbrev Nd.v (n : Nd) : Value := nv n.kind n.f n.a n.b n.neg
abbrev Nd.cells (n : Nd) : List Value := nl n.kind n.f n.a n.b n.neg
/-- What tells a node from others. -/
def Nd.key (n : Nd) : List Int := [n.kind, wd n.f 0, wd n.f 1, wd n.f 2, wd n.f 3, n.a, n.b, if n.neg then 1 else 0]
theorem Nd.key_v {n m : Nd} : n.key = m.key ↔ n.v = m.v := by
  obtain ⟨k, f, a, b, g⟩ := n
  obtain ⟨k', f', a', b', g'⟩ := m
  simp [Nd.key, Nd.v]
  cases g <;> cases g' <;> simp
theorem Nd.key_cells {n m : Nd} : n.key = m.key ↔ n.cells = m.cells := by
  obtain ⟨k, f, a, b, g⟩ := n
  obtain ⟨k', f', a', b', g'⟩ := m
  simp [Nd.key, Nd.cells]
  cases g <;> cases g' <;> simp
theorem Nd.key_nq (n m : Nd) : nq n.kind (wd n.f 0) (wd n.f 1) (wd n.f 2) (wd n.f 3) n.a n.b n.neg m.kind (wd m.f 0) (wd m.f 1) (wd m.f 2) (wd m.f 3) m.a m.b m.neg = decide (n.key = m.key) := by
  obtain ⟨k, f, a, b, g⟩ := n
  obtain ⟨k', f', a', b', g'⟩ := m
  unfold nq
  simp [Nd.key]
  cases g <;> cases g' <;> simp

theorem keyLits_i64 (d : Nat) {c : Int} (h : (Lit.int .i64 c).wf = true) : Try.prog.keyLits (d + 1) 3 [.int .i64 c] = some [.int .i64 c] := by
  simp [Program.keyLits, Try.underlying3, h]
theorem keyLits_u64 (d : Nat) {c : Int} (h : (Lit.int .u64 c).wf = true) : Try.prog.keyLits (d + 1) 24 [.int .u64 c] = some [.int .u64 c] := by
  simp [Program.keyLits, Try.underlying24, h]
theorem keyLits_words (d : Nat) (f : Nat → Bool) : Try.prog.keyLits (d + 2) 26 [.int .u64 (wd f 0), .int .u64 (wd f 1), .int .u64 (wd f 2), .int .u64 (wd f 3)] = some [.int .u64 (wd f 0), .int .u64 (wd f 1), .int .u64 (wd f 2), .int .u64 (wd f 3)] := by
  unfold Program.keyLits
  simp [Try.underlying26, Try.cells26n, Try.cells24n, List.range_succ, keyLits_u64 d (wd_wf f _)]
theorem keyLits_node (d : Nat) (n : Nd) (h : n.ok) : ∃ ls, Try.prog.keyLits (d + 3) 56 n.cells = some ls := by
  obtain ⟨h1, h2, h3⟩ := h
  unfold Program.keyLits
  simp [Try.underlying56, Try.cells56, Try.cells3, Try.cells4, Try.cells26n, keyLits_i64 (d + 1) h1, keyLits_i64 (d + 1) h2, keyLits_i64 (d + 1) h3, keyLits_bool, keyLits_words d n.f, Nd.cells]
theorem keyOf_node (n : Nd) (h : n.ok) : ∃ kl, keyOf Try.prog 56 n.v = some kl := by
  obtain ⟨m, hm⟩ := Try.ntypes
  have hf : Value.formed Try.prog 56 n.v = true := by simp [Value.formed, Try.underlying56, Try.cells56]
  obtain ⟨ls, hl⟩ := keyLits_node (m + 8) n h
  refine ⟨.string (keyBytes ls), ?_⟩
  unfold keyOf
  rw [Try.underlying56]
  simp only [Try.keyType56, hf, Bool.and_self, if_true, hm]
  show Option.map _ (Try.prog.keyLits (m + 8 + 3) 56 n.cells) = _
  rw [hl]
  rfl

/-- One more node, once. -/
def addN (L : List Nd) (n : Nd) : List Nd := if n.key ∈ L.map Nd.key then L else L ++ [n]
def idN (L : List Nd) (n : Nd) : Nat := (L.map Nd.key).idxOf n.key
theorem map_v_mem {L : List Nd} {n : Nd} : n.v ∈ L.map Nd.v ↔ n.key ∈ L.map Nd.key := by
  simp only [List.mem_map]
  constructor
  · rintro ⟨m, hm, he⟩
    exact ⟨m, hm, Nd.key_v.2 he⟩
  · rintro ⟨m, hm, he⟩
    exact ⟨m, hm, Nd.key_v.1 he⟩
theorem idN_get {L : List Nd} {n : Nd} (h : n.key ∈ L.map Nd.key) : (L.map Nd.v)[idN L n]? = some n.v := by
  have h1 : idN L n < (L.map Nd.key).length := List.idxOf_lt_length_iff.2 h
  have h2 : (L.map Nd.key)[idN L n] = n.key := List.getElem_idxOf h1
  have h3 : idN L n < L.length := by simpa using h1
  simp only [List.getElem_map] at h2
  rw [List.getElem?_map, List.getElem?_eq_getElem h3]
  simp [Nd.key_v.1 h2]
theorem idN_lt {L : List Nd} {n : Nd} (h : n.key ∈ L.map Nd.key) : idN L n < L.length := by
  have h1 : idN L n < (L.map Nd.key).length := List.idxOf_lt_length_iff.2 h
  simpa using h1
theorem idN_new {L : List Nd} {n : Nd} (h : n.key ∉ L.map Nd.key) : idN L n = L.length := by
  unfold idN
  rw [List.idxOf_eq_length h]
  simp

/-- Block b is an arena of the nodes L; m is its map's block, v its slice of nodes. -/
structure Ar (n0 : Nat) (w : World) (b m : Nat) (v : Value) (L : List Nd) : Prop where
  blk : w.heap[b]? = some (.cells #[v, .map (some m)] 77 (0, 0))
  own : w.ownsRow n0 56 8 v L.length (L.flatMap Nd.cells)
  map : KSeq Try.prog 56 3 .i64 w m (L.map Nd.v)
  lo : n0 ≤ b
  lom : n0 ≤ m
  ok : ∀ n ∈ L, n.ok
  nd : (L.map Nd.key).Nodup
variable {n0 b m : Nat} {w w' : World} {v : Value} {L : List Nd}
theorem lt_of_heap {w : World} {b : Nat} {o : Obj} (h : w.heap[b]? = some o) : b < w.heap.size := by
  rcases Nat.lt_or_ge b w.heap.size with h1 | h1
  · exact h1
  · rw [Array.getElem?_eq_none h1] at h; cases h
theorem KSeq.blk {K E : TypeId} {q : IntKind} {l : List Value} (h : KSeq Try.prog K E q w m l) : ∃ es c, w.heap[m]? = some (.map es c) := by
  obtain ⟨D, ⟨es, clock, h1, r⟩, h2⟩ := h
  exact ⟨es, clock, h1⟩
theorem Ar.lt (h : Ar n0 w b m v L) : b < w.heap.size := lt_of_heap h.blk
theorem Ar.ltm (h : Ar n0 w b m v L) : m < w.heap.size := h.map.lt
theorem Ar.ne (h : Ar n0 w b m v L) : b ≠ m := fun e => by
  obtain ⟨es, c, h1⟩ := h.map.blk
  rw [← e, h.blk] at h1
  cases h1
theorem own_blk {e : TypeId} {s n : Nat} {l : List Value} (h : w.ownsRow n0 e s v n l) {g : Nat} (hg : v.ownBlock = some g) : n0 ≤ g ∧ g < w.heap.size ∧ ∃ cur, w.heap[g]? = some (.cells cur e (0, 0)) := by
  rcases h.2 with ⟨rfl, _⟩ | ⟨g', cap, cur, rfl, h1, h2, _⟩
  · cases hg
  · obtain rfl : g' = g := by simpa [Value.ownBlock] using hg
    exact ⟨h1, lt_of_heap h2, cur, h2⟩
theorem Ar.neb (h : Ar n0 w b m v L) : some b ≠ v.ownBlock := fun e => by
  obtain ⟨_, _, cur, h1⟩ := own_blk h.own e.symm
  rw [h.blk] at h1
  simp at h1
theorem Ar.nem (h : Ar n0 w b m v L) : some m ≠ v.ownBlock := fun e => by
  obtain ⟨_, _, cur, h1⟩ := own_blk h.own e.symm
  obtain ⟨es, c, h2⟩ := h.map.blk
  rw [h2] at h1
  cases h1
theorem ownsRow_keep {e : TypeId} {s n : Nat} {l : List Value} (h : w.ownsRow n0 e s v n l) (hk : ∀ g, v.ownBlock = some g → w'.heap[g]? = w.heap[g]?) : w'.ownsRow n0 e s v n l := by
  refine ⟨h.1, ?_⟩
  rcases h.2 with h1 | ⟨g, cap, cur, rfl, h1, h2, h3⟩
  · exact .inl h1
  · exact .inr ⟨g, cap, cur, rfl, h1, by rw [hk g rfl]; exact h2, h3⟩
theorem KSeq.keep {K E : TypeId} {q : IntKind} {l : List Value} (h : KSeq Try.prog K E q w m l) (hk : w'.heap[m]? = w.heap[m]?) : KSeq Try.prog K E q w' m l := by
  obtain ⟨D, ⟨es, clock, h1, r⟩, h2⟩ := h
  exact ⟨D, ⟨es, clock, hk.trans h1, r⟩, h2⟩
theorem Ar.keep (h : Ar n0 w b m v L) (hk : ∀ x, x = b ∨ x = m ∨ v.ownBlock = some x → w'.heap[x]? = w.heap[x]?) : Ar n0 w' b m v L :=
  ⟨(hk b (.inl rfl)).trans h.blk, ownsRow_keep h.own fun g hg => hk g (.inr (.inr hg)), h.map.keep (hk m (.inr (.inl rfl))), h.lo, h.lom, h.ok, h.nd⟩
theorem Ar.ltv (h : Ar n0 w b m v L) {x : Nat} (hx : x = b ∨ x = m ∨ v.ownBlock = some x) : n0 ≤ x ∧ x < w.heap.size := by
  rcases hx with rfl | rfl | hx
  · exact ⟨h.lo, h.lt⟩
  · exact ⟨h.lom, h.ltm⟩
  · exact ⟨(own_blk h.own hx).1, (own_blk h.own hx).2.1⟩
theorem Ar.below (h : Ar n0 w b m v L) {k : Nat} (hb : Below k w w') (hk : w.heap.size ≤ k) : Ar n0 w' b m v L :=
  h.keep fun x hx => hb.block x (by have := (h.ltv hx).2; omega)
theorem Ar.c0 (h : Ar n0 w b m v L) : w.cell? ⟨b, 0, none⟩ = some v := by
  rw [cell_of_row w b 0 _ _ _ h.blk]; rfl
theorem Ar.c1 (h : Ar n0 w b m v L) : w.cell? ⟨b, 1, none⟩ = some (.map (some m)) := by
  rw [cell_of_row w b 1 _ _ _ h.blk]; rfl
theorem Ar.shape (h : Ar n0 w b m v L) : ∃ sv cap, v = .slice sv L.length cap := by
  rcases h.own.2 with ⟨rfl, h0⟩ | ⟨g, cap, cur, rfl, _⟩
  · exact ⟨none, 0, by rw [h0]⟩
  · exact ⟨_, _, rfl⟩

/-- What Put may change: the arena's blocks. -/
def Only (w w' : World) (b m : Nat) (v : Value) : Prop := ∀ x, x < w.heap.size → x ≠ b → x ≠ m → some x ≠ v.ownBlock → w'.heap[x]? = w.heap[x]?

end Go.Proofs.Ytbmejpghoafapaa
