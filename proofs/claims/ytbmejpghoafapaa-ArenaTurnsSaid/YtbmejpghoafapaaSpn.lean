/-
  What bolterref09.Spans answers, in plain words; rows of tables in memory.
-/
import Derived.Test.YtbmejpghoafapaaTab3
namespace Go.Proofs.Ytbmejpghoafapaa
open Go.RowKit Go.Maps
variable {w w' w1 : World} {n k n0 : Nat}

def tBytes (f : Nat → Bool) (l : List Int) : Tb := fun i j => decide (j = i + 1) && (decide (i < l.length) && f (l.getD i 0).toNat)
/-- What is seen: the bit of a byte. -/
def lookB (x a : Int) : Bool := bits .and .u8 (x / (2 ^ a.toNat : Int)) 1 == 1
theorem look0 (x : Int) : lookB x ((0 : Nat) : Int) = (bits .and .u8 x 1 == 1) := by
  have : x / (2 ^ ((0 : Nat) : Int).toNat : Int) = x := by simp
  unfold lookB; rw [this]
theorem look1 (x : Int) : lookB x ((1 : Nat) : Int) = (bits .and .u8 (x / 2) 1 == 1) := rfl
theorem look2 (x : Int) : lookB x ((2 : Nat) : Int) = (bits .and .u8 (x / 4) 1 == 1) := rfl
theorem look3 (x : Int) : lookB x ((3 : Nat) : Int) = (bits .and .u8 (x / 8) 1 == 1) := rfl
def tLook (l : List Int) (a : Int) (neg : Bool) : Tb := fun i j => i == j && (lookB (l.getD i 0) a != neg)
/-- The table of a node, by those of the nodes below it. -/
def tN (n : Nat) (wl bl : List Int) (O : Nat → Tb) (x : Nd) : Tb :=
  if x.kind = 1 then tOne else if x.kind = 2 then tBytes x.f wl else if x.kind = 3 then tThen n (O x.a.toNat) (O x.b.toNat)
  else if x.kind = 4 then tEither (O x.a.toNat) (O x.b.toNat) else if x.kind = 5 then tBoth (O x.a.toNat) (O x.b.toNat)
  else if x.kind = 6 then tOther (O x.a.toNat) else if x.kind = 7 then tAny n (O x.a.toNat) else if x.kind = 8 then tLook bl x.a x.neg else tBlank
def tS (n : Nat) (wl bl : List Int) (L : List Nd) : Nat → Nat → Tb
  | 0 => fun _ => tBlank
  | k + 1 => fun i => if i = k then (match L[k]? with | some x => tN n wl bl (tS n wl bl L k) x | none => tBlank) else tS n wl bl L k i
theorem tS_new {wl bl : List Int} {L : List Nd} {x : Nd} (h : L[k]? = some x) : tS n wl bl L (k + 1) k = tN n wl bl (tS n wl bl L k) x := by simp [tS, h]
theorem tS_old {wl bl : List Int} {L : List Nd} {i : Nat} (h : i < k) : tS n wl bl L (k + 1) i = tS n wl bl L k i := by
  have : ¬ i = k := by omega
  simp [tS, this]
theorem tS_more {wl bl : List Int} {L : List Nd} {i : Nat} (h : i < k) : ∀ d, tS n wl bl L (k + d) i = tS n wl bl L k i
  | 0 => rfl
  | d + 1 => by rw [← Nat.add_assoc, tS_old (by omega), tS_more h d]

/-- Tables in a row. -/
structure Tabs (n0 : Nat) (w : World) (n : Nat) (v : Value) (k : Nat) (g : Nat → Nat) (r : Nat → Nat → Nat) (T : Nat → Tb) : Prop where
  own : w.ownsRow n0 67 1 v k ((List.range k).map fun i => slv (g i) n)
  tab : ∀ i, i < k → HT w (g i) n (r i) (T i)
theorem tabs_nil (n0 : Nat) (w : World) (n : Nat) (g : Nat → Nat) (r : Nat → Nat → Nat) (T : Nat → Tb) : Tabs n0 w n (.slice none 0 0) 0 g r T := ⟨World.ownsRow_nil _ _ _ _, fun i hi => absurd hi (by omega)⟩
theorem rowBelow {v : Value} {e : TypeId} {s m : Nat} {l : List Value} (h : w.ownsRow n0 e s v m l) {b : Nat} (hb : Below b w w') (hk : w.heap.size ≤ b) : w'.ownsRow n0 e s v m l :=
  ownsRow_keep h fun g hg => hb.block g (by have := (own_blk h hg).2.1; omega)
theorem Tabs.below {v : Value} {g : Nat → Nat} {r : Nat → Nat → Nat} {T : Nat → Tb} (h : Tabs n0 w n v k g r T) {b : Nat} (hb : Below b w w') (hk : w.heap.size ≤ b) : Tabs n0 w' n v k g r T :=
  ⟨rowBelow h.own hb hk, fun i hi => (h.tab i hi).below hb hk⟩
theorem Tabs.shape {v : Value} {g : Nat → Nat} {r : Nat → Nat → Nat} {T : Nat → Tb} (h : Tabs n0 w n v k g r T) : ∃ so co, v = .slice so k co := by
  rcases h.own.2 with ⟨rfl, h0⟩ | ⟨g, cap, cur, rfl, _⟩
  · exact ⟨none, 0, by rw [h0]⟩
  · exact ⟨_, _, rfl⟩
theorem Tabs.cell {so : Option Addr} {co : Nat} {g : Nat → Nat} {r : Nat → Nat → Nat} {T : Nat → Tb} (h : Tabs n0 w n (.slice so k co) k g r T) (h0 : 0 < k) : ∃ b, so = some ⟨b, 0, none⟩ ∧ ∀ i, i < k → w.cell? ⟨b, i, none⟩ = some (.slice (some ⟨g i, 0, none⟩) n n) := by
  rcases h.own.2 with ⟨_, h1⟩ | ⟨b, cap', cur, hv, hg, hb, hc, _, hs, ht⟩
  · omega
  · cases hv
    refine ⟨b, rfl, fun i hi => ?_⟩
    rw [cell_of_row w b i _ _ _ hb]
    have h2 : (cur.toList.take (k * 1))[i]? = some (slv (g i) n) := by rw [ht]; simp [hi]
    rw [List.getElem?_take, if_pos (by omega), Array.getElem?_toList] at h2
    exact h2
theorem HT.grown {g : Nat} {r : Nat → Nat} {T : Tb} (h : HT w g n r T) {row : Option Nat} (hg : w.grownBy w' row) (hne : ∀ b, row = some b → ∃ cur, w.heap[b]? = some (.cells cur 67 (0, 0))) : HT w' g n r T := by
  have key : ∀ (b : Nat) (cs : Array Value) (t : TypeId), w.heap[b]? = some (.cells cs t (0, 0)) → t ≠ 67 → w'.heap[b]? = some (.cells cs t (0, 0)) := fun b cs t hb ht => by
    rw [hg.block b (heap_lt hb) (fun e => by
      obtain ⟨cur, h1⟩ := hne b e.symm
      rw [hb] at h1
      simp at h1
      exact ht h1.2)]
    exact hb
  exact ⟨key _ _ _ h.top (by decide), fun i hi => key _ _ _ (h.row i hi) (by decide), h.inj⟩
theorem Tabs.snoc {v v' : Value} {g : Nat → Nat} {r : Nat → Nat → Nat} {T : Nat → Tb} (h : Tabs n0 w n v k g r T) {gx : Nat} {rx : Nat → Nat} {X : Tb} (hx : HT w gx n rx X)
    (hown : w'.ownsRow n0 67 1 v' (k + 1) (((List.range k).map fun i => slv (g i) n) ++ [slv gx n])) (hg : w.grownBy w' v.ownBlock) :
    Tabs n0 w' n v' (k + 1) (fun i => if i = k then gx else g i) (fun i => if i = k then rx else r i) (fun i => if i = k then X else T i) := by
  have hne : ∀ b, v.ownBlock = some b → ∃ cur, w.heap[b]? = some (.cells cur 67 (0, 0)) := fun b hb => (own_blk h.own hb).2.2
  refine ⟨?_, fun i hi => ?_⟩
  · have : ((List.range (k + 1)).map fun i => slv (if i = k then gx else g i) n) = ((List.range k).map fun i => slv (g i) n) ++ [slv gx n] := by
      rw [List.range_succ, List.map_append]
      congr 1
      · refine List.map_congr_left fun i hi => ?_
        have : ¬ i = k := by have := List.mem_range.1 hi; omega
        simp [this]
      · simp
    rw [this]
    exact hown
  · by_cases e : i = k
    · simp only [e, if_true]
      exact hx.grown hg hne
    · simp only [e, if_false]
      exact (h.tab i (by omega)).grown hg hne
theorem Tabs.row_below {v : Value} {g : Nat → Nat} {r : Nat → Nat → Nat} {T : Nat → Tb} (h : Tabs n0 w n v k g r T) (hn0 : n0 ≤ w.heap.size) (hg : w.grownBy w' v.ownBlock) : Below n0 w w' :=
  (Below.refl n0 w).grown hg hn0 (fun _ hj => (own_blk h.own hj).1)
theorem Tabs.congr {v : Value} {g : Nat → Nat} {r : Nat → Nat → Nat} {T T' : Nat → Tb} (h : Tabs n0 w n v k g r T) (he : ∀ i, i < k → T i = T' i) : Tabs n0 w n v k g r T' :=
  ⟨h.own, fun i hi => by rw [← he i hi]; exact h.tab i hi⟩
theorem getD_mem {l : List Int} {m : Nat} (h : m < l.length) : l.getD m 0 ∈ l := by
  have : l.getD m 0 = l[m] := by simp [h]
  rw [this]; exact List.getElem_mem h
theorem tBytes_at {f : Nat → Bool} {l : List Int} {m : Nat} (h : m < l.length) : tBytes f l m (m + 1) = f (l.getD m 0).toNat := by simp only [tBytes, h, decide_true, Bool.true_and]
theorem tBytes_no (f : Nat → Bool) (l : List Int) (m : Nat) : ∀ y, y ≠ m + 1 → tBytes f l m y = false := by
  intro y hy
  simp [tBytes, hy]
theorem tBytes_end (f : Nat → Bool) (l : List Int) {n : Nat} : ∀ x y, x < n → y < n → part (tBytes f l) l.length 0 x y = tBytes f l x y := by
  intro x y _ _
  by_cases h : x < l.length
  · simp [part, h]
  · simp only [part, tBytes]
    simp [h]
theorem tLook_at (l : List Int) (a : Int) (g : Bool) (m : Nat) : tLook l a g m m = (lookB (l.getD m 0) a != g) := by simp [tLook]
theorem tLook_no (l : List Int) (a : Int) (g : Bool) (m : Nat) : ∀ y, y ≠ m → tLook l a g m y = false := by
  intro y hy
  have : ¬ m = y := fun e => hy e.symm
  simp [tLook, this]
theorem Try.info67 : (Try.prog.info? 67).map (fun i => (i.zero, i.size, i.bytes)) = some (some (.slice none 0 0), 1, 24) := by kernel_rfl
theorem blank_at {z : Int} (hz : z = (n : Int)) (hn : n ≤ 100) (w : World) : Calls Try.prog 48 #[.int .i64 z] w fun e w' => (∃ g r, e = .returned (.slice (some ⟨g, 0, none⟩) n n) ∧ NT w.heap.size w' g n r tBlank) ∧ Below w.heap.size w w' := by subst hz; exact blank_any n hn w
theorem one_at {z : Int} (hz : z = (n : Int)) (hn : n ≤ 100) (w : World) : Calls Try.prog 49 #[.int .i64 z] w fun e w' => (∃ g r, e = .returned (.slice (some ⟨g, 0, none⟩) n n) ∧ NT w.heap.size w' g n r tOne) ∧ Below w.heap.size w w' := by subst hz; exact one_any n hn w

end Go.Proofs.Ytbmejpghoafapaa
