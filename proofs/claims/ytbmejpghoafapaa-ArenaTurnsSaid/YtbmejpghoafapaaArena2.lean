/-
  The walks of arena.New, Len, Node.
-/
import Derived.Test.YtbmejpghoafapaaArena
namespace Go.Proofs.Ytbmejpghoafapaa
open Go.RowKit Go.Maps

set_option maxRecDepth 100000 in
set_option maxHeartbeats 1000000 in
theorem new_any (w : World) : Calls Try.prog 32 #[] w fun e w' => (∃ b m v, e = .returned (.pointer (some ⟨b, 0, none⟩)) ∧ Ar w.heap.size w' b m v []) ∧ Below w.heap.size w w' := by
  have hmm := @run_makeMap Try.prog
  have hM0 := KSeq.made Try.prog 56 3 .i64 w (b := w.heap.size) rfl
  go_enter Try.func32, Try.ntmps32
  go_wp2_with fail
  go_ret
  refine ⟨⟨w.heap.size + 1, w.heap.size, .slice none 0 0, rfl, ?_, ?_, ?_, ?_, ?_, ?_, ?_⟩, (by repeat (first | exact Below.refl _ _ | assumption | refine Below.drew ?_ | refine below_drewN' ?_ _ | refine Below.setCell ?_ (by first | omega | (simp; done) | (simp; omega)) _ | refine Below.alloc ?_ (by first | omega | (simp; done) | (simp; omega)) _ | refine Below.trans ?_ (Below.mono (by assumption) (by first | omega | (simp; done) | (simp; omega)))))⟩
  · have h := heap_alloc_new (w.alloc (.map #[] 0)) (.cells #[.slice none 0 0, .map (some w.heap.size)] 77)
    rwa [World.size_alloc] at h
  · exact World.ownsRow_nil _ _ _ _
  · exact hM0.alloc _
  · omega
  · omega
  · simp
  · simp

theorem len_nil (w : World) : Calls Try.prog 35 #[.pointer none] w fun e w' => e = .returned (.int .i64 0) ∧ Below w.heap.size w w' := by
  go_enter Try.func35, Try.ntmps35
  go_wp2_with fail
  go_ret
  exact ⟨rfl, Below.refl _ _⟩

theorem flat_get : ∀ (L : List Nd) (i j : Nat) (n : Nd), L[i]? = some n → j < 8 → (L.flatMap Nd.cells)[i * 8 + j]? = n.cells[j]?
  | [], i, j, n, h, _ => by simp at h
  | x :: L, 0, j, n, h, hj => by
    obtain rfl : x = n := by simpa using h
    rw [List.flatMap_cons, List.getElem?_append_left (by simp; omega)]
    simp
  | x :: L, i + 1, j, n, h, hj => by
    have ih := flat_get L i j n (by simpa using h) hj
    rw [List.flatMap_cons, List.getElem?_append_right (by simp; omega)]
    rw [← ih]
    congr 1
    simp
    omega


/-- Block b holds eight cells of a node. -/
def HoldsN (w : World) (b : Nat) (cs : Array Value) : Prop := w.heap[b]? = some (.cells cs 56 (0, 0))
theorem HoldsN.lt {w : World} {b : Nat} {cs : Array Value} (h : HoldsN w b cs) : b < w.heap.size := (Array.getElem?_eq_some_iff.1 h).1
theorem HoldsN.made (w : World) (cs : Array Value) {b : Nat} (hb : b = w.heap.size) : HoldsN (w.alloc (.cells cs 56)) b cs := by subst hb; exact heap_alloc_new w _
theorem HoldsN.below {w w' : World} {k b : Nat} {cs : Array Value} (h : HoldsN w b cs) (hb : Below k w w') (hlt : b < k) : HoldsN w' b cs := (hb.block b hlt).trans h
theorem HoldsN.alloc {w : World} {b : Nat} {cs : Array Value} (h : HoldsN w b cs) (x : Obj) : HoldsN (w.alloc x) b cs := (Below.heap_alloc w x b h.lt).trans h
theorem HoldsN.drew {w : World} {b : Nat} {cs : Array Value} (h : HoldsN w b cs) : HoldsN w.drew b cs := h
theorem HoldsN.other {w : World} {b : Nat} {cs : Array Value} (h : HoldsN w b cs) {a : Addr} (ha : b ≠ a.block) (v : Value) : HoldsN (w.setCell a v) b cs := (Below.heap_setCell w a v b ha).trans h
theorem HoldsN.kept {w w' : World} {b : Nat} {row : Option Nat} {cs : Array Value} (h : HoldsN w b cs) (hg : w.grownBy w' row) (hne : some b ≠ row) : HoldsN w' b cs := (hg.block b h.lt hne).trans h
theorem HoldsN.cell {w : World} {b : Nat} {cs : Array Value} (h : HoldsN w b cs) (i : Nat) : w.cell? ⟨b, i, none⟩ = cs[i]? := cell_of_row w b i _ 56 (0, 0) h
theorem HoldsN.free {w : World} {b : Nat} {cs : Array Value} (h : HoldsN w b cs) : ∀ i, w.frozen? ⟨b, i, none⟩ = false := fun i => by
  have : w.heap[b]? = some (.cells cs 56 (0, 0)) := h
  simp [World.frozen?, this]
theorem HoldsN.cells {w : World} {b : Nat} {x0 x1 x2 x3 x4 x5 x6 x7 : Value} (h : HoldsN w b #[x0, x1, x2, x3, x4, x5, x6, x7]) : w.cell? ⟨b, 0, none⟩ = some x0 ∧ w.cell? ⟨b, 1, none⟩ = some x1 ∧ w.cell? ⟨b, 2, none⟩ = some x2 ∧ w.cell? ⟨b, 3, none⟩ = some x3 ∧ w.cell? ⟨b, 4, none⟩ = some x4 ∧ w.cell? ⟨b, 5, none⟩ = some x5 ∧ w.cell? ⟨b, 6, none⟩ = some x6 ∧ w.cell? ⟨b, 7, none⟩ = some x7 := by
  refine ⟨?_, ?_, ?_, ?_, ?_, ?_, ?_, ?_⟩ <;> rw [h.cell] <;> rfl
theorem Try.size56 : (Try.prog.info? 56).map (·.size) = some 8 := by kernel_rfl
theorem wpList_store_node {ops : Array Oper} {rest : List Oper} {op : Oper} {a : Act} {w : World} {Q : Exit → Act → World → Prop} (hgd : op.guard = none) (x y : Operand) (hop : op.op = .store 56 x y)
    {b : Nat} {cur new : Array Value} (hx : a.eval x = .pointer (some ⟨b, 0, none⟩)) (hy : a.eval y = .agg new) (hB : HoldsN w b cur) (hc : cur.size = 8) (hn : new.size = 8) (ho : new.all (·.oneCell') = true)
    (h : ∀ w', HoldsN w' b new → w.grownBy w' (some b) → wpList Try.prog ops Q rest (a.put op.dst undef) w') : wpList Try.prog ops Q (op :: rest) a w := by
  refine wpList_plain hgd fun K hK => ?_
  have hrun := run_storeVar_row (P := Try.prog) w b 56 56 cur new hB (by rw [Try.size56, hn]) (by rw [hn, hc]) ho
  unfold Oper.wp execOp
  simp only [hop, hx, hy, Instr.storeAt, Instr.sureAddr, Sem.run_bind, Sem.run_pure, Result.andThen_ok, hrun]
  refine hK _ _ (h _ (setRow_heap w b cur _ 56 _ hB) ⟨rfl, rfl, rfl, by simp, fun k _ hk => setRow_other w b k _ (fun e => hk (by rw [e]))⟩)
theorem one8 (x0 x1 x2 x3 x4 a b : Int) (g : Bool) : (#[Value.int .i64 x0, .int .u64 x1, .int .u64 x2, .int .u64 x3, .int .u64 x4, .int .i64 a, .int .i64 b, .bool g] : Array Value).all (·.oneCell') = true := by
  simp [Value.oneCell']
abbrev na0 : Array Value := #[.int .i64 0, .int .u64 0, .int .u64 0, .int .u64 0, .int .u64 0, .int .i64 0, .int .i64 0, .bool false]

variable {n0 b m : Nat} {w w' : World} {v : Value} {L : List Nd}
theorem Ar.row (h : Ar n0 w b m v L) {i : Nat} {n : Nd} (hi : L[i]? = some n) : ∃ g cap, v = .slice (some ⟨g, 0, none⟩) L.length cap ∧ L.length ≤ cap ∧ n0 ≤ g ∧ g < w.heap.size ∧ ∀ j, j < 8 → w.cell? ⟨g, i * 8 + j, none⟩ = n.cells[j]? := by
  rcases h.own.2 with ⟨_, h0⟩ | ⟨g, cap, cur, rfl, hg, hb, hc, _, hs, ht⟩
  · rw [List.eq_nil_of_length_eq_zero h0] at hi; simp at hi
  · refine ⟨g, cap, rfl, hc, hg, lt_of_heap hb, fun j hj => ?_⟩
    rw [cell_of_row w g _ _ _ _ hb, ← flat_get L i j n hi hj, ← ht]
    have hil : i < L.length := by
      rcases Nat.lt_or_ge i L.length with h1 | h1
      · exact h1
      · rw [List.getElem?_eq_none h1] at hi; cases hi
    rw [List.getElem?_take, if_pos (by omega)]
    simp
theorem len_any (h : Ar n0 w b m v L) : Calls Try.prog 35 #[.pointer (some ⟨b, 0, none⟩)] w fun e w' => e = .returned (.int .i64 (L.length : Int)) ∧ Below w.heap.size w w' := by
  have c0 := h.c0
  obtain ⟨sv, cap, hv⟩ := h.shape
  rw [hv] at c0
  clear h hv
  go_enter Try.func35, Try.ntmps35
  go_wp2_with fail
  go_ret
  exact ⟨rfl, Below.refl _ _⟩


/-- The value of no node. -/
abbrev nv0 : Value := .agg na0

set_option maxRecDepth 100000 in
set_option maxHeartbeats 1000000 in
theorem node_neg (p : Option Addr) (id : Int) (hid : id < 0) (w : World) : Calls Try.prog 36 #[.pointer p, .int .i64 id] w fun e w' => e = .returned (.tuple #[nv0, .bool false]) ∧ Below w.heap.size w w' := by
  have hd : decide (id < 0) = true := by simp [hid]
  go_enter Try.func36, Try.ntmps36
  go_wp2_with fail
  exact bodyPost_ret (v := .tuple #[nv0, .bool false]) (by simp [results, Try.results36, go_sem]) rfl ⟨rfl, (by repeat (first | exact Below.refl _ _ | assumption | refine Below.drew ?_ | refine below_drewN' ?_ _ | refine Below.setCell ?_ (by first | omega | (simp; done) | (simp; omega)) _ | refine Below.alloc ?_ (by first | omega | (simp; done) | (simp; omega)) _ | refine Below.trans ?_ (Below.mono (by assumption) (by first | omega | (simp; done) | (simp; omega)))))⟩
set_option maxRecDepth 100000 in
set_option maxHeartbeats 1000000 in
theorem node_nil (id : Int) (w : World) : Calls Try.prog 36 #[.pointer none, .int .i64 id] w fun e w' => e = .returned (.tuple #[nv0, .bool false]) ∧ Below w.heap.size w w' := by
  rcases Int.lt_or_le id 0 with h | h
  · exact node_neg none id h w
  have hd : decide (id < 0) = false := by simp; omega
  have hd2 : decide (0 ≤ id) = true := by simp; omega
  go_enter Try.func36, Try.ntmps36
  go_wp2_with (first | (go_at_call 35; refine (len_nil _).mono ?_; rintro e w1 ⟨rfl, hb1⟩; have hN1 := (HoldsN.made w na0 rfl).below hb1 (by simp)) | (refine wpList_store_node rfl (.tmp 4) (.tmp 14) rfl rfl rfl (hN1) rfl rfl (one8 _ _ _ _ _ _ _ _) ?_; intro w2 hN2 hg2))
  have hs1 := hb1.size
  simp at hs1
  obtain ⟨q0, q1, q2, q3, q4, q5, q6, q7⟩ := hN2.cells
  have hb2 := below_grown hg2 (n := w.heap.size) (Nat.le_refl _) (by first | omega | (simp; done) | (simp; omega))
  exact bodyPost_ret (v := .tuple #[nv0, .bool false]) (by simp [results, Try.results36, go_sem, q0, q1, q2, q3, q4, q5, q6, q7]) rfl ⟨rfl, (by repeat (first | exact Below.refl _ _ | assumption | refine Below.drew ?_ | refine below_drewN' ?_ _ | refine Below.setCell ?_ (by first | omega | (simp; done) | (simp; omega)) _ | refine Below.alloc ?_ (by first | omega | (simp; done) | (simp; omega)) _ | refine Below.trans ?_ (Below.mono (by assumption) (by first | omega | (simp; done) | (simp; omega)))))⟩
set_option maxRecDepth 100000 in
set_option maxHeartbeats 1000000 in
theorem node_out (h : Ar n0 w b m v L) (id : Int) (hid : id < 0 ∨ (L.length : Int) ≤ id) : Calls Try.prog 36 #[.pointer (some ⟨b, 0, none⟩), .int .i64 id] w fun e w' => e = .returned (.tuple #[nv0, .bool false]) ∧ Below w.heap.size w w' := by
  rcases Int.lt_or_le id 0 with h' | h'
  · exact node_neg _ id h' w
  have hd : decide (id < 0) = false := by simp; omega
  have hd2 : decide ((L.length : Int) ≤ id) = true := by simp; omega
  clear hid
  have h1 := fun o => h.below (Below.alloc (Below.refl w.heap.size w) (Nat.le_refl _) o) (Nat.le_refl _)
  go_enter Try.func36, Try.ntmps36
  go_wp2_with (first | (go_at_call 35; refine (len_any (h1 _)).mono ?_; rintro e w1 ⟨rfl, hb1⟩; have hN1 := (HoldsN.made w na0 rfl).below hb1 (by simp)) | (refine wpList_store_node rfl (.tmp 4) (.tmp 14) rfl rfl rfl (hN1) rfl rfl (one8 _ _ _ _ _ _ _ _) ?_; intro w2 hN2 hg2))
  have hs1 := hb1.size
  simp at hs1
  obtain ⟨q0, q1, q2, q3, q4, q5, q6, q7⟩ := hN2.cells
  have hb2 := below_grown hg2 (n := w.heap.size) (Nat.le_refl _) (by first | omega | (simp; done) | (simp; omega))
  exact bodyPost_ret (v := .tuple #[nv0, .bool false]) (by simp [results, Try.results36, go_sem, q0, q1, q2, q3, q4, q5, q6, q7]) rfl ⟨rfl, (by repeat (first | exact Below.refl _ _ | assumption | refine Below.drew ?_ | refine below_drewN' ?_ _ | refine Below.setCell ?_ (by first | omega | (simp; done) | (simp; omega)) _ | refine Below.alloc ?_ (by first | omega | (simp; done) | (simp; omega)) _ | refine Below.trans ?_ (Below.mono (by assumption) (by first | omega | (simp; done) | (simp; omega)))))⟩
set_option maxRecDepth 100000 in
set_option maxHeartbeats 1000000 in
theorem node_in (h : Ar n0 w b m v L) (i : Nat) (n : Nd) (hi : L[i]? = some n) : Calls Try.prog 36 #[.pointer (some ⟨b, 0, none⟩), .int .i64 (i : Int)] w fun e w' => e = .returned (.tuple #[n.v, .bool true]) ∧ Below w.heap.size w w' := by
  have hil : i < L.length := by
    rcases Nat.lt_or_ge i L.length with h1 | h1
    · exact h1
    · rw [List.getElem?_eq_none h1] at hi; cases hi
  have hd : decide ((L.length : Int) ≤ (i : Int)) = false := by simp; omega
  have h1 := fun o => h.below (Below.alloc (Below.refl w.heap.size w) (Nat.le_refl _) o) (Nat.le_refl _)
  obtain ⟨g, cap, hv, hc, hg, hgl, hcl⟩ := h.row hi
  have e0 := hcl 0 (by omega)
  have e1 := hcl 1 (by omega)
  have e2 := hcl 2 (by omega)
  have e3 := hcl 3 (by omega)
  have e4 := hcl 4 (by omega)
  have e5 := hcl 5 (by omega)
  have e6 := hcl 6 (by omega)
  have e7 := hcl 7 (by omega)
  simp only [Nd.cells, nl, List.getElem?_cons_zero, List.getElem?_cons_succ, Nat.add_zero] at e0 e1 e2 e3 e4 e5 e6 e7
  have c0 := h.c0
  rw [hv] at c0
  have hbl := h.lt
  clear h hv hi hcl
  go_enter Try.func36, Try.ntmps36
  go_wp2_with (first | (go_at_call 35; refine (len_any (h1 _)).mono ?_; rintro e w1 ⟨rfl, hb1⟩; have hN1 := (HoldsN.made w na0 rfl).below hb1 (by simp); have c0' := cell_later hb1 ((World.cell?_alloc_past _ _ _ hbl).trans c0); have e0' := cell_later hb1 ((World.cell?_alloc_past _ _ _ hgl).trans e0); have e1' := cell_later hb1 ((World.cell?_alloc_past _ _ _ hgl).trans e1); have e2' := cell_later hb1 ((World.cell?_alloc_past _ _ _ hgl).trans e2); have e3' := cell_later hb1 ((World.cell?_alloc_past _ _ _ hgl).trans e3); have e4' := cell_later hb1 ((World.cell?_alloc_past _ _ _ hgl).trans e4); have e5' := cell_later hb1 ((World.cell?_alloc_past _ _ _ hgl).trans e5); have e6' := cell_later hb1 ((World.cell?_alloc_past _ _ _ hgl).trans e6); have e7' := cell_later hb1 ((World.cell?_alloc_past _ _ _ hgl).trans e7)) | (refine wpList_store_node rfl (.tmp 4) (.tmp 21) rfl rfl rfl (hN1) rfl rfl (one8 _ _ _ _ _ _ _ _) ?_; intro w2 hN2 hg2))
  have hs1 := hb1.size
  simp at hs1
  obtain ⟨q0, q1, q2, q3, q4, q5, q6, q7⟩ := hN2.cells
  have hb2 := below_grown hg2 (n := w.heap.size) (Nat.le_refl _) (by first | omega | (simp; done) | (simp; omega))
  exact bodyPost_ret (v := .tuple #[n.v, .bool true]) (by simp [results, Try.results36, go_sem, q0, q1, q2, q3, q4, q5, q6, q7]) rfl ⟨rfl, (by repeat (first | exact Below.refl _ _ | assumption | refine Below.drew ?_ | refine below_drewN' ?_ _ | refine Below.setCell ?_ (by first | omega | (simp; done) | (simp; omega)) _ | refine Below.alloc ?_ (by first | omega | (simp; done) | (simp; omega)) _ | refine Below.trans ?_ (Below.mono (by assumption) (by first | omega | (simp; done) | (simp; omega)))))⟩

end Go.Proofs.Ytbmejpghoafapaa
