/-
  The walks of set.All, bolterref01.Bytes and set.Count.
-/
import Derived.Test.YtbmejpghoafapaaDoorPop
import Derived.Deep.AppendLies
namespace Go.Proofs.YtbmejpghoafapaaDoor
open Go.RowKit

/-- The bytes of f below k, rising. -/
def bs (f : Nat → Bool) (k : Nat) : List Nat := (List.range k).filter fun b => f b
theorem bs_zero (f : Nat → Bool) : bs f 0 = [] := rfl
theorem bs_yes {f : Nat → Bool} {k : Nat} (h : f k = true) : bs f (k + 1) = bs f k ++ [k] := by simp [bs, List.range_succ, h]
theorem bs_no {f : Nat → Bool} {k : Nat} (h : f k = false) : bs f (k + 1) = bs f k := by simp [bs, List.range_succ, h]
theorem bs_len (f : Nat → Bool) (k : Nat) : (bs f k).length ≤ k := by
  have := List.length_filter_le (fun b => f b) (List.range k)
  simpa [bs] using this

theorem lt_of_heap {w : World} {b : Nat} {o : Obj} (h : w.heap[b]? = some o) : b < w.heap.size := by
  rcases Nat.lt_or_ge b w.heap.size with h1 | h1
  · exact h1
  · rw [Array.getElem?_eq_none h1] at h; cases h
theorem own_blk {w : World} {n0 : Nat} {v : Value} {e : TypeId} {s n : Nat} {l : List Value} (h : w.ownsRow n0 e s v n l) {g : Nat} (hg : v.ownBlock = some g) : n0 ≤ g ∧ g < w.heap.size ∧ ∃ cur, w.heap[g]? = some (.cells cur e (0, 0)) := by
  rcases h.2 with ⟨rfl, _⟩ | ⟨g', cap, cur, rfl, h1, h2, _⟩
  · cases hg
  · obtain rfl : g' = g := by simpa [Value.ownBlock] using hg
    exact ⟨h1, lt_of_heap h2, cur, h2⟩
theorem ownsRow_keep {w w' : World} {n0 : Nat} {v : Value} {e : TypeId} {s n : Nat} {l : List Value} (h : w.ownsRow n0 e s v n l) (hk : ∀ g, v.ownBlock = some g → w'.heap[g]? = w.heap[g]?) : w'.ownsRow n0 e s v n l := by
  refine ⟨h.1, ?_⟩
  rcases h.2 with h1 | ⟨g, cap, cur, rfl, h1, h2, h3⟩
  · exact .inl h1
  · exact .inr ⟨g, cap, cur, rfl, h1, by rw [hk g rfl]; exact h2, h3⟩
theorem row_below {w w' : World} {n0 : Nat} {v : Value} {e : TypeId} {s n : Nat} {l : List Value} (h : w.ownsRow n0 e s v n l) {k : Nat} (hb : Below k w w') (hk : w.heap.size ≤ k) : w'.ownsRow n0 e s v n l :=
  ownsRow_keep h fun g hg => hb.block g (by have := (own_blk h hg).2.1; omega)
theorem row_grown {w w' : World} {n0 : Nat} {v : Value} {e : TypeId} {s n : Nat} {l : List Value} (h : w.ownsRow n0 e s v n l) (hn0 : n0 ≤ w.heap.size) (hg : w.grownBy w' v.ownBlock) : Below n0 w w' :=
  (Below.refl n0 w).grown hg hn0 (fun _ hj => (own_blk h hj).1)
theorem row_shape {w : World} {n0 : Nat} {v : Value} {e : TypeId} {s n : Nat} {l : List Value} (h : w.ownsRow n0 e s v n l) : ∃ sv cap, v = .slice sv n cap := by
  rcases h.2 with ⟨rfl, h0⟩ | ⟨g, cap, cur, rfl, _⟩
  · exact ⟨none, 0, by rw [h0]⟩
  · exact ⟨_, _, rfl⟩
theorem row_cell {w : World} {n0 : Nat} {sv : Option Addr} {m cap : Nat} {e : TypeId} {s n : Nat} {l : List Value} (h : w.ownsRow n0 e s (.slice sv m cap) n l) {j : Nat} {u : Value} (hj : l[j]? = some u) : ∃ g, sv = some ⟨g, 0, none⟩ ∧ n0 ≤ g ∧ g < w.heap.size ∧ w.cell? ⟨g, j, none⟩ = some u ∧ w.frozen? ⟨g, j, none⟩ = false := by
  have hjl := (List.getElem?_eq_some_iff.1 hj).1
  rw [h.1] at hjl
  rcases h.2 with ⟨_, h0⟩ | ⟨g, cap', cur, hv, hg, hb, hc, _, hs, ht⟩
  · rw [h0] at hjl; simp at hjl
  · cases hv
    refine ⟨g, rfl, hg, lt_of_heap hb, ?_, by simp [World.frozen?, hb]⟩
    rw [cell_of_row w g _ _ _ _ hb, ← hj, ← ht, List.getElem?_take, if_pos hjl]
    simp

/-- An own slice of numbers. -/
abbrev OwnV (n0 : Nat) (w : World) (e : TypeId) (q : IntKind) (v : Value) (L : List Nat) : Prop := w.ownsRow n0 e 1 v L.length (L.map fun b : Nat => Value.int q (b : Int))
theorem OwnV.snoc {n0 : Nat} {w : World} {e : TypeId} {q : IntKind} {v : Value} {L : List Nat} {b : Nat} (h : w.ownsRow n0 e 1 v (L.length + 1) ((L.map fun b : Nat => Value.int q (b : Int)) ++ [.int q (b : Int)])) : OwnV n0 w e q v (L ++ [b]) := by
  simpa [OwnV] using h
theorem OwnV.at {n0 : Nat} {w : World} {e : TypeId} {q : IntKind} {sv : Option Addr} {m cap : Nat} {L : List Nat} (h : OwnV n0 w e q (.slice sv m cap) L) {j b : Nat} (hj : L[j]? = some b) : ∃ g, sv = some ⟨g, 0, none⟩ ∧ g < w.heap.size ∧ w.cell? ⟨g, j, none⟩ = some (.int q (b : Int)) := by
  obtain ⟨g, h1, _, h2, h3, _⟩ := row_cell h (j := j) (u := .int q (b : Int)) (by rw [List.getElem?_map, hj]; rfl)
  exact ⟨g, h1, h2, h3⟩
theorem Tryd.info5 : (Tryd.prog.info? 5).map (fun i => (i.zero, i.size, i.bytes)) = some (some (.int .u8 0), 1, 1) := by kernel_rfl
theorem Tryd.info3 : (Tryd.prog.info? 3).map (fun i => (i.zero, i.size, i.bytes)) = some (some (.int .i64 0), 1, 8) := by kernel_rfl
theorem has_val {f : Nat → Bool} {b : Int} {v : Bool} (hv : f b.toNat = v) (w : World) (h0 : 0 ≤ b) (h1 : b < 256) :
    Calls Tryd.prog 19 #[sv f, .int .u8 b] w fun e w' => e = .returned (.bool v) ∧ Below w.heap.size w w' := by rw [← hv]; exact has_any f b w h0 h1

set_option maxRecDepth 100000 in
set_option maxHeartbeats 1000000 in
theorem all_any (f : Nat → Bool) (w : World) : Calls Tryd.prog 11 #[sv f] w fun e w' => (∃ v, e = .returned v ∧ OwnV w.heap.size w' 5 .u8 v (bs f 256)) ∧ Below w.heap.size w w' := by
  obtain ⟨i0, HI, HZ0, HZ1, HZ2⟩ := info_parts Tryd.info5
  have hS0 := HoldsS.made w f
  go_enter Tryd.func11, Tryd.ntmps11
  go_wp2_with fail
  go_loopw [3, 5] (fun vw i wr => ∃ k : Nat, k ≤ 256 ∧ i = .int .i64 k ∧ Below w.heap.size w wr ∧ HoldsS wr w.heap.size f ∧ OwnV w.heap.size wr 5 .u8 vw (bs f k)) (fun _ i _ => (256 - intOf i).toNat)
  case atStart => exact ⟨0, by omega, rfl, (by repeat (first | exact Below.refl _ _ | assumption | refine Below.drew ?_ | refine below_drewN' ?_ _ | refine Below.setCell ?_ (by first | omega | (simp; done) | (simp; omega)) _ | refine Below.alloc ?_ (by first | omega | (simp; done) | (simp; omega)) _ | refine Below.trans ?_ (Below.mono (by assumption) (by first | omega | (simp; done) | (simp; omega))))), hS0, World.ownsRow_nil _ _ _ _⟩
  case round =>
    clear hS0
    obtain ⟨k, hk, rfl, hbl, hS, hW⟩ := hrel
    by_cases hlt : k < 256
    · have hw8 : IntKind.u8.wrap (k : Int) = (k : Int) := by rw [IntKind.wrap_u8]; omega
      obtain ⟨c0, c1, c2, c3⟩ := hS.cells
      have hlen := bs_len f k
      have hsz := hbl.size
      have hkt : (k : Int).toNat = k := by omega
      have hX := fun (w : World) (o : Obj) => Below.alloc (Below.refl w.heap.size w) (Nat.le_refl _) o
      cases hf : f k
      · have HF := Lib.hid ((congrArg f hkt).trans hf)
        have HB := Lib.hid (bs_no hf)
        clear hf hkt
        generalize bs f k = L at *
        go_wp2_with (go_at_call 19; refine (has_val HF.out _ (by omega) (by omega)).mono ?_; rintro e w1 ⟨rfl, hb1⟩)
        go_round
        case rel => exact ⟨k + 1, by omega, by go_num, hbl.trans (hb1.mono hsz), hS.below hb1 hS.lt, by rw [HB.out]; exact row_below hW hb1 (Nat.le_refl _)⟩
        case measure => simp [intOf]; omega
      · have HF := Lib.hid ((congrArg f hkt).trans hf)
        have HB := Lib.hid (bs_yes hf)
        clear hf hkt
        generalize bs f k = L at *
        obtain ⟨sw, cw, rfl⟩ := row_shape hW
        go_wp2_with (first | (go_at_call 19; refine (has_val HF.out _ (by omega) (by omega)).mono ?_; rintro e w1 ⟨rfl, hb1⟩; have hs1 := hb1.size; have hW1 := row_below hW hb1 (Nat.le_refl _)) | (refine wpList_append_lies _ rfl (.tmp 12) (.tmp 15) 35 rfl w.heap.size 5 i0 (.int .u8 0) 1 1 Tryd.underlying35 HI HZ0 HZ1 HZ2 rfl (by omega) _ L.length (L.map fun b : Nat => Value.int .u8 (b : Int)) rfl (row_below hW1 (hX _ _) (Nat.le_refl _)) _ 1 1 [.int .u8 (k : Int)] rfl rfl (World.news_of_block (cs := #[.int .u8 (k : Int)]) (heap_alloc_new _ _)) (by simp [Value.oneCell']) (by omega) (by unfold maxLen; omega) (by omega) (by simp; omega) _ rfl ?_; intro g cap w7 hown7 hgrow7 hat7 hlt7))
        have hWX := row_below hW1 (hX w1 (.cells #[.int .u8 (k : Int)] 5)) (Nat.le_refl _)
        have hSX := ((hS.below hb1 hS.lt).below (hX w1 (.cells #[.int .u8 (k : Int)] 5)) (by have := hS.lt; omega))
        have hb7 := row_grown hWX (by simp; omega) hgrow7
        have hne : some w.heap.size ≠ (Value.slice sw L.length cw).ownBlock := fun e => by
          obtain ⟨_, _, cur, h1⟩ := own_blk hWX e.symm
          have h2 : (w1.alloc (.cells #[.int .u8 (k : Int)] 5)).heap[w.heap.size]? = some (sob f) := hSX
          rw [h2] at h1
          simp at h1
        go_round
        case rel => exact ⟨k + 1, by omega, by go_num, ((hbl.trans (hb1.mono hsz)).alloc (by omega) _).trans hb7, hSX.kept hgrow7 hne, by rw [HB.out]; exact OwnV.snoc hown7⟩
        case measure => simp [intOf]; omega
    · obtain rfl : k = 256 := by omega
      go_wp2_with fail
      go_ret
      exact ⟨⟨_, rfl, hW⟩, hbl⟩

set_option maxRecDepth 100000 in
set_option maxHeartbeats 1000000 in
theorem bytes_any (f : Nat → Bool) (w : World) : Calls Tryd.prog 12 #[sv f] w fun e w' => (∃ v, e = .returned v ∧ OwnV w.heap.size w' 3 .i64 v (bs f 256)) ∧ Below w.heap.size w w' := by
  obtain ⟨i0, HI, HZ0, HZ1, HZ2⟩ := info_parts Tryd.info3
  have hS0 := HoldsS.made w f
  go_enter Tryd.func12, Tryd.ntmps12
  go_wp2_with fail
  go_loopw [3, 5] (fun vw i wr => ∃ k : Nat, k ≤ 256 ∧ i = .int .i64 k ∧ Below w.heap.size w wr ∧ HoldsS wr w.heap.size f ∧ OwnV w.heap.size wr 3 .i64 vw (bs f k)) (fun _ i _ => (256 - intOf i).toNat)
  case atStart => exact ⟨0, by omega, rfl, (by repeat (first | exact Below.refl _ _ | assumption | refine Below.drew ?_ | refine below_drewN' ?_ _ | refine Below.setCell ?_ (by first | omega | (simp; done) | (simp; omega)) _ | refine Below.alloc ?_ (by first | omega | (simp; done) | (simp; omega)) _ | refine Below.trans ?_ (Below.mono (by assumption) (by first | omega | (simp; done) | (simp; omega))))), hS0, World.ownsRow_nil _ _ _ _⟩
  case round =>
    clear hS0
    obtain ⟨k, hk, rfl, hbl, hS, hW⟩ := hrel
    by_cases hlt : k < 256
    · obtain ⟨c0, c1, c2, c3⟩ := hS.cells
      have hlen := bs_len f k
      have hsz := hbl.size
      have hkt : (k : Int).toNat = k := by omega
      have hX := fun (w : World) (o : Obj) => Below.alloc (Below.refl w.heap.size w) (Nat.le_refl _) o
      cases hf : f k
      · have HF := Lib.hid ((congrArg f hkt).trans hf)
        have HB := Lib.hid (bs_no hf)
        clear hf hkt
        generalize bs f k = L at *
        go_wp2_with (go_at_call 8; refine (refHas_val HF.out _ (by omega) (by omega)).mono ?_; rintro e w1 ⟨rfl, hb1⟩)
        go_round
        case rel => exact ⟨k + 1, by omega, by go_num, hbl.trans (hb1.mono hsz), hS.below hb1 hS.lt, by rw [HB.out]; exact row_below hW hb1 (Nat.le_refl _)⟩
        case measure => simp [intOf]; omega
      · have HF := Lib.hid ((congrArg f hkt).trans hf)
        have HB := Lib.hid (bs_yes hf)
        clear hf hkt
        generalize bs f k = L at *
        obtain ⟨sw, cw, rfl⟩ := row_shape hW
        go_wp2_with (first | (go_at_call 8; refine (refHas_val HF.out _ (by omega) (by omega)).mono ?_; rintro e w1 ⟨rfl, hb1⟩; have hs1 := hb1.size; have hW1 := row_below hW hb1 (Nat.le_refl _)) | (refine wpList_append_lies _ rfl (.tmp 11) (.tmp 13) 37 rfl w.heap.size 3 i0 (.int .i64 0) 1 8 Tryd.underlying37 HI HZ0 HZ1 HZ2 rfl (by omega) _ L.length (L.map fun b : Nat => Value.int .i64 (b : Int)) rfl (row_below hW1 (hX _ _) (Nat.le_refl _)) _ 1 1 [.int .i64 (k : Int)] rfl rfl (World.news_of_block (cs := #[.int .i64 (k : Int)]) (heap_alloc_new _ _)) (by simp [Value.oneCell']) (by omega) (by unfold maxLen; omega) (by omega) (by simp; omega) _ rfl ?_; intro g cap w7 hown7 hgrow7 hat7 hlt7))
        have hWX := row_below hW1 (hX w1 (.cells #[.int .i64 (k : Int)] 3)) (Nat.le_refl _)
        have hSX := ((hS.below hb1 hS.lt).below (hX w1 (.cells #[.int .i64 (k : Int)] 3)) (by have := hS.lt; omega))
        have hb7 := row_grown hWX (by simp; omega) hgrow7
        have hne : some w.heap.size ≠ (Value.slice sw L.length cw).ownBlock := fun e => by
          obtain ⟨_, _, cur, h1⟩ := own_blk hWX e.symm
          have h2 : (w1.alloc (.cells #[.int .i64 (k : Int)] 3)).heap[w.heap.size]? = some (sob f) := hSX
          rw [h2] at h1
          simp at h1
        go_round
        case rel => exact ⟨k + 1, by omega, by go_num, ((hbl.trans (hb1.mono hsz)).alloc (by omega) _).trans hb7, hSX.kept hgrow7 hne, by rw [HB.out]; exact OwnV.snoc hown7⟩
        case measure => simp [intOf]; omega
    · obtain rfl : k = 256 := by omega
      go_wp2_with fail
      go_ret
      exact ⟨⟨_, rfl, hW⟩, hbl⟩

theorem bs_word (f : Nat → Bool) (i : Nat) : (bs f (64 * (i + 1))).length = (bs f (64 * i)).length + cnt (wn f i) 64 := by
  have key : ∀ m n, (bs f (m + n)).length = (bs f m).length + (List.range n).countP fun j => f (m + j) := by
    intro m n
    induction n with
    | zero => simp
    | succ n ih =>
      rw [← Nat.add_assoc, List.range_succ, List.countP_append]
      cases h : f (m + n)
      · rw [bs_no h, ih]; simp [h]
      · rw [bs_yes h, List.length_append, ih]; simp [h]; omega
  rw [show 64 * (i + 1) = 64 * i + 64 from by omega, key]
  congr 1
  unfold cnt
  refine List.countP_congr fun j hj => ?_
  have : j < 64 := by simpa using hj
  rw [wn_testBit]
  simp [this]
theorem ones_wd (f : Nat → Bool) (i : Nat) (w : World) : Calls Tryd.prog 20 #[.int .u64 (wd f i)] w fun e w' => e = .returned (.int .i64 (cnt (wn f i) 64 : Int)) ∧ w' = w :=
  ones_any (wn f i) w (wn_lt f i)
theorem cnt_le (X : Nat) : cnt X 64 ≤ 64 := by
  have := List.countP_le_length (p := fun j => X.testBit j) (l := List.range 64)
  simpa [cnt] using this

set_option maxRecDepth 100000 in
set_option maxHeartbeats 1000000 in
theorem count_any (f : Nat → Bool) (w : World) : Calls Tryd.prog 13 #[sv f] w fun e w' => e = .returned (.int .i64 ((bs f 256).length : Int)) ∧ Below w.heap.size w w' := by
  have hb0 := Below.alloc (Below.refl w.heap.size w) (Nat.le_refl _) (sob f)
  go_enter Tryd.func13, Tryd.ntmps13
  go_wp2_with fail
  go_loop [3, 7] (fun n i => ∃ k : Nat, k ≤ 4 ∧ i = .int .i64 k ∧ n = .int .i64 ((bs f (64 * k)).length : Int)) (fun _ i => (4 - intOf i).toNat)
  case atStart => exact ⟨0, by omega, rfl, rfl⟩
  case round =>
    obtain ⟨k, hk, rfl, rfl⟩ := hrel
    have hK : k = 0 ∨ k = 1 ∨ k = 2 ∨ k = 3 ∨ k = 4 := by omega
    have HB := Lib.hid (bs_word f k)
    have hl := bs_len f (64 * k)
    have hc := cnt_le (wn f k)
    have HO := Lib.hid (ones_wd f k)
    clear hk
    rcases hK with rfl | rfl | rfl | rfl | rfl
    · generalize cnt (wn f 0) 64 = c at *
      generalize (bs f (64 * 0)).length = n at *
      go_wp2_with (first | (refine wpList_index_set rfl (.tmp 6) (.tmp 7) rfl 0 (by omega) rfl rfl ?_) | (go_at_call 20; refine (HO.out _).mono ?_; rintro e w1 ⟨rfl, rfl⟩))
      go_round
      case rel => exact ⟨1, by omega, rfl, by rw [HB.out]; go_num⟩
      case measure => simp [intOf]
    · generalize cnt (wn f 1) 64 = c at *
      generalize (bs f (64 * 1)).length = n at *
      go_wp2_with (first | (refine wpList_index_set rfl (.tmp 6) (.tmp 7) rfl 1 (by omega) rfl rfl ?_) | (go_at_call 20; refine (HO.out _).mono ?_; rintro e w1 ⟨rfl, rfl⟩))
      go_round
      case rel => exact ⟨2, by omega, rfl, by rw [HB.out]; go_num⟩
      case measure => simp [intOf]
    · generalize cnt (wn f 2) 64 = c at *
      generalize (bs f (64 * 2)).length = n at *
      go_wp2_with (first | (refine wpList_index_set rfl (.tmp 6) (.tmp 7) rfl 2 (by omega) rfl rfl ?_) | (go_at_call 20; refine (HO.out _).mono ?_; rintro e w1 ⟨rfl, rfl⟩))
      go_round
      case rel => exact ⟨3, by omega, rfl, by rw [HB.out]; go_num⟩
      case measure => simp [intOf]
    · generalize cnt (wn f 3) 64 = c at *
      generalize (bs f (64 * 3)).length = n at *
      go_wp2_with (first | (refine wpList_index_set rfl (.tmp 6) (.tmp 7) rfl 3 (by omega) rfl rfl ?_) | (go_at_call 20; refine (HO.out _).mono ?_; rintro e w1 ⟨rfl, rfl⟩))
      go_round
      case rel => exact ⟨4, by omega, rfl, by rw [HB.out]; go_num⟩
      case measure => simp [intOf]
    · go_wp2_with fail
      go_ret
      exact ⟨rfl, hb0⟩

end Go.Proofs.YtbmejpghoafapaaDoor
