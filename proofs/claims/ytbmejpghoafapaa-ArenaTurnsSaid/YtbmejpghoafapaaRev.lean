/-
  The walks of bolterlaw09.Places and bolterlaw09.reversed.
-/
import Derived.Test.YtbmejpghoafapaaSpn
import Derived.Deep.OwnRows
import Derived.Deep.AppendLies
namespace Go.Proofs.Ytbmejpghoafapaa
open Go.RowKit Go.Maps
variable {w w' w1 W : World} {n0 n g : Nat} {v : Value} {l : List Int} {P : Nat → Int}

/-- An own slice of bytes. -/
abbrev OwnB (n0 : Nat) (w : World) (v : Value) (l : List Int) : Prop := w.ownsRow n0 5 1 v l.length (l.map fun x : Int => Value.int .u8 x)
theorem OwnB.bytes (h : OwnB n0 w v l) (h256 : ∀ x ∈ l, 0 ≤ x ∧ x < 256) : BytesAt w v l := by
  refine ⟨h256, ?_⟩
  rcases h.2 with ⟨rfl, h0⟩ | ⟨g, cap, cur, rfl, hg, hb, hc, _, hs, ht⟩
  · exact ⟨none, 0, by rw [h0], fun hne => absurd (List.eq_nil_of_length_eq_zero h0) hne⟩
  · refine ⟨_, cap, rfl, fun _ => ⟨g, 0, rfl, fun i hi => ?_⟩⟩
    rw [Nat.zero_add, cell_of_row w g i _ _ _ hb]
    have h2 : (cur.toList.take (l.length * 1))[i]? = some (.int .u8 (l.getD i 0)) := by
      rw [ht, List.getElem?_map, List.getElem?_eq_getElem hi]
      simp [hi]
    rw [List.getElem?_take, if_pos (by omega), Array.getElem?_toList] at h2
    exact h2
theorem OwnB.shape (h : OwnB n0 w v l) : ∃ sv cap, v = .slice sv l.length cap := by
  rcases h.2 with ⟨rfl, h0⟩ | ⟨g, cap, cur, rfl, _⟩
  · exact ⟨none, 0, by rw [h0]⟩
  · exact ⟨_, _, rfl⟩
theorem OwnB.mono {n1 : Nat} (h : OwnB n0 w v l) (hn : n1 ≤ n0) : OwnB n1 w v l :=
  ⟨h.1, h.2.imp id fun ⟨g, cap, cur, h1, h2, h3⟩ => ⟨g, cap, cur, h1, Nat.le_trans hn h2, h3⟩⟩
theorem OwnB.snoc {x : Int} (h : w.ownsRow n0 5 1 v (l.length + 1) ((l.map fun x : Int => Value.int .u8 x) ++ [.int .u8 x])) : OwnB n0 w v (l ++ [x]) := by
  simpa [OwnB] using h
def numA (n : Nat) (P : Nat → Int) : Array Value := ((List.range n).map fun j => Value.int .u8 (P j)).toArray
theorem numA_at (n : Nat) (P : Nat → Int) {j : Nat} (h : j < n) : (numA n P)[j]? = some (.int .u8 (P j)) := by simp [numA, h]
theorem numA_size (n : Nat) (P : Nat → Int) : (numA n P).size = n := by simp [numA]
theorem numA_set (n : Nat) (P : Nat → Int) (k : Nat) (x : Int) : (numA n P).setIfInBounds k (.int .u8 x) = numA n (fun j => if j = k then x else P j) := by
  apply Array.ext_getElem?
  intro j
  rw [Array.getElem?_setIfInBounds]
  by_cases hj : k = j
  · subst hj
    rw [if_pos rfl, numA_size]
    by_cases h : k < n
    · rw [if_pos h, numA_at _ _ h]; simp
    · rw [if_neg h, Array.getElem?_eq_none (by rw [numA_size]; omega)]
  · rw [if_neg hj]
    by_cases h : j < n
    · have : ¬ j = k := fun e => hj e.symm
      rw [numA_at _ _ h, numA_at _ _ h]; simp [this]
    · rw [Array.getElem?_eq_none (by rw [numA_size]; omega), Array.getElem?_eq_none (by rw [numA_size]; omega)]
def HoldsU (w : World) (g n : Nat) (P : Nat → Int) : Prop := w.heap[g]? = some (.cells (numA n P) 5 (0, 0))
theorem HoldsU.below {k : Nat} (h : HoldsU w g n P) (hb : Below k w w') (hlt : g < k) : HoldsU w' g n P := (hb.block g hlt).trans h
theorem HoldsU.lt (h : HoldsU w g n P) : g < w.heap.size := heap_lt h
theorem HoldsU.cell (h : HoldsU w g n P) {j : Nat} (hj : j < n) : w.cell? ⟨g, j, none⟩ = some (.int .u8 (P j)) := by
  rw [cell_of_row w g j _ 5 (0, 0) h, numA_at n P hj]
theorem HoldsU.free (h : HoldsU w g n P) (j : Nat) : w.frozen? ⟨g, j, none⟩ = false := by
  have : w.heap[g]? = some (.cells (numA n P) 5 (0, 0)) := h
  simp [World.frozen?, this]
theorem HoldsU.put (h : HoldsU w g n P) (k : Nat) (x : Int) : HoldsU (w.setCell ⟨g, k, none⟩ (.int .u8 x)) g n (fun j => if j = k then x else P j) := by
  unfold HoldsU
  rw [heap_setCell_same w g k _ 5 _ h, numA_set]
theorem HoldsU.congr {P' : Nat → Int} (h : HoldsU w g n P) (he : ∀ j, j < n → P j = P' j) : HoldsU w g n P' := by
  unfold HoldsU at *
  rw [h]
  have : numA n P = numA n P' := by
    unfold numA
    congr 1
    exact List.map_congr_left fun j hj => by rw [he j (by simpa using hj)]
  rw [this]
theorem HoldsU.own (h : HoldsU w g n P) (hg : n0 ≤ g) (hn : n ≤ 1000) : OwnB n0 w (.slice (some ⟨g, 0, none⟩) n n) ((List.range n).map P) := by
  refine ⟨by simp, .inr ⟨g, n, numA n P, by simp, hg, h, by simp, by unfold maxLen; omega, by simp [numA_size], ?_⟩⟩
  simp only [numA, List.length_map, List.length_range, Nat.mul_one, List.map_map]
  rw [List.take_of_length_le (by simp)]
  rfl
theorem madeCells_zero (n : Nat) : madeCells #[.int .u8 0] n = numA n (fun _ => 0) := by
  apply Array.ext_getElem?
  intro j
  by_cases h : j < n
  · rw [numA_at n _ h]
    simp [madeCells, h, Nat.mod_one]
  · rw [Array.getElem?_eq_none (by unfold madeCells; simp; omega), Array.getElem?_eq_none (by rw [numA_size]; omega)]
theorem Try.info5 : (Try.prog.info? 5).map (fun i => (i.zero, i.size, i.bytes)) = some (some (.int .u8 0), 1, 1) := by kernel_rfl
def plf (l : List Int) (j : Nat) : Int := if j < l.length then l.getD j 0 else 0
def plc (n : Nat) (l : List Int) : List Int := (List.range n).map (plf l)
theorem plc_len (n : Nat) (l : List Int) : (plc n l).length = n := by simp [plc]
theorem plc_256 (n : Nat) {l : List Int} (h : ∀ x ∈ l, 0 ≤ x ∧ x < 256) : ∀ x ∈ plc n l, 0 ≤ x ∧ x < 256 := by
  intro x hx
  simp only [plc, List.mem_map] at hx
  obtain ⟨j, _, rfl⟩ := hx
  unfold plf
  split
  · exact h _ (getD_mem (by assumption))
  · omega

set_option maxRecDepth 100000 in
set_option maxHeartbeats 1000000 in
theorem places_any (hn : n ≤ 100) (hv : BytesAt W v l) (hl : l.length ≤ maxLen) : Calls Try.prog 39 #[v, .int .i64 (n : Int)] W fun e w' => (∃ v', e = .returned v' ∧ OwnB W.heap.size w' v' (plc n l)) ∧ Below W.heap.size W w' := by
  obtain ⟨i5, HI, HZ0, HZ1, HZ2⟩ := info_parts Try.info5
  replace HI := Lib.hid HI
  replace HZ0 := Lib.hid HZ0
  replace HZ1 := Lib.hid HZ1
  replace HZ2 := Lib.hid HZ2
  have hv0 := hv
  obtain ⟨h256, a, cap, rfl, hs⟩ := hv0
  replace hs := Lib.hid hs
  unfold maxLen at hl
  go_enter Try.func39, Try.ntmps39
  go_wp2_with (refine wpList_make_row _ rfl (.tmp 7) (.tmp 7) 22 rfl 5 i5 (.int .u8 0) Try.underlying22 HI.out HZ0.out HZ1.out rfl .i64 .i64 n rfl rfl (by rw [HZ2.out]; omega) (by omega) ?_; rw [madeCells_zero])
  have h0 : HoldsU (W.alloc (.cells (numA n (fun _ => 0)) 5)) W.heap.size n (fun _ => 0) := heap_alloc_new W _
  go_loopw [11] (fun i wr => ∃ k : Nat, k ≤ n ∧ i = .int .i64 k ∧ Below W.heap.size W wr ∧ HoldsU wr W.heap.size n (fun j => if j < k then plf l j else 0)) (fun i _ => (n - intOf i).toNat)
  case atStart => exact ⟨0, by omega, rfl, (by repeat (first | exact Below.refl _ _ | assumption | refine Below.drew ?_ | refine below_drewN' ?_ _ | refine Below.setCell ?_ (by first | omega | (simp; done) | (simp; omega)) _ | refine Below.alloc ?_ (by first | omega | (simp; done) | (simp; omega)) _ | refine Below.trans ?_ (Below.mono (by assumption) (by first | omega | (simp; done) | (simp; omega))))), h0.congr (fun j _ => by simp)⟩
  case round =>
    clear h0
    obtain ⟨k, hk, rfl, hbl, hH⟩ := hrel
    by_cases hlt : k < n
    · by_cases hkl : k < l.length
      · obtain ⟨bb, off, rfl, hc⟩ := hs.out (by intro e; rw [e] at hkl; simp at hkl)
        have hck := cell_later hbl (hc k hkl)
        have hx : plf l k = l.getD k 0 := by simp [plf, hkl]
        have hcc := hH.cell hlt
        have hcf := hH.free k
        have hp := (hH.put k (l.getD k 0)).congr (P' := fun j => if j < k + 1 then plf l j else 0) (fun j _ => by
          by_cases e : j = k
          · subst e
            have : j < j + 1 := by omega
            simp only [if_true, this, hx]
          · have h1 : (j < k + 1) = (j < k) := by simp; omega
            simp only [e, if_false, h1])
        clear hc hx
        generalize l.getD k 0 = x at *
        go_wp2_with fail
        go_round
        case rel => exact ⟨k + 1, by omega, by go_num, (by repeat (first | exact Below.refl _ _ | assumption | refine Below.drew ?_ | refine below_drewN' ?_ _ | refine Below.setCell ?_ (by first | omega | (simp; done) | (simp; omega)) _ | refine Below.alloc ?_ (by first | omega | (simp; done) | (simp; omega)) _ | refine Below.trans ?_ (Below.mono (by assumption) (by first | omega | (simp; done) | (simp; omega))))), hp⟩
        case measure => simp [intOf]; omega
      · have hx : plf l k = 0 := by simp [plf, hkl]
        have hp := hH.congr (P' := fun j => if j < k + 1 then plf l j else 0) (fun j _ => by
          by_cases e : j = k
          · subst e
            have h1 : ¬ j < j := by omega
            have h2 : j < j + 1 := by omega
            simp only [h1, h2, if_true, if_false, hx]
          · have h1 : (j < k + 1) = (j < k) := by simp; omega
            simp only [h1])
        go_wp2_with fail
        go_round
        case rel => exact ⟨k + 1, by omega, by go_num, hbl, hp⟩
        case measure => simp [intOf]; omega
    · obtain rfl : k = n := by omega
      go_wp2_with fail
      go_ret
      exact ⟨⟨_, rfl, (hH.congr (P' := plf l) (fun j hj => by simp [hj])).own (Nat.le_refl _) (by omega)⟩, hbl⟩

theorem take_nextI {L : List Int} {k : Nat} {n : Int} (h : L[k]? = some n) : L.take (k + 1) = L.take k ++ [n] := by
  rw [List.take_add_one, h]; rfl
theorem rev_at {l : List Int} {k : Nat} (h : k < l.length) : l.reverse[k]? = some (l.getD (l.length - 1 - k) 0) := by
  have h1 : k < l.reverse.length := by simpa using h
  have h2 : l.length - 1 - k < l.length := by omega
  rw [List.getElem?_eq_getElem h1, List.getElem_reverse]
  simp [h2]

set_option maxRecDepth 100000 in
set_option maxHeartbeats 2000000 in
theorem reversed_any {x : Value} {p q : List Int} (hp : BytesAt W v p) (hq : BytesAt W x q) (hpl : p.length ≤ 100) (hql : q.length ≤ 100) :
    Calls Try.prog 40 #[v, x] W fun e w' => (∃ v1 v2, e = .returned (.tuple #[v1, v2]) ∧ OwnB W.heap.size w' v1 p.reverse ∧ OwnB W.heap.size w' v2 q.reverse) ∧ Below W.heap.size W w' := by
  obtain ⟨i5, HI, HZ0, HZ1, HZ2⟩ := info_parts Try.info5
  replace HI := Lib.hid HI
  replace HZ0 := Lib.hid HZ0
  replace HZ1 := Lib.hid HZ1
  replace HZ2 := Lib.hid HZ2
  have hp0 := hp
  obtain ⟨hp256, a, cap, rfl, hs⟩ := hp0
  replace hs := Lib.hid hs
  have hq0 := hq
  obtain ⟨hq256, a2, cap2, rfl, hs2⟩ := hq0
  replace hs2 := Lib.hid hs2
  have hX := fun (w : World) (o : Obj) => Below.alloc (Below.refl w.heap.size w) (Nat.le_refl _) o
  go_enter Try.func40, Try.ntmps40
  go_wp2_with fail
  go_loopw [6, 12] (fun vw i wr => ∃ k : Nat, k ≤ p.length ∧ i = .int .i64 k ∧ Below W.heap.size W wr ∧ OwnB W.heap.size wr vw (p.reverse.take k)) (fun _ i _ => (p.length - intOf i).toNat)
  case atStart => exact ⟨0, by omega, rfl, Below.refl _ _, World.ownsRow_nil _ _ _ _⟩
  case round =>
    obtain ⟨k, hk, rfl, hbl, hW⟩ := hrel
    by_cases hlt : k < p.length
    · obtain ⟨bb, off, rfl, hc⟩ := hs.out (by intro e; rw [e] at hlt; simp at hlt)
      have hck := cell_later hbl (hc (p.length - 1 - k) (by omega))
      have hP := Lib.hid (take_nextI (rev_at hlt))
      have hPl : (p.reverse.take k).length = k := by simp; omega
      have hidx : (p.length : Int) - 1 - (k : Int) = ((p.length - 1 - k : Nat) : Int) := by omega
      have hlt2 : p.length - 1 - k < p.length := by omega
      have hsz := hbl.size
      clear hc
      generalize p.getD (p.length - 1 - k) 0 = z at *
      generalize p.reverse.take k = T at *
      obtain rfl : T.length = k := hPl
      obtain ⟨sw, cw, rfl⟩ := OwnB.shape hW
      go_wp2_with (refine wpList_append_lies _ rfl (.tmp 15) (.tmp 24) 22 rfl W.heap.size 5 i5 (.int .u8 0) 1 1 Try.underlying22 HI.out HZ0.out HZ1.out HZ2.out rfl (by omega) _ T.length (T.map fun x : Int => Value.int .u8 x) rfl (rowBelow hW (hX wr _) (Nat.le_refl _)) _ 1 1 [.int .u8 z] rfl rfl (World.news_of_block (cs := #[.int .u8 z]) (heap_alloc_new _ _)) (by simp [Value.oneCell']) (by omega) (by unfold maxLen; omega) (by omega) (by simp; omega) _ rfl ?_; intro g cap w7 hown7 hgrow7 hat7 hlt7)
      have hWX := rowBelow hW (hX wr (.cells #[.int .u8 z] 5)) (Nat.le_refl _)
      have hb7 : Below W.heap.size (wr.alloc (.cells #[.int .u8 z] 5)) w7 := (Below.refl _ _).grown hgrow7 (by simp; omega) (fun _ hj => (own_blk hWX hj).1)
      go_round
      case rel => exact ⟨T.length + 1, by omega, by go_num, (hbl.alloc (by omega) _).trans hb7, by rw [hP.out]; exact OwnB.snoc hown7⟩
      case measure => simp [intOf]; omega
    · obtain rfl : k = p.length := by omega
      rw [List.take_of_length_le (by simp)] at hW
      have hsz := hbl.size
      obtain ⟨wo, rfl⟩ : ∃ wo : World, wo = wr := ⟨_, rfl⟩
      have hW1 := hW
      clear hW
      go_wp2_with fail
      go_loopw [8, 29] (fun vw i wr => ∃ k : Nat, k ≤ q.length ∧ i = .int .i64 k ∧ Below wo.heap.size wo wr ∧ OwnB wo.heap.size wr vw (q.reverse.take k)) (fun _ i _ => (q.length - intOf i).toNat)
      case atStart => exact ⟨0, by omega, rfl, Below.refl _ _, World.ownsRow_nil _ _ _ _⟩
      case round =>
        obtain ⟨k, hk, rfl, hbz, hW⟩ := hrel
        by_cases hlt : k < q.length
        · obtain ⟨bb, off, rfl, hc⟩ := hs2.out (by intro e; rw [e] at hlt; simp at hlt)
          have hck := cell_later (hbl.trans (hbz.mono hsz)) (hc (q.length - 1 - k) (by omega))
          have hP := Lib.hid (take_nextI (rev_at hlt))
          have hPl : (q.reverse.take k).length = k := by simp; omega
          have hidx : (q.length : Int) - 1 - (k : Int) = ((q.length - 1 - k : Nat) : Int) := by omega
          have hlt2 : q.length - 1 - k < q.length := by omega
          have hszz := hbz.size
          clear hc
          generalize q.getD (q.length - 1 - k) 0 = z at *
          generalize q.reverse.take k = T at *
          obtain rfl : T.length = k := hPl
          obtain ⟨sw, cw, rfl⟩ := OwnB.shape hW
          go_wp2_with (refine wpList_append_lies _ rfl (.tmp 32) (.tmp 41) 22 rfl wo.heap.size 5 i5 (.int .u8 0) 1 1 Try.underlying22 HI.out HZ0.out HZ1.out HZ2.out rfl (by omega) _ T.length (T.map fun x : Int => Value.int .u8 x) rfl (rowBelow hW (hX wr _) (Nat.le_refl _)) _ 1 1 [.int .u8 z] rfl rfl (World.news_of_block (cs := #[.int .u8 z]) (heap_alloc_new _ _)) (by simp [Value.oneCell']) (by omega) (by unfold maxLen; omega) (by omega) (by simp; omega) _ rfl ?_; intro g cap w7 hown7 hgrow7 hat7 hlt7)
          have hWX := rowBelow hW (hX wr (.cells #[.int .u8 z] 5)) (Nat.le_refl _)
          have hb7 : Below wo.heap.size (wr.alloc (.cells #[.int .u8 z] 5)) w7 := (Below.refl _ _).grown hgrow7 (by simp; omega) (fun _ hj => (own_blk hWX hj).1)
          go_round
          case rel => exact ⟨T.length + 1, by omega, by go_num, (hbz.alloc (by omega) _).trans hb7, by rw [hP.out]; exact OwnB.snoc hown7⟩
          case measure => simp [intOf]; omega
        · obtain rfl : k = q.length := by omega
          rw [List.take_of_length_le (by simp)] at hW
          go_wp2_with fail
          refine bodyPost_ret (v := .tuple #[_, _]) (by simp [results, Try.results40, go_sem]) rfl ⟨⟨_, _, rfl, rowBelow hW1 hbz (Nat.le_refl _), OwnB.mono hW hsz⟩, hbl.trans (hbz.mono hsz)⟩

end Go.Proofs.Ytbmejpghoafapaa
