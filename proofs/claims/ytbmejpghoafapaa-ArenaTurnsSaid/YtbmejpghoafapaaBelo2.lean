/-
  The walk of (*Arena).below, a function that calls itself and marks what it has seen.
-/
import Derived.Test.YtbmejpghoafapaaBelo
namespace Go.Proofs.Ytbmejpghoafapaa
open Go.RowKit Go.Maps

/-- Block b holds n bools. -/
def bvA (n : Nat) (sn : Nat → Bool) : Array Value := ((List.range n).map fun j => Value.bool (sn j)).toArray
def HoldsB (w : World) (b n : Nat) (sn : Nat → Bool) : Prop := w.heap[b]? = some (.cells (bvA n sn) 4 (0, 0))
theorem bvA_at (n : Nat) (sn : Nat → Bool) (j : Nat) (h : j < n) : (bvA n sn)[j]? = some (.bool (sn j)) := by simp [bvA, h]
theorem bvA_set (n : Nat) (sn : Nat → Bool) (id : Nat) : (bvA n sn).setIfInBounds id (.bool true) = bvA n (mark sn id) := by
  apply Array.ext_getElem?
  intro j
  rw [Array.getElem?_setIfInBounds]
  by_cases hj : id = j
  · subst hj
    rw [if_pos rfl]
    by_cases h : id < n
    · rw [if_pos (by simpa [bvA] using h), bvA_at n _ id h]
      simp [mark]
    · rw [if_neg (by simpa [bvA] using h), Array.getElem?_eq_none (by simp [bvA]; omega)]
  · rw [if_neg hj]
    by_cases h : j < n
    · rw [bvA_at n _ j h, bvA_at n _ j h]
      have : (j == id) = false := by simp; omega
      simp [mark, this]
    · rw [Array.getElem?_eq_none (by simp [bvA]; omega), Array.getElem?_eq_none (by simp [bvA]; omega)]
variable {w w' w1 : World} {b sb n m n0 : Nat} {sn : Nat → Bool} {va : Value} {L : List Nd}
theorem HoldsB.lt (h : HoldsB w b n sn) : b < w.heap.size := (Array.getElem?_eq_some_iff.1 h).1
theorem HoldsB.cell (h : HoldsB w b n sn) {j : Nat} (hj : j < n) : w.cell? ⟨b, j, none⟩ = some (.bool (sn j)) := by
  rw [cell_of_row w b j _ 4 (0, 0) h, bvA_at n sn j hj]
theorem HoldsB.free (h : HoldsB w b n sn) : ∀ i, w.frozen? ⟨b, i, none⟩ = false := fun i => by
  have : w.heap[b]? = some (.cells (bvA n sn) 4 (0, 0)) := h
  simp [World.frozen?, this]
theorem HoldsB.below {k : Nat} (h : HoldsB w b n sn) (hb : Below k w w') (hlt : b < k) : HoldsB w' b n sn := (hb.block b hlt).trans h
theorem HoldsB.kept {row : Option Nat} (h : HoldsB w b n sn) (hg : w.grownBy w' row) (hne : some b ≠ row) : HoldsB w' b n sn := (hg.block b h.lt hne).trans h
theorem HoldsB.mark (h : HoldsB w b n sn) (id : Nat) : HoldsB (w.setCell ⟨b, id, none⟩ (.bool true)) b n (mark sn id) := by
  unfold HoldsB
  rw [heap_setCell_same w b id _ 4 _ h, bvA_set]
theorem grown_trans {row : Option Nat} (h1 : w.grownBy w1 row) (h2 : w1.grownBy w' row) : w.grownBy w' row :=
  ⟨h2.os.trans h1.os, h2.tape.trans h1.tape, h2.output.trans h1.output, Nat.le_trans h1.size h2.size, fun k hk hr => (h2.block k (Nat.lt_of_lt_of_le hk h1.size) hr).trans (h1.block k hk hr)⟩
theorem grown_below {row : Option Nat} (h : Below w.heap.size w w') : w.grownBy w' row := ⟨h.os, h.tape, h.output, h.size, fun k hk _ => h.block k hk⟩
theorem grown_cell (w : World) (b i : Nat) (v : Value) : w.grownBy (w.setCell ⟨b, i, none⟩ v) (some b) :=
  ⟨rfl, rfl, rfl, by simp, fun k _ hk => Below.heap_setCell w _ v k (by simpa using hk)⟩
theorem ne_bools {cur : Array Value} {t : TypeId} {g : Nat} (h : HoldsB w sb n sn) (hg : w.heap[g]? = some (.cells cur t (0, 0))) (ht : t ≠ 4) : g ≠ sb := fun e => by
  have : w.heap[sb]? = some (.cells (bvA n sn) 4 (0, 0)) := h
  rw [e, this] at hg
  simp at hg
  exact ht hg.2.symm
theorem Ar.bools (h : Ar n0 w b m va L) (hB : HoldsB w sb n sn) (hg : w.grownBy w' (some sb)) : Ar n0 w' b m va L :=
  h.keep fun x hx => hg.block x (h.ltv hx).2 (fun e => by
    have e' : x = sb := by simpa using e
    subst e'
    rcases hx with rfl | rfl | hx
    · exact ne_bools hB h.blk (by decide) rfl
    · obtain ⟨es, c, h2⟩ := h.map.blk
      have : w.heap[x]? = some (.cells (bvA n sn) 4 (0, 0)) := hB
      rw [this] at h2
      cases h2
    · obtain ⟨_, _, cur, h1⟩ := own_blk h.own hx
      exact ne_bools hB h1 (by decide) rfl)
theorem Ar.eight (h : Ar n0 w b m va L) {i : Nat} {n : Nd} (hi : L[i]? = some n) : ∃ g cap, va = .slice (some ⟨g, 0, none⟩) L.length cap ∧ Eight w g (i * 8) n := by
  obtain ⟨g, cap, hv, _, _, _, hc⟩ := h.row hi
  exact ⟨g, cap, hv, eight_of hc⟩

theorem bodyPost_end0' {P : Program} {fn : Func} {R : Ending → World → Prop} {a : Act} {w : World} (hr : fn.results = #[]) (hd : a.defers = []) (hR : R (.returned (.tuple #[])) w) : bodyPost P fn R .normal a w :=
  bodyPost_end (results_none hr _ _ _) hd hR

/-- What (*Arena).below does of a part. -/
abbrev Marks (n0 b m : Nat) (va : Value) (sb cap : Nat) (L : List Nd) (c : Nat) : Prop := ∀ (w : World) (sn : Nat → Bool), Ar n0 w b m va L → HoldsB w sb L.length sn → Shut L sn c →
  Calls Try.prog 55 #[.pointer (some ⟨b, 0, none⟩), .int .i64 (c : Int), .slice (some ⟨sb, 0, none⟩) L.length cap] w fun e w' => e = .returned (.tuple #[]) ∧ HoldsB w' sb L.length (sees L sn c) ∧ w.grownBy w' (some sb)
variable {cap id : Nat}
set_option maxRecDepth 100000 in
set_option maxHeartbeats 1000000 in
theorem mark_old (hw : WfN L) (hid : id < L.length) (hB : HoldsB w sb L.length sn) (hS : Shut L sn id) (hs : sn id = true) :
    Calls Try.prog 55 #[.pointer (some ⟨b, 0, none⟩), .int .i64 (id : Int), .slice (some ⟨sb, 0, none⟩) L.length cap] w fun e w' => e = .returned (.tuple #[]) ∧ HoldsB w' sb L.length (sees L sn id) ∧ w.grownBy w' (some sb) := by
  rw [sees_old hw id hS hs]
  have hc := hB.cell hid
  rw [hs] at hc
  clear hS hs
  go_enter Try.func55, Try.ntmps55
  go_wp2_with fail
  exact bodyPost_ret (v := .tuple #[]) (by simp [results, Try.results55, go_sem]) rfl ⟨rfl, hB, grown_below (Below.refl _ _)⟩

set_option maxRecDepth 100000 in
set_option maxHeartbeats 1000000 in
theorem mark_k0 (f : Nat → Bool) (c nb : Int) (g : Bool) (hw : WfN L) (hn : L[id]? = some ⟨0, f, c, nb, g⟩) (hA : Ar n0 w b m va L) (hB : HoldsB w sb L.length sn) (hs : sn id = false) :
    Calls Try.prog 55 #[.pointer (some ⟨b, 0, none⟩), .int .i64 (id : Int), .slice (some ⟨sb, 0, none⟩) L.length cap] w fun e w' => e = .returned (.tuple #[]) ∧ HoldsB w' sb L.length (sees L sn id) ∧ w.grownBy w' (some sb) := by
  have hid := (List.getElem?_eq_some_iff.1 hn).1
  have hcell := hB.cell hid
  rw [hs] at hcell
  have hfz := hB.free
  have hB1 := hB.mark id
  have hg1 := grown_cell w sb id (.bool true)
  have hA1 := hA.bools hB hg1
  obtain ⟨gb, gcap, rfl, hE⟩ := hA1.eight hn
  have c0 := hA1.c0
  obtain ⟨e0, e1, e2, e3, e4, e5, e6, e7⟩ := hE
  simp only at e0 e1 e2 e3 e4 e5 e6 e7
  have HE := Lib.hid (sees_none hw hn (sn := sn) (kids_none (by omega) f c nb g))
  have hlt := hB1.lt
  replace hA1 := Lib.hid hA1
  replace hB1 := Lib.hid hB1
  clear hs hn hA hB
  go_enter Try.func55, Try.ntmps55
  go_wp2_with fail
  have hb4 := Below.alloc (Below.refl (w.setCell ⟨sb, id, none⟩ (.bool true)).heap.size (w.setCell ⟨sb, id, none⟩ (.bool true))) (Nat.le_refl _) (.cells #[.int .i64 0, .int .u64 (wd f 0), .int .u64 (wd f 1), .int .u64 (wd f 2), .int .u64 (wd f 3), .int .i64 c, .int .i64 nb, .bool g] 56)
  have hB4 := hB1.out.below hb4 hlt
  have hg4' := grown_trans hg1 (grown_below (row := some sb) hb4)
  exact bodyPost_end0' rfl rfl ⟨rfl, by rw [HE.out]; exact hB4, hg4'⟩

set_option maxRecDepth 100000 in
set_option maxHeartbeats 1000000 in
theorem mark_k1 (f : Nat → Bool) (c nb : Int) (g : Bool) (hw : WfN L) (hn : L[id]? = some ⟨1, f, c, nb, g⟩) (hA : Ar n0 w b m va L) (hB : HoldsB w sb L.length sn) (hs : sn id = false) :
    Calls Try.prog 55 #[.pointer (some ⟨b, 0, none⟩), .int .i64 (id : Int), .slice (some ⟨sb, 0, none⟩) L.length cap] w fun e w' => e = .returned (.tuple #[]) ∧ HoldsB w' sb L.length (sees L sn id) ∧ w.grownBy w' (some sb) := by
  have hid := (List.getElem?_eq_some_iff.1 hn).1
  have hcell := hB.cell hid
  rw [hs] at hcell
  have hfz := hB.free
  have hB1 := hB.mark id
  have hg1 := grown_cell w sb id (.bool true)
  have hA1 := hA.bools hB hg1
  obtain ⟨gb, gcap, rfl, hE⟩ := hA1.eight hn
  have c0 := hA1.c0
  obtain ⟨e0, e1, e2, e3, e4, e5, e6, e7⟩ := hE
  simp only at e0 e1 e2 e3 e4 e5 e6 e7
  have HE := Lib.hid (sees_none hw hn (sn := sn) (kids_none (by omega) f c nb g))
  have hlt := hB1.lt
  replace hA1 := Lib.hid hA1
  replace hB1 := Lib.hid hB1
  clear hs hn hA hB
  go_enter Try.func55, Try.ntmps55
  go_wp2_with fail
  have hb4 := Below.alloc (Below.refl (w.setCell ⟨sb, id, none⟩ (.bool true)).heap.size (w.setCell ⟨sb, id, none⟩ (.bool true))) (Nat.le_refl _) (.cells #[.int .i64 1, .int .u64 (wd f 0), .int .u64 (wd f 1), .int .u64 (wd f 2), .int .u64 (wd f 3), .int .i64 c, .int .i64 nb, .bool g] 56)
  have hB4 := hB1.out.below hb4 hlt
  have hg4' := grown_trans hg1 (grown_below (row := some sb) hb4)
  exact bodyPost_end0' rfl rfl ⟨rfl, by rw [HE.out]; exact hB4, hg4'⟩

set_option maxRecDepth 100000 in
set_option maxHeartbeats 1000000 in
theorem mark_k2 (f : Nat → Bool) (c nb : Int) (g : Bool) (hw : WfN L) (hn : L[id]? = some ⟨2, f, c, nb, g⟩) (hA : Ar n0 w b m va L) (hB : HoldsB w sb L.length sn) (hs : sn id = false) :
    Calls Try.prog 55 #[.pointer (some ⟨b, 0, none⟩), .int .i64 (id : Int), .slice (some ⟨sb, 0, none⟩) L.length cap] w fun e w' => e = .returned (.tuple #[]) ∧ HoldsB w' sb L.length (sees L sn id) ∧ w.grownBy w' (some sb) := by
  have hid := (List.getElem?_eq_some_iff.1 hn).1
  have hcell := hB.cell hid
  rw [hs] at hcell
  have hfz := hB.free
  have hB1 := hB.mark id
  have hg1 := grown_cell w sb id (.bool true)
  have hA1 := hA.bools hB hg1
  obtain ⟨gb, gcap, rfl, hE⟩ := hA1.eight hn
  have c0 := hA1.c0
  obtain ⟨e0, e1, e2, e3, e4, e5, e6, e7⟩ := hE
  simp only at e0 e1 e2 e3 e4 e5 e6 e7
  have HE := Lib.hid (sees_none hw hn (sn := sn) (kids_none (by omega) f c nb g))
  have hlt := hB1.lt
  replace hA1 := Lib.hid hA1
  replace hB1 := Lib.hid hB1
  clear hs hn hA hB
  go_enter Try.func55, Try.ntmps55
  go_wp2_with fail
  have hb4 := Below.alloc (Below.refl (w.setCell ⟨sb, id, none⟩ (.bool true)).heap.size (w.setCell ⟨sb, id, none⟩ (.bool true))) (Nat.le_refl _) (.cells #[.int .i64 2, .int .u64 (wd f 0), .int .u64 (wd f 1), .int .u64 (wd f 2), .int .u64 (wd f 3), .int .i64 c, .int .i64 nb, .bool g] 56)
  have hB4 := hB1.out.below hb4 hlt
  have hg4' := grown_trans hg1 (grown_below (row := some sb) hb4)
  exact bodyPost_end0' rfl rfl ⟨rfl, by rw [HE.out]; exact hB4, hg4'⟩

set_option maxRecDepth 100000 in
set_option maxHeartbeats 1000000 in
theorem mark_k8 (f : Nat → Bool) (c nb : Int) (g : Bool) (hw : WfN L) (hn : L[id]? = some ⟨8, f, c, nb, g⟩) (hA : Ar n0 w b m va L) (hB : HoldsB w sb L.length sn) (hs : sn id = false) :
    Calls Try.prog 55 #[.pointer (some ⟨b, 0, none⟩), .int .i64 (id : Int), .slice (some ⟨sb, 0, none⟩) L.length cap] w fun e w' => e = .returned (.tuple #[]) ∧ HoldsB w' sb L.length (sees L sn id) ∧ w.grownBy w' (some sb) := by
  have hid := (List.getElem?_eq_some_iff.1 hn).1
  have hcell := hB.cell hid
  rw [hs] at hcell
  have hfz := hB.free
  have hB1 := hB.mark id
  have hg1 := grown_cell w sb id (.bool true)
  have hA1 := hA.bools hB hg1
  obtain ⟨gb, gcap, rfl, hE⟩ := hA1.eight hn
  have c0 := hA1.c0
  obtain ⟨e0, e1, e2, e3, e4, e5, e6, e7⟩ := hE
  simp only at e0 e1 e2 e3 e4 e5 e6 e7
  have HE := Lib.hid (sees_none hw hn (sn := sn) (kids_none (by omega) f c nb g))
  have hlt := hB1.lt
  replace hA1 := Lib.hid hA1
  replace hB1 := Lib.hid hB1
  clear hs hn hA hB
  go_enter Try.func55, Try.ntmps55
  go_wp2_with fail
  have hb4 := Below.alloc (Below.refl (w.setCell ⟨sb, id, none⟩ (.bool true)).heap.size (w.setCell ⟨sb, id, none⟩ (.bool true))) (Nat.le_refl _) (.cells #[.int .i64 8, .int .u64 (wd f 0), .int .u64 (wd f 1), .int .u64 (wd f 2), .int .u64 (wd f 3), .int .i64 c, .int .i64 nb, .bool g] 56)
  have hB4 := hB1.out.below hb4 hlt
  have hg4' := grown_trans hg1 (grown_below (row := some sb) hb4)
  exact bodyPost_end0' rfl rfl ⟨rfl, by rw [HE.out]; exact hB4, hg4'⟩

set_option maxRecDepth 100000 in
set_option maxHeartbeats 1000000 in
theorem mark_k6 (f : Nat → Bool) (c : Nat) (nb : Int) (g : Bool) (hw : WfN L) (hn : L[id]? = some ⟨6, f, (c : Int), nb, g⟩) (hA : Ar n0 w b m va L) (hB : HoldsB w sb L.length sn) (hS : Shut L sn id) (hs : sn id = false) (hcl : c < id) (hc : Marks n0 b m va sb cap L c) :
    Calls Try.prog 55 #[.pointer (some ⟨b, 0, none⟩), .int .i64 (id : Int), .slice (some ⟨sb, 0, none⟩) L.length cap] w fun e w' => e = .returned (.tuple #[]) ∧ HoldsB w' sb L.length (sees L sn id) ∧ w.grownBy w' (some sb) := by
  have hid := (List.getElem?_eq_some_iff.1 hn).1
  have hcell := hB.cell hid
  rw [hs] at hcell
  have hfz := hB.free
  have hB1 := hB.mark id
  have hg1 := grown_cell w sb id (.bool true)
  have hA1 := hA.bools hB hg1
  obtain ⟨gb, gcap, rfl, hE⟩ := hA1.eight hn
  have c0 := hA1.c0
  obtain ⟨e0, e1, e2, e3, e4, e5, e6, e7⟩ := hE
  simp only at e0 e1 e2 e3 e4 e5 e6 e7
  have HE := Lib.hid (sees_one hw hn (sn := sn) (kids_one (by omega) f c nb g))
  have hSc := Lib.hid (shut_mark hS hcl)
  have hlt := hB1.lt
  replace hA1 := Lib.hid hA1
  replace hB1 := Lib.hid hB1
  clear hS hs hn hA hB
  replace hc := Lib.hid hc
  go_enter Try.func55, Try.ntmps55
  go_wp2_with fail
  have hb4 := Below.alloc (Below.refl (w.setCell ⟨sb, id, none⟩ (.bool true)).heap.size (w.setCell ⟨sb, id, none⟩ (.bool true))) (Nat.le_refl _) (.cells #[.int .i64 6, .int .u64 (wd f 0), .int .u64 (wd f 1), .int .u64 (wd f 2), .int .u64 (wd f 3), .int .i64 (c : Int), .int .i64 nb, .bool g] 56)
  have hB4 := hB1.out.below hb4 hlt
  have hg4' := grown_trans hg1 (grown_below (row := some sb) hb4)
  have hA4 := hA1.out.below hb4 (Nat.le_refl _)
  refine (hc.out _ _ hA4 hB4 hSc.out).mono ?_
  rintro e w5 ⟨rfl, hB5, hg5⟩
  have hg5' := grown_trans hg4' hg5
  go_wp2_with fail
  exact bodyPost_end0' rfl rfl ⟨rfl, by rw [HE.out]; exact hB5, hg5'⟩

set_option maxRecDepth 100000 in
set_option maxHeartbeats 1000000 in
theorem mark_k7 (f : Nat → Bool) (c : Nat) (nb : Int) (g : Bool) (hw : WfN L) (hn : L[id]? = some ⟨7, f, (c : Int), nb, g⟩) (hA : Ar n0 w b m va L) (hB : HoldsB w sb L.length sn) (hS : Shut L sn id) (hs : sn id = false) (hcl : c < id) (hc : Marks n0 b m va sb cap L c) :
    Calls Try.prog 55 #[.pointer (some ⟨b, 0, none⟩), .int .i64 (id : Int), .slice (some ⟨sb, 0, none⟩) L.length cap] w fun e w' => e = .returned (.tuple #[]) ∧ HoldsB w' sb L.length (sees L sn id) ∧ w.grownBy w' (some sb) := by
  have hid := (List.getElem?_eq_some_iff.1 hn).1
  have hcell := hB.cell hid
  rw [hs] at hcell
  have hfz := hB.free
  have hB1 := hB.mark id
  have hg1 := grown_cell w sb id (.bool true)
  have hA1 := hA.bools hB hg1
  obtain ⟨gb, gcap, rfl, hE⟩ := hA1.eight hn
  have c0 := hA1.c0
  obtain ⟨e0, e1, e2, e3, e4, e5, e6, e7⟩ := hE
  simp only at e0 e1 e2 e3 e4 e5 e6 e7
  have HE := Lib.hid (sees_one hw hn (sn := sn) (kids_one (by omega) f c nb g))
  have hSc := Lib.hid (shut_mark hS hcl)
  have hlt := hB1.lt
  replace hA1 := Lib.hid hA1
  replace hB1 := Lib.hid hB1
  clear hS hs hn hA hB
  replace hc := Lib.hid hc
  go_enter Try.func55, Try.ntmps55
  go_wp2_with fail
  have hb4 := Below.alloc (Below.refl (w.setCell ⟨sb, id, none⟩ (.bool true)).heap.size (w.setCell ⟨sb, id, none⟩ (.bool true))) (Nat.le_refl _) (.cells #[.int .i64 7, .int .u64 (wd f 0), .int .u64 (wd f 1), .int .u64 (wd f 2), .int .u64 (wd f 3), .int .i64 (c : Int), .int .i64 nb, .bool g] 56)
  have hB4 := hB1.out.below hb4 hlt
  have hg4' := grown_trans hg1 (grown_below (row := some sb) hb4)
  have hA4 := hA1.out.below hb4 (Nat.le_refl _)
  refine (hc.out _ _ hA4 hB4 hSc.out).mono ?_
  rintro e w5 ⟨rfl, hB5, hg5⟩
  have hg5' := grown_trans hg4' hg5
  go_wp2_with fail
  exact bodyPost_end0' rfl rfl ⟨rfl, by rw [HE.out]; exact hB5, hg5'⟩

set_option maxRecDepth 100000 in
set_option maxHeartbeats 1000000 in
theorem mark_k3 (f : Nat → Bool) (c d : Nat) (g : Bool) (hw : WfN L) (hn : L[id]? = some ⟨3, f, (c : Int), (d : Int), g⟩) (hA : Ar n0 w b m va L) (hB : HoldsB w sb L.length sn) (hS : Shut L sn id) (hs : sn id = false) (hcl : c < id) (hdl : d < id) (hc : Marks n0 b m va sb cap L c) (hd : Marks n0 b m va sb cap L d) :
    Calls Try.prog 55 #[.pointer (some ⟨b, 0, none⟩), .int .i64 (id : Int), .slice (some ⟨sb, 0, none⟩) L.length cap] w fun e w' => e = .returned (.tuple #[]) ∧ HoldsB w' sb L.length (sees L sn id) ∧ w.grownBy w' (some sb) := by
  have hid := (List.getElem?_eq_some_iff.1 hn).1
  have hcell := hB.cell hid
  rw [hs] at hcell
  have hfz := hB.free
  have hB1 := hB.mark id
  have hg1 := grown_cell w sb id (.bool true)
  have hA1 := hA.bools hB hg1
  obtain ⟨gb, gcap, rfl, hE⟩ := hA1.eight hn
  have c0 := hA1.c0
  obtain ⟨e0, e1, e2, e3, e4, e5, e6, e7⟩ := hE
  simp only at e0 e1 e2 e3 e4 e5 e6 e7
  have HE := Lib.hid (sees_two hw hn (sn := sn) (kids_two (by omega) f c d g))
  have hSc := Lib.hid (shut_mark hS hcl)
  have hSd := Lib.hid (shut_sees (c := c) hw (shut_mark hS hdl))
  have hlt := hB1.lt
  replace hA1 := Lib.hid hA1
  replace hB1 := Lib.hid hB1
  clear hS hs hn hA hB
  replace hc := Lib.hid hc
  replace hd := Lib.hid hd
  go_enter Try.func55, Try.ntmps55
  go_wp2_with fail
  have hb4 := Below.alloc (Below.refl (w.setCell ⟨sb, id, none⟩ (.bool true)).heap.size (w.setCell ⟨sb, id, none⟩ (.bool true))) (Nat.le_refl _) (.cells #[.int .i64 3, .int .u64 (wd f 0), .int .u64 (wd f 1), .int .u64 (wd f 2), .int .u64 (wd f 3), .int .i64 (c : Int), .int .i64 (d : Int), .bool g] 56)
  have hB4 := hB1.out.below hb4 hlt
  have hg4' := grown_trans hg1 (grown_below (row := some sb) hb4)
  have hN4 := HoldsN.made (w.setCell ⟨sb, id, none⟩ (.bool true)) #[.int .i64 3, .int .u64 (wd f 0), .int .u64 (wd f 1), .int .u64 (wd f 2), .int .u64 (wd f 3), .int .i64 (c : Int), .int .i64 (d : Int), .bool g] (b := w.heap.size) (by simp)
  have hA4 := hA1.out.below hb4 (Nat.le_refl _)
  refine (hc.out _ _ hA4 hB4 hSc.out).mono ?_
  rintro e w5 ⟨rfl, hB5, hg5⟩
  have hg5' := grown_trans hg4' hg5
  have hA5 := hA4.bools hB4 hg5
  clear e0 e1 e2 e3 e4 e5 e6 e7 c0
  have hne : w.heap.size ≠ sb := by have := hlt; simp at this; omega
  obtain ⟨q0, q1, q2, q3, q4, q5, q6, q7⟩ := (HoldsN.kept hN4 hg5 (by simpa using hne)).cells
  go_wp2_with fail
  refine (hd.out _ _ hA5 hB5 hSd.out).mono ?_
  rintro e w6 ⟨rfl, hB6, hg6⟩
  go_wp2_with fail
  exact bodyPost_end0' rfl rfl ⟨rfl, by rw [HE.out]; exact hB6, grown_trans hg5' hg6⟩

set_option maxRecDepth 100000 in
set_option maxHeartbeats 1000000 in
theorem mark_k4 (f : Nat → Bool) (c d : Nat) (g : Bool) (hw : WfN L) (hn : L[id]? = some ⟨4, f, (c : Int), (d : Int), g⟩) (hA : Ar n0 w b m va L) (hB : HoldsB w sb L.length sn) (hS : Shut L sn id) (hs : sn id = false) (hcl : c < id) (hdl : d < id) (hc : Marks n0 b m va sb cap L c) (hd : Marks n0 b m va sb cap L d) :
    Calls Try.prog 55 #[.pointer (some ⟨b, 0, none⟩), .int .i64 (id : Int), .slice (some ⟨sb, 0, none⟩) L.length cap] w fun e w' => e = .returned (.tuple #[]) ∧ HoldsB w' sb L.length (sees L sn id) ∧ w.grownBy w' (some sb) := by
  have hid := (List.getElem?_eq_some_iff.1 hn).1
  have hcell := hB.cell hid
  rw [hs] at hcell
  have hfz := hB.free
  have hB1 := hB.mark id
  have hg1 := grown_cell w sb id (.bool true)
  have hA1 := hA.bools hB hg1
  obtain ⟨gb, gcap, rfl, hE⟩ := hA1.eight hn
  have c0 := hA1.c0
  obtain ⟨e0, e1, e2, e3, e4, e5, e6, e7⟩ := hE
  simp only at e0 e1 e2 e3 e4 e5 e6 e7
  have HE := Lib.hid (sees_two hw hn (sn := sn) (kids_two (by omega) f c d g))
  have hSc := Lib.hid (shut_mark hS hcl)
  have hSd := Lib.hid (shut_sees (c := c) hw (shut_mark hS hdl))
  have hlt := hB1.lt
  replace hA1 := Lib.hid hA1
  replace hB1 := Lib.hid hB1
  clear hS hs hn hA hB
  replace hc := Lib.hid hc
  replace hd := Lib.hid hd
  go_enter Try.func55, Try.ntmps55
  go_wp2_with fail
  have hb4 := Below.alloc (Below.refl (w.setCell ⟨sb, id, none⟩ (.bool true)).heap.size (w.setCell ⟨sb, id, none⟩ (.bool true))) (Nat.le_refl _) (.cells #[.int .i64 4, .int .u64 (wd f 0), .int .u64 (wd f 1), .int .u64 (wd f 2), .int .u64 (wd f 3), .int .i64 (c : Int), .int .i64 (d : Int), .bool g] 56)
  have hB4 := hB1.out.below hb4 hlt
  have hg4' := grown_trans hg1 (grown_below (row := some sb) hb4)
  have hN4 := HoldsN.made (w.setCell ⟨sb, id, none⟩ (.bool true)) #[.int .i64 4, .int .u64 (wd f 0), .int .u64 (wd f 1), .int .u64 (wd f 2), .int .u64 (wd f 3), .int .i64 (c : Int), .int .i64 (d : Int), .bool g] (b := w.heap.size) (by simp)
  have hA4 := hA1.out.below hb4 (Nat.le_refl _)
  refine (hc.out _ _ hA4 hB4 hSc.out).mono ?_
  rintro e w5 ⟨rfl, hB5, hg5⟩
  have hg5' := grown_trans hg4' hg5
  have hA5 := hA4.bools hB4 hg5
  clear e0 e1 e2 e3 e4 e5 e6 e7 c0
  have hne : w.heap.size ≠ sb := by have := hlt; simp at this; omega
  obtain ⟨q0, q1, q2, q3, q4, q5, q6, q7⟩ := (HoldsN.kept hN4 hg5 (by simpa using hne)).cells
  go_wp2_with fail
  refine (hd.out _ _ hA5 hB5 hSd.out).mono ?_
  rintro e w6 ⟨rfl, hB6, hg6⟩
  go_wp2_with fail
  exact bodyPost_end0' rfl rfl ⟨rfl, by rw [HE.out]; exact hB6, grown_trans hg5' hg6⟩

set_option maxRecDepth 100000 in
set_option maxHeartbeats 1000000 in
theorem mark_k5 (f : Nat → Bool) (c d : Nat) (g : Bool) (hw : WfN L) (hn : L[id]? = some ⟨5, f, (c : Int), (d : Int), g⟩) (hA : Ar n0 w b m va L) (hB : HoldsB w sb L.length sn) (hS : Shut L sn id) (hs : sn id = false) (hcl : c < id) (hdl : d < id) (hc : Marks n0 b m va sb cap L c) (hd : Marks n0 b m va sb cap L d) :
    Calls Try.prog 55 #[.pointer (some ⟨b, 0, none⟩), .int .i64 (id : Int), .slice (some ⟨sb, 0, none⟩) L.length cap] w fun e w' => e = .returned (.tuple #[]) ∧ HoldsB w' sb L.length (sees L sn id) ∧ w.grownBy w' (some sb) := by
  have hid := (List.getElem?_eq_some_iff.1 hn).1
  have hcell := hB.cell hid
  rw [hs] at hcell
  have hfz := hB.free
  have hB1 := hB.mark id
  have hg1 := grown_cell w sb id (.bool true)
  have hA1 := hA.bools hB hg1
  obtain ⟨gb, gcap, rfl, hE⟩ := hA1.eight hn
  have c0 := hA1.c0
  obtain ⟨e0, e1, e2, e3, e4, e5, e6, e7⟩ := hE
  simp only at e0 e1 e2 e3 e4 e5 e6 e7
  have HE := Lib.hid (sees_two hw hn (sn := sn) (kids_two (by omega) f c d g))
  have hSc := Lib.hid (shut_mark hS hcl)
  have hSd := Lib.hid (shut_sees (c := c) hw (shut_mark hS hdl))
  have hlt := hB1.lt
  replace hA1 := Lib.hid hA1
  replace hB1 := Lib.hid hB1
  clear hS hs hn hA hB
  replace hc := Lib.hid hc
  replace hd := Lib.hid hd
  go_enter Try.func55, Try.ntmps55
  go_wp2_with fail
  have hb4 := Below.alloc (Below.refl (w.setCell ⟨sb, id, none⟩ (.bool true)).heap.size (w.setCell ⟨sb, id, none⟩ (.bool true))) (Nat.le_refl _) (.cells #[.int .i64 5, .int .u64 (wd f 0), .int .u64 (wd f 1), .int .u64 (wd f 2), .int .u64 (wd f 3), .int .i64 (c : Int), .int .i64 (d : Int), .bool g] 56)
  have hB4 := hB1.out.below hb4 hlt
  have hg4' := grown_trans hg1 (grown_below (row := some sb) hb4)
  have hN4 := HoldsN.made (w.setCell ⟨sb, id, none⟩ (.bool true)) #[.int .i64 5, .int .u64 (wd f 0), .int .u64 (wd f 1), .int .u64 (wd f 2), .int .u64 (wd f 3), .int .i64 (c : Int), .int .i64 (d : Int), .bool g] (b := w.heap.size) (by simp)
  have hA4 := hA1.out.below hb4 (Nat.le_refl _)
  refine (hc.out _ _ hA4 hB4 hSc.out).mono ?_
  rintro e w5 ⟨rfl, hB5, hg5⟩
  have hg5' := grown_trans hg4' hg5
  have hA5 := hA4.bools hB4 hg5
  clear e0 e1 e2 e3 e4 e5 e6 e7 c0
  have hne : w.heap.size ≠ sb := by have := hlt; simp at this; omega
  obtain ⟨q0, q1, q2, q3, q4, q5, q6, q7⟩ := (HoldsN.kept hN4 hg5 (by simpa using hne)).cells
  go_wp2_with fail
  refine (hd.out _ _ hA5 hB5 hSd.out).mono ?_
  rintro e w6 ⟨rfl, hB6, hg6⟩
  go_wp2_with fail
  exact bodyPost_end0' rfl rfl ⟨rfl, by rw [HE.out]; exact hB6, grown_trans hg5' hg6⟩

theorem mark_any (hw : WfN L) : ∀ id, id < L.length → Marks n0 b m va sb cap L id := by
  intro id
  induction id using Nat.strongRecOn with
  | _ id ih =>
    intro hid w sn hA hB hS
    cases hs : sn id
    · obtain ⟨n, hn⟩ : ∃ n, L[id]? = some n := ⟨L[id], List.getElem?_eq_getElem hid⟩
      have hok := hw id n hn
      have hkd := ok_kind hok
      obtain ⟨kd, f, na, nb, g⟩ := n
      simp only at hkd
      have hK : (3 ≤ kd ∧ kd ≤ 5) ∨ (kd = 6 ∨ kd = 7) ∨ ¬ (3 ≤ kd ∧ kd ≤ 7) := by omega
      rcases hK with hk | hk | hk
      · obtain ⟨⟨h1, h2⟩, h3, h4⟩ := ok_two hok hk
        simp only at h1 h2 h3 h4
        obtain ⟨c, rfl⟩ := Int.eq_ofNat_of_zero_le h1
        obtain ⟨d, rfl⟩ := Int.eq_ofNat_of_zero_le h3
        have hcl : c < id := by omega
        have hdl : d < id := by omega
        have hc := ih c hcl (by omega)
        have hd := ih d hdl (by omega)
        have hkk : kd = 3 ∨ kd = 4 ∨ kd = 5 := by omega
        rcases hkk with rfl | rfl | rfl
        · exact mark_k3 f c d g hw hn hA hB hS hs hcl hdl hc hd
        · exact mark_k4 f c d g hw hn hA hB hS hs hcl hdl hc hd
        · exact mark_k5 f c d g hw hn hA hB hS hs hcl hdl hc hd
      · obtain ⟨h1, h2⟩ := ok_one hok hk
        simp only at h1 h2
        obtain ⟨c, rfl⟩ := Int.eq_ofNat_of_zero_le h1
        have hcl : c < id := by omega
        have hc := ih c hcl (by omega)
        rcases hk with rfl | rfl
        · exact mark_k6 f c nb g hw hn hA hB hS hs hcl hc
        · exact mark_k7 f c nb g hw hn hA hB hS hs hcl hc
      · have hK : kd = 0 ∨ kd = 1 ∨ kd = 2 ∨ kd = 8 := by omega
        rcases hK with rfl | rfl | rfl | rfl
        · exact mark_k0 f na nb g hw hn hA hB hs
        · exact mark_k1 f na nb g hw hn hA hB hs
        · exact mark_k2 f na nb g hw hn hA hB hs
        · exact mark_k8 f na nb g hw hn hA hB hs
    · exact mark_old hw hid hB hS hs

end Go.Proofs.Ytbmejpghoafapaa
