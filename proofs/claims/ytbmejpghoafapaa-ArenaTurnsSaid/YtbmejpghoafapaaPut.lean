/-
  The walk of (*Arena).Put.
-/
import Derived.Test.YtbmejpghoafapaaArena2
import Derived.Deep.RegionLaw
namespace Go.Proofs.Ytbmejpghoafapaa
open Go.RowKit Go.Maps

variable {n0 b m : Nat} {w w' w1 : World} {v : Value} {L : List Nd}

/-- The arena's block and map, behind the append. -/
theorem put_mid (h : Ar n0 w1 b m v L) {X w2 : World} (hg : X.grownBy w2 v.ownBlock) (hX : Below w1.heap.size w1 X) :
    w2.heap[b]? = some (.cells #[v, .map (some m)] 77 (0, 0)) ∧ KSeq Try.prog 56 3 .i64 w2 m (L.map Nd.v) := by
  have h1 := h.below hX (Nat.le_refl _)
  exact ⟨(hg.block b h1.lt h1.neb).trans h1.blk, h1.map.keep (hg.block m h1.ltm h1.nem)⟩

/-- The arena behind Put of a new node. -/
theorem put_end (h : Ar n0 w1 b m v L) {X w2 w5 : World} {g cap : Nat} {n : Nd} (hok : n.ok) (hnew : n.key ∉ L.map Nd.key) (hg : X.grownBy w2 v.ownBlock) (hX : Below w1.heap.size w1 X)
    (hown : w2.ownsRow n0 56 8 (.slice (some ⟨g, 0, none⟩) (L.length + 1) cap) (L.length + 1) (L.flatMap Nd.cells ++ n.cells)) (hat : v.ownBlock = some g ∨ g = X.heap.size) (hlt : g < w2.heap.size)
    (u : Wk (w2.setCell ⟨b, 0, none⟩ (.slice (some ⟨g, 0, none⟩) (L.length + 1) cap)).heap.size (w2.setCell ⟨b, 0, none⟩ (.slice (some ⟨g, 0, none⟩) (L.length + 1) cap))) (hg5 : u.val.grownBy w5 (some m)) (hM5 : KSeq Try.prog 56 3 .i64 w5 m (L.map Nd.v ++ [n.v])) :
    Ar n0 w5 b m (.slice (some ⟨g, 0, none⟩) (L.length + 1) cap) (L ++ [n]) ∧ (v.ownBlock = some g ∨ w1.heap.size ≤ g) ∧ (n0 ≤ w1.heap.size → Below n0 w1 w5) ∧ Only w1 w5 b m v := by
  obtain ⟨hb2, hM2⟩ := put_mid h hg hX
  have hX1 := h.below hX (Nat.le_refl _)
  have hs1 := hX.size
  have hs2 := hg.size
  have hs3 : w2.heap.size ≤ u.val.heap.size := Nat.le_trans (Nat.le_of_eq (World.size_setCell _ _ _).symm) u.ok.size
  have hs5 := hg5.size
  have hgb : g ≠ b := fun e => by
    obtain ⟨_, _, cur, h1⟩ := own_blk hown (g := g) rfl
    rw [e, hb2] at h1
    simp at h1
  have hgm : g ≠ m := fun e => by
    obtain ⟨_, _, cur, h1⟩ := own_blk hown (g := g) rfl
    obtain ⟨es, c, h2⟩ := hM2.blk
    rw [e, h2] at h1
    cases h1
  have hbl := h.lt
  have hml := h.ltm
  have hne := h.ne
  have hu : ∀ x, x < w2.heap.size → u.val.heap[x]? = (w2.setCell ⟨b, 0, none⟩ (.slice (some ⟨g, 0, none⟩) (L.length + 1) cap)).heap[x]? := fun x hx => u.ok.block x (by rw [World.size_setCell]; exact hx)
  have h25 : ∀ x, x < w2.heap.size → x ≠ b → x ≠ m → w5.heap[x]? = w2.heap[x]? := fun x hx hxb hxm => by
    rw [hg5.block x (by omega) (by simpa using hxm), hu x hx, Below.heap_setCell _ _ _ _ hxb]
  refine ⟨⟨?_, ?_, by simpa using hM5, h.lo, h.lom, ?_, ?_⟩, ?_, ?_, ?_⟩
  · rw [hg5.block b (by omega) (by simpa using hne), hu b (by omega), heap_setCell_same w2 b 0 _ 77 _ hb2]
    simp
  · have := ownsRow_keep (w' := w5) hown (fun x hx => by
      obtain rfl : g = x := by simpa [Value.ownBlock] using hx
      exact h25 g hlt hgb hgm)
    simpa using this
  · intro x hx
    rcases List.mem_append.1 hx with hx | hx
    · exact h.ok x hx
    · obtain rfl : x = n := by simpa using hx
      exact hok
  · rw [List.map_append, List.nodup_append]
    refine ⟨h.nd, by simp, ?_⟩
    intro x hx y hy
    obtain rfl : y = n.key := by simpa using hy
    exact fun e => hnew (e ▸ hx)
  · rcases hat with hat | hat
    · exact .inl hat
    · exact .inr (by omega)
  · intro hn0
    refine ⟨?_, ?_, ?_, by omega, ?_⟩
    · rw [hg5.os, u.ok.os]; exact hg.os.trans hX.os
    · rw [hg5.tape, u.ok.tape]; exact hg.tape.trans hX.tape
    · rw [hg5.output, u.ok.output]; exact hg.output.trans hX.output
    · intro x hx
      have hxb : x ≠ b := by have := h.lo; omega
      have hxm : x ≠ m := by have := h.lom; omega
      rw [h25 x (by omega) hxb hxm, hg.block x (by omega) (fun e => by have := (own_blk h.own e.symm).1; omega), hX.block x (by omega)]
  · intro x hx hxb hxm hxv
    rw [h25 x (by omega) hxb hxm, hg.block x (by omega) hxv, hX.block x hx]

theorem wf_len {n : Nat} (h : n < 20000) : (Lit.int .i64 (n : Int)).wf = true := by
  simp [Lit.wf, IntKind.min, IntKind.max, IntKind.signed, IntKind.bits]
  omega
theorem grown_src {X w2 w0 : World} {row : Option Nat} {n : Nat} (_hg : X.grownBy w2 row) (h : Below n w0 X) : Below n w0 X := h
theorem put_key {X w2 : World} {p : Nat} {cs : Array Value} (hN : HoldsN w1 p cs) (hg : X.grownBy w2 v.ownBlock) (hX : Below w1.heap.size w1 X) (hp : some p ≠ v.ownBlock) (hb : p ≠ b) (x : Value) : HoldsN (w2.setCell ⟨b, 0, none⟩ x) p cs :=
  (HoldsN.other ((hN.below hX hN.lt).kept hg hp) (by exact hb) x)

theorem Try.info56 : (Try.prog.info? 56).map (fun i => (i.zero, i.size, i.bytes)) = some (some nv0, 8, 64) := by kernel_rfl

set_option maxRecDepth 100000 in
set_option maxHeartbeats 1000000 in
theorem put_nil (n : Nd) (w : World) : Calls Try.prog 33 #[.pointer none, n.v] w fun e w' => e = .returned (.tuple #[.int .i64 0, .int .i64 1]) ∧ Below w.heap.size w w' := by
  go_enter Try.func33, Try.ntmps33
  go_wp2_with fail
  exact bodyPost_ret (v := .tuple #[.int .i64 0, .int .i64 1]) (by simp [results, Try.results33, go_sem]) rfl ⟨rfl, (by repeat (first | exact Below.refl _ _ | assumption | refine Below.drew ?_ | refine below_drewN' ?_ _ | refine Below.setCell ?_ (by first | omega | (simp; done) | (simp; omega)) _ | refine Below.alloc ?_ (by first | omega | (simp; done) | (simp; omega)) _ | refine Below.trans ?_ (Below.mono (by assumption) (by first | omega | (simp; done) | (simp; omega)))))⟩

set_option maxRecDepth 100000 in
set_option maxHeartbeats 1000000 in
theorem put_bad (h : Ar n0 w b m v L) (n : Nd) (hr : okN L.length n.kind n.f n.a n.b n.neg = false) : Calls Try.prog 33 #[.pointer (some ⟨b, 0, none⟩), n.v] w fun e w' => e = .returned (.tuple #[.int .i64 0, .int .i64 1]) ∧ Below w.heap.size w w' := by
  have HR := Lib.hid hr
  clear hr
  have c0 : ∀ o : Obj, (w.alloc o).cell? ⟨b, 0, none⟩ = some v := fun o => (World.cell?_alloc_past _ _ _ h.lt).trans h.c0
  obtain ⟨sv, cap, hv⟩ := h.shape
  rw [hv] at c0
  clear h hv
  go_enter Try.func33, Try.ntmps33
  go_wp2_with (go_at_call 46; refine (right_any _ _ _ _ _ _ _ _ _ _ (c0 _)).mono ?_; rintro e w1 ⟨rfl, hb1⟩; rw [HR.out])
  have hs1 := hb1.size
  simp at hs1
  exact bodyPost_ret (v := .tuple #[.int .i64 0, .int .i64 1]) (by simp [results, Try.results33, go_sem]) rfl ⟨rfl, (by repeat (first | exact Below.refl _ _ | assumption | refine Below.drew ?_ | refine below_drewN' ?_ _ | refine Below.setCell ?_ (by first | omega | (simp; done) | (simp; omega)) _ | refine Below.alloc ?_ (by first | omega | (simp; done) | (simp; omega)) _ | refine Below.trans ?_ (Below.mono (by assumption) (by first | omega | (simp; done) | (simp; omega)))))⟩

set_option maxRecDepth 100000 in
set_option maxHeartbeats 2000000 in
theorem put_old (h : Ar n0 w b m v L) (n : Nd) (hok : n.ok) (hr : okN L.length n.kind n.f n.a n.b n.neg = true) (hin : n.key ∈ L.map Nd.key) : Calls Try.prog 33 #[.pointer (some ⟨b, 0, none⟩), n.v] w fun e w' => e = .returned (.tuple #[.int .i64 (idN L n : Int), .int .i64 0]) ∧ Below w.heap.size w w' := by
  have HR := Lib.hid hr
  clear hr
  obtain ⟨kl, hkl⟩ := keyOf_node n hok
  have HG := Lib.hid (idN_get hin)
  clear hin hok
  generalize idN L n = id at *
  have c0 : ∀ o : Obj, (w.alloc o).cell? ⟨b, 0, none⟩ = some v := fun o => (World.cell?_alloc_past _ _ _ h.lt).trans h.c0
  obtain ⟨sv, cap, hv⟩ := h.shape
  rw [hv] at c0
  have hbl := h.lt
  have hml := h.ltm
  replace h := Lib.hid h
  go_enter Try.func33, Try.ntmps33
  go_wp2_with (go_at_call 46; refine (right_any _ _ _ _ _ _ _ _ _ _ (c0 _)).mono ?_; rintro e w1 ⟨rfl, hb1⟩; rw [HR.out])
  have hs1 := hb1.size
  simp at hs1
  have hA1 := (h.out.below (Below.alloc (Below.refl _ _) (Nat.le_refl _) _) (Nat.le_refl _)).below hb1 (Nat.le_refl _)
  have hN1 := (HoldsN.made w n.cells.toArray rfl).below hb1 (by simp)
  have cM : ∀ u : Wk w1.heap.size w1, u.val.cell? ⟨b, 1, none⟩ = some (.map (some m)) := fun u => (hA1.below u.ok (Nat.le_refl _)).c1
  have cN := fun u : Wk w1.heap.size w1 => (hN1.below u.ok (by omega)).cells
  have k0 := fun u => (cN u).1
  have k1 := fun u => (cN u).2.1
  have k2 := fun u => (cN u).2.2.1
  have k3 := fun u => (cN u).2.2.2.1
  have k4 := fun u => (cN u).2.2.2.2.1
  have k5 := fun u => (cN u).2.2.2.2.2.1
  have k6 := fun u => (cN u).2.2.2.2.2.2.1
  have k7 := fun u => (cN u).2.2.2.2.2.2.2
  have hrun : ∀ u : Wk w1.heap.size w1, (Instr.lookup 75 (.map (some m)) n.v true).run Try.prog u.val = .ok (.tuple #[.int .i64 (id : Int), .bool true]) u.val := fun u => KSeq.look_yes (hA1.below u.ok (Nat.le_refl _)).map Try.law56 Try.underlying75 Try.underlying3 (Try.zero3 _) hkl HG.out
  clear cN hkl
  refine wp_region_class (fun w' => ∃ u : Wk w1.heap.size w1, w' = u.val) (by kernel_rfl) (by kernel_rfl) ⟨⟨_, (Below.refl _ _).drew⟩, rfl⟩ ?_
  repeat (go_big_quiet_step (fail))
  refine wpQuiet_nil ?_
  rintro w' ⟨u, rfl⟩
  have hbu := u.ok
  go_wp2_with fail
  exact bodyPost_ret (v := .tuple #[.int .i64 (id : Int), .int .i64 0]) (by simp [results, Try.results33, go_sem]) rfl ⟨rfl, (by repeat (first | exact Below.refl _ _ | assumption | refine Below.drew ?_ | refine below_drewN' ?_ _ | refine Below.setCell ?_ (by first | omega | (simp; done) | (simp; omega)) _ | refine Below.alloc ?_ (by first | omega | (simp; done) | (simp; omega)) _ | refine Below.trans ?_ (Below.mono (by assumption) (by first | omega | (simp; done) | (simp; omega)))))⟩

set_option maxRecDepth 100000 in
set_option maxHeartbeats 4000000 in
theorem put_new (h : Ar n0 w b m v L) (hn0 : n0 ≤ w.heap.size) (n : Nd) (hok : n.ok) (hr : okN L.length n.kind n.f n.a n.b n.neg = true) (hin : n.key ∉ L.map Nd.key) (hlen : L.length < 20000) : Calls Try.prog 33 #[.pointer (some ⟨b, 0, none⟩), n.v] w fun e w' =>
    e = .returned (.tuple #[.int .i64 (L.length : Int), .int .i64 0]) ∧ (∃ g cap, Ar n0 w' b m (.slice (some ⟨g, 0, none⟩) (L.length + 1) cap) (L ++ [n]) ∧ (v.ownBlock = some g ∨ w.heap.size ≤ g)) ∧ Below n0 w w' ∧ Only w w' b m v := by
  have HR := Lib.hid hr
  clear hr
  obtain ⟨kl, hkl⟩ := keyOf_node n hok
  have HI := Lib.hid hin
  have HO := Lib.hid hok
  clear hin hok
  have hnv := Lib.hid (fun e => HI.out (map_v_mem.1 e))
  have hd : decide (20000 ≤ (L.length : Int)) = false := by simp; omega
  obtain ⟨i0, hi, hz0, hz1, hz2⟩ := info_parts Try.info56
  have c0 : ∀ o : Obj, (w.alloc o).cell? ⟨b, 0, none⟩ = some v := fun o => (World.cell?_alloc_past _ _ _ h.lt).trans h.c0
  obtain ⟨sv, scap, rfl⟩ := h.shape
  have hbl := h.lt
  have hml := h.ltm
  replace h := Lib.hid h
  go_enter Try.func33, Try.ntmps33
  go_wp2_with (go_at_call 46; refine (right_any _ _ _ _ _ _ _ _ _ _ (c0 _)).mono ?_; rintro e w1 ⟨rfl, hb1⟩; rw [HR.out])
  have hs1 := hb1.size
  simp at hs1
  have hA1 := (h.out.below (Below.alloc (Below.refl _ _) (Nat.le_refl _) _) (Nat.le_refl _)).below hb1 (Nat.le_refl _)
  have hN1 := (HoldsN.made w n.cells.toArray rfl).below hb1 (by simp)
  have cM : ∀ u : Wk w1.heap.size w1, u.val.cell? ⟨b, 1, none⟩ = some (.map (some m)) := fun u => (hA1.below u.ok (Nat.le_refl _)).c1
  have cN := fun u : Wk w1.heap.size w1 => (hN1.below u.ok (by omega)).cells
  have k0 := fun u => (cN u).1
  have k1 := fun u => (cN u).2.1
  have k2 := fun u => (cN u).2.2.1
  have k3 := fun u => (cN u).2.2.2.1
  have k4 := fun u => (cN u).2.2.2.2.1
  have k5 := fun u => (cN u).2.2.2.2.2.1
  have k6 := fun u => (cN u).2.2.2.2.2.2.1
  have k7 := fun u => (cN u).2.2.2.2.2.2.2
  have cV : ∀ u : Wk w1.heap.size w1, u.val.cell? ⟨b, 0, none⟩ = some (.slice sv L.length scap) := fun u => (hA1.below u.ok (Nat.le_refl _)).c0
  have hrun : ∀ u : Wk w1.heap.size w1, (Instr.lookup 75 (.map (some m)) n.v true).run Try.prog u.val = .ok (.tuple #[.int .i64 0, .bool false]) u.val := fun u => KSeq.look_no (hA1.below u.ok (Nat.le_refl _)).map Try.law56 Try.underlying75 (Try.zero3 _) hkl hnv.out
  clear cN
  refine wp_region_class (fun w' => ∃ u : Wk w1.heap.size w1, w' = u.val) (by kernel_rfl) (by kernel_rfl) ⟨⟨_, (Below.refl _ _).drew⟩, rfl⟩ ?_
  repeat (go_big_quiet_step (fail))
  refine wpQuiet_nil ?_
  rintro w' ⟨u, rfl⟩
  have hbu := u.ok
  clear hrun
  go_wp2_with fail
  clear cM k0 k1 k2 k3 k4 k5 k6 k7 cV
  generalize u.val = wu at *
  have hAu := hA1.below hbu (Nat.le_refl _)
  have hNu := hN1.below hbu (by omega)
  clear hA1 hN1
  have hpo : some w.heap.size ≠ (Value.slice sv L.length scap).ownBlock := fun e => by
    have := (own_blk h.out.own e.symm).2.1
    omega
  have cV := hAu.c0
  obtain ⟨k0, k1, k2, k3, k4, k5, k6, k7⟩ := hNu.cells
  have hnn : n0 ≤ wu.heap.size := by have := hbu.size; omega
  have hNl := hNu.lt
  have hbl2 := hAu.lt
  go_region_law (first | (refine step_append_lies _ rfl (.tmp 42) (.tmp 44) 48 rfl n0 56 i0 nv0 8 64 Try.underlying48 hi hz0 hz1 hz2 rfl (by omega) _ L.length (L.flatMap Nd.cells) rfl (hAu.below (show Below wu.heap.size wu _ from (by repeat (first | exact Below.refl _ _ | assumption | refine Below.drew ?_ | refine below_drewN' ?_ _ | refine Below.setCell ?_ (by first | omega | (simp; done) | (simp; omega)) _ | refine Below.alloc ?_ (by first | omega | (simp; done) | (simp; omega)) _ | refine Below.trans ?_ (Below.mono (by assumption) (by first | omega | (simp; done) | (simp; omega)))))) (Nat.le_refl _)).own _ 1 1 n.cells rfl rfl (World.news_of_block (cs := n.cells.toArray) (heap_alloc_new _ _)) (by simp [Value.oneCell']) (by omega) (by unfold maxLen; omega) (by omega) (Nat.le_trans hnn (show Below wu.heap.size wu _ from (by repeat (first | exact Below.refl _ _ | assumption | refine Below.drew ?_ | refine below_drewN' ?_ _ | refine Below.setCell ?_ (by first | omega | (simp; done) | (simp; omega)) _ | refine Below.alloc ?_ (by first | omega | (simp; done) | (simp; omega)) _ | refine Below.trans ?_ (Below.mono (by assumption) (by first | omega | (simp; done) | (simp; omega)))))).size) _ rfl ?_; intro g cap w2 hown2 hgrow2 hat2 hlt2; have hX2 := grown_src hgrow2 (n := wu.heap.size) (w0 := wu) (by repeat (first | exact Below.refl _ _ | assumption | refine Below.drew ?_ | refine below_drewN' ?_ _ | refine Below.setCell ?_ (by first | omega | (simp; done) | (simp; omega)) _ | refine Below.alloc ?_ (by first | omega | (simp; done) | (simp; omega)) _ | refine Below.trans ?_ (Below.mono (by assumption) (by first | omega | (simp; done) | (simp; omega))))); have hmid := put_mid hAu hgrow2 hX2; obtain ⟨hb2, hM2⟩ := hmid; have q0 := (cell_of_row w2 b 0 _ 77 (0, 0) hb2); have qf : ∀ i, w2.frozen? ⟨b, i, none⟩ = false := (fun i => by simp [World.frozen?, hb2])))
  all_goals
    have hN3 := put_key hNu hgrow2 hX2 hpo (Nat.ne_of_gt hbl) (.slice (some ⟨g, 0, none⟩) (L.length + 1) cap)
    have hb3 : (w2.setCell ⟨b, 0, none⟩ (.slice (some ⟨g, 0, none⟩) (L.length + 1) cap)).heap[b]? = some (.cells #[.slice (some ⟨g, 0, none⟩) (L.length + 1) cap, .map (some m)] 77 (0, 0)) := by
      rw [heap_setCell_same w2 b 0 _ 77 _ hb2]
      simp
    have hM3 := hM2.other (a := ⟨b, 0, none⟩) (by exact Ne.symm hAu.ne) (.slice (some ⟨g, 0, none⟩) (L.length + 1) cap)
    have cM : ∀ u : Wk (w2.setCell ⟨b, 0, none⟩ (.slice (some ⟨g, 0, none⟩) (L.length + 1) cap)).heap.size (w2.setCell ⟨b, 0, none⟩ (.slice (some ⟨g, 0, none⟩) (L.length + 1) cap)), u.val.cell? ⟨b, 1, none⟩ = some (.map (some m)) := fun u => by
      rw [cell_of_row u.val b 1 _ 77 (0, 0) ((u.ok.block b (lt_of_heap hb3)).trans hb3)]; rfl
    have cN := fun u : Wk (w2.setCell ⟨b, 0, none⟩ (.slice (some ⟨g, 0, none⟩) (L.length + 1) cap)).heap.size (w2.setCell ⟨b, 0, none⟩ (.slice (some ⟨g, 0, none⟩) (L.length + 1) cap)) => (hN3.below u.ok hN3.lt).cells
    have k0 := fun u => (cN u).1
    have k1 := fun u => (cN u).2.1
    have k2 := fun u => (cN u).2.2.1
    have k3 := fun u => (cN u).2.2.2.1
    have k4 := fun u => (cN u).2.2.2.2.1
    have k5 := fun u => (cN u).2.2.2.2.2.1
    have k6 := fun u => (cN u).2.2.2.2.2.2.1
    have k7 := fun u => (cN u).2.2.2.2.2.2.2
    clear cN q0 qf
    go_wp2_with fail
    refine wp_region_tail (fun w' => ∃ u : Wk (w2.setCell ⟨b, 0, none⟩ (.slice (some ⟨g, 0, none⟩) (L.length + 1) cap)).heap.size (w2.setCell ⟨b, 0, none⟩ (.slice (some ⟨g, 0, none⟩) (L.length + 1) cap)), w' = u.val) 6 (by kernel_rfl) (by kernel_rfl) ⟨⟨_, (Below.refl _ _).drew⟩, rfl⟩ ?_
    simp only [List.take_succ_cons, List.take_zero, List.drop_succ_cons, List.drop_zero]
    repeat (go_big_quiet_step (fail))
    refine wpQuiet_nil ?_
    rintro w' ⟨u3, rfl⟩
    have hM4 := hM3.below u3.ok hM3.lt
    have hll : (L.map Nd.v).length = L.length := by simp
    obtain ⟨w5, hrun5, hM5, hg5⟩ := KSeq.store hM4 Try.law56 Try.underlying75 Try.underlying3 (by rw [hll]; unfold maxLen; omega) (by rw [hll]; exact wf_len hlen) hkl hnv.out
    rw [hll] at hrun5
    have hend := put_end hAu HO.out HI.out hgrow2 hX2 hown2 hat2 hlt2 u3 hg5 hM5
    refine wpList_seq_put rfl (.tmp 51) (.tmp 52) (.tmp 53) 75 rfl rfl _ _ rfl rfl hrun5 ?_
    go_wp2_with fail
    obtain ⟨hA5, hor, hbl5, honly⟩ := hend
    have hwu : Below w.heap.size w wu := (by repeat (first | exact Below.refl _ _ | assumption | refine Below.drew ?_ | refine below_drewN' ?_ _ | refine Below.setCell ?_ (by first | omega | (simp; done) | (simp; omega)) _ | refine Below.alloc ?_ (by first | omega | (simp; done) | (simp; omega)) _ | refine Below.trans ?_ (Below.mono (by assumption) (by first | omega | (simp; done) | (simp; omega)))))
    exact bodyPost_ret (v := .tuple #[.int .i64 (L.length : Int), .int .i64 0]) (by simp [results, Try.results33, go_sem]) rfl ⟨rfl, ⟨g, cap, hA5, hor.imp id (fun hh => Nat.le_trans hwu.size hh)⟩, (hwu.mono hn0).trans (hbl5 hnn), fun x hx hxb hxm hxv => (honly x (Nat.lt_of_lt_of_le hx hwu.size) hxb hxm hxv).trans (hwu.block x hx)⟩

/-- The nodes behind Put. -/
def putL (L : List Nd) (n : Nd) : List Nd := if okN L.length n.kind n.f n.a n.b n.neg then addN L n else L
/-- Put's answer. -/
def putR (L : List Nd) (n : Nd) : Value := if okN L.length n.kind n.f n.a n.b n.neg then .tuple #[.int .i64 (idN L n : Int), .int .i64 0] else .tuple #[.int .i64 0, .int .i64 1]
theorem aput_any (h : Ar n0 w b m v L) (hn0 : n0 ≤ w.heap.size) (n : Nd) (hok : n.ok) (hlen : L.length < 20000) : Calls Try.prog 33 #[.pointer (some ⟨b, 0, none⟩), n.v] w fun e w' =>
    e = .returned (putR L n) ∧ (∃ v', Ar n0 w' b m v' (putL L n) ∧ (v'.ownBlock = v.ownBlock ∨ ∃ g, v'.ownBlock = some g ∧ w.heap.size ≤ g)) ∧ Below n0 w w' ∧ Only w w' b m v := by
  unfold putL putR addN
  cases hr : okN L.length n.kind n.f n.a n.b n.neg
  · refine (put_bad h n hr).mono fun e w' ⟨he, hb⟩ => ?_
    exact ⟨he, ⟨v, h.below hb (Nat.le_refl _), .inl rfl⟩, hb.mono hn0, fun x hx _ _ _ => hb.block x hx⟩
  · by_cases hin : n.key ∈ L.map Nd.key
    · refine (put_old h n hok hr hin).mono fun e w' ⟨he, hb⟩ => ?_
      exact ⟨he, ⟨v, by simp only [if_true, if_pos hin]; exact h.below hb (Nat.le_refl _), .inl rfl⟩, hb.mono hn0, fun x hx _ _ _ => hb.block x hx⟩
    · refine (put_new h hn0 n hok hr hin hlen).mono fun e w' ⟨he, ⟨g, cap, hA, hg⟩, hb, ho⟩ => ?_
      refine ⟨by rw [idN_new hin]; exact he, ⟨_, by simp only [if_true, if_neg hin]; exact hA, ?_⟩, hb, ho⟩
      rcases hg with hg | hg
      · exact .inl hg.symm
      · exact .inr ⟨g, rfl, hg⟩

end Go.Proofs.Ytbmejpghoafapaa
