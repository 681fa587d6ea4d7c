/-
  The walks of slices.Index, slices.Contains (at sets) and (*Arena).Sets.
-/
import Derived.Test.YtbmejpghoafapaaBelo2
import Derived.Test.YtbmejpghoafapaaOwnS
import Derived.Deep.OwnRows
namespace Go.Proofs.Ytbmejpghoafapaa
open Go.RowKit Go.Maps

set_option maxRecDepth 100000 in
set_option maxHeartbeats 1000000 in
theorem index_no (M : List (Nat → Bool)) (v : Value) (f : Nat → Bool) (w : World) (hv : SetsAt w v M) (hm : M.length ≤ 1000) (hno : ∀ g ∈ M, eqS f g = false) :
    Calls Try.prog 58 #[v, sv f] w fun e w' => e = .returned (.int .i64 (-1)) ∧ Below w.heap.size w w' := by
  obtain ⟨a, cap, rfl, hs⟩ := hv
  have hS0 := HoldsS.made w f
  have HN := Lib.hid hno
  clear hno
  go_enter Try.func58, Try.ntmps58
  go_wp2_with fail
  go_loopw [8] (fun i wr => ∃ k : Nat, k ≤ M.length ∧ i = .int .i64 k ∧ Below w.heap.size w wr ∧ HoldsS wr w.heap.size f) (fun i _ => (1000 - intOf i).toNat)
  case atStart => exact ⟨0, by omega, rfl, (by repeat (first | exact Below.refl _ _ | assumption | refine Below.drew ?_ | refine below_drewN' ?_ _ | refine Below.setCell ?_ (by first | omega | (simp; done) | (simp; omega)) _ | refine Below.alloc ?_ (by first | omega | (simp; done) | (simp; omega)) _ | refine Below.trans ?_ (Below.mono (by assumption) (by first | omega | (simp; done) | (simp; omega))))), hS0⟩
  case round =>
    clear hS0
    obtain ⟨k, hk, rfl, hbl, hS⟩ := hrel
    by_cases hlt : k < M.length
    · obtain ⟨b, off, rfl, hc⟩ := hs (by intro e; rw [e] at hlt; simp at hlt)
      obtain ⟨s, hsk⟩ : ∃ s, M[k]? = some s := ⟨M[k], List.getElem?_eq_getElem hlt⟩
      obtain ⟨c0, c1, c2, c3⟩ := hc k s hsk
      replace c0 := cell_later hbl c0
      replace c1 := cell_later hbl c1
      replace c2 := cell_later hbl c2
      replace c3 := cell_later hbl c3
      have he := HN.out s (List.mem_of_getElem? hsk)
      obtain ⟨d0, d1, d2, d3⟩ := hS.cells
      clear hc hs hsk
      go_wp2_with fail
      go_quiet (fail)
      have hb6 := below_drewN' hbl nq
      go_wp2_with fail
      go_round
      case rel => exact ⟨k + 1, by omega, by go_num, hb6, hS⟩
      case measure => simp [intOf]; omega
    · go_wp2_with fail
      go_ret
      exact ⟨rfl, hbl⟩
set_option maxRecDepth 100000 in
set_option maxHeartbeats 1000000 in
theorem contains_no (M : List (Nat → Bool)) (v : Value) (f : Nat → Bool) (w : World) (hv : SetsAt w v M) (hm : M.length ≤ 1000) (hno : ∀ g ∈ M, eqS f g = false) :
    Calls Try.prog 56 #[v, sv f] w fun e w' => e = .returned (.bool false) ∧ Below w.heap.size w w' := by
  have hX := Below.alloc (Below.refl w.heap.size w) (Nat.le_refl _) (sob f)
  have HI := Lib.hid (index_no M v f _ (hv.below hX (Nat.le_refl _)) hm hno)
  go_enter Try.func56, Try.ntmps56
  go_wp2_with (go_at_call 58; refine HI.out.mono ?_; rintro e w1 ⟨rfl, hb1⟩)
  go_ret
  exact ⟨rfl, (by repeat (first | exact Below.refl _ _ | assumption | refine Below.drew ?_ | refine below_drewN' ?_ _ | refine Below.setCell ?_ (by first | omega | (simp; done) | (simp; omega)) _ | refine Below.alloc ?_ (by first | omega | (simp; done) | (simp; omega)) _ | refine Below.trans ?_ (Below.mono (by assumption) (by first | omega | (simp; done) | (simp; omega)))))⟩

theorem madeCells_false (n : Nat) : madeCells #[.bool false] n = bvA n (fun _ => false) := by
  apply Array.ext_getElem?
  intro j
  by_cases h : j < n
  · rw [bvA_at n _ j h]
    simp [madeCells, h, Nat.mod_one]
  · rw [Array.getElem?_eq_none (by unfold madeCells; simp; omega), Array.getElem?_eq_none (by simp [bvA]; omega)]
theorem Try.info4 : (Try.prog.info? 4).map (fun i => (i.zero, i.size, i.bytes)) = some (some (.bool false), 1, 1) := by kernel_rfl
theorem wpList_append_sets {ops : Array Oper} {rest : List Oper} {o : Oper} {a : Act} {w : World} {Q : Exit → Act → World → Prop} (hgd : o.guard = none) (s x : Operand) (ho : o.op = .call { callee := .builtin .append, args := #[s, x], argTypes := #[38, 38] }) {v y : Value} {L M : List (Nat → Bool)} {n0 : Nat}
    (hs : a.eval s = v) (hx : a.eval x = y) (hown : OwnS n0 w v L) (hsrc : SetsAt w y M) (hb : n0 ≤ w.heap.size) (hlen : L.length + M.length ≤ 1000000)
    (h : ∀ v' w', OwnS n0 w' v' (L ++ M) → Below n0 w w' → w.grownBy w' v.ownBlock → wpList Try.prog ops Q rest (a.put o.dst v') w') : wpList Try.prog ops Q (o :: rest) a w := by
  refine wpList_plain hgd fun K hK => ?_
  obtain ⟨v', w', hr, ho', hg, _⟩ := app_sets hown hsrc hb hlen o.type
  exact wp_append s x 38 ho hs hx hr (hK _ _ (h v' w' ho' (OwnS.grown_below hown hb hg) hg))
theorem sets_block {w : World} {b : Nat} {f : Nat → Bool} (h : HoldsS w b f) : SetsAt w (.slice (some ⟨b, 0, none⟩) 1 1) [f] := by
  refine ⟨_, 1, rfl, fun _ => ⟨b, 0, rfl, fun i g hi => ?_⟩⟩
  obtain rfl : i = 0 := by have := (List.getElem?_eq_some_iff.1 hi).1; simp at this; omega
  obtain rfl : g = f := by simpa using hi.symm
  exact h.cells

variable {n0 b m : Nat} {va : Value} {L : List Nd} {W : World}
theorem sets_out (hA : Ar n0 W b m va L) (id : Int) (hid : id < 0 ∨ (L.length : Int) ≤ id) : Calls Try.prog 43 #[.pointer (some ⟨b, 0, none⟩), .int .i64 id] W fun e w' => e = .returned (.slice none 0 0) ∧ Below W.heap.size W w' := by
  have HN := Lib.hid (node_out hA id hid)
  go_enter Try.func43, Try.ntmps43
  go_wp2_with (go_at_call 36; refine HN.out.mono ?_; rintro e w1 ⟨rfl, hb1⟩)
  have hs1 := hb1.size
  go_ret
  exact ⟨rfl, (by repeat (first | exact Below.refl _ _ | assumption | refine Below.drew ?_ | refine below_drewN' ?_ _ | refine Below.setCell ?_ (by first | omega | (simp; done) | (simp; omega)) _ | refine Below.alloc ?_ (by first | omega | (simp; done) | (simp; omega)) _ | refine Below.trans ?_ (Below.mono (by assumption) (by first | omega | (simp; done) | (simp; omega)))))⟩

set_option maxRecDepth 100000 in
set_option maxHeartbeats 4000000 in
theorem sets_any (hA : Ar n0 W b m va L) (hw : WfN L) (hm : L.length ≤ 100) (id : Nat) (hid : id < L.length) :
    Calls Try.prog 43 #[.pointer (some ⟨b, 0, none⟩), .int .i64 (id : Int)] W fun e w' => (∃ vg, e = .returned vg ∧ OwnS W.heap.size w' vg (sel L (belB L id) L.length)) ∧ Below W.heap.size W w' := by
  obtain ⟨n, hn⟩ : ∃ n, L[id]? = some n := ⟨L[id], List.getElem?_eq_getElem hid⟩
  have HN := Lib.hid (node_in hA id n hn)
  obtain ⟨i4, hi4, hz4, hy4, hbb4⟩ := info_parts Try.info4
  replace hi4 := Lib.hid hi4
  replace hz4 := Lib.hid hz4
  replace hy4 := Lib.hid hy4
  replace hbb4 := Lib.hid hbb4
  have hnd := Lib.hid hA.nd
  obtain ⟨sv0, capv, rfl⟩ := hA.shape
  obtain ⟨sn, hsn⟩ : ∃ sn, sn = belB L id := ⟨_, rfl⟩
  rw [← hsn]
  replace hsn := Lib.hid hsn
  have hX := fun (w : World) (o : Obj) => Below.alloc (Below.refl w.heap.size w) (Nat.le_refl _) o
  clear hn
  go_enter Try.func43, Try.ntmps43
  go_wp2_with (first | (go_at_call 36; refine HN.out.mono ?_; rintro e w1 ⟨rfl, hb1⟩; have hN1 := HoldsN.made w1 na0 rfl) | (refine wpList_store_node rfl (.tmp 5) (.tmp 15) rfl rfl rfl hN1 rfl rfl (one8 _ _ _ _ _ _ _ _) ?_; intro w2 hN2 hg2; have hb2 : Below W.heap.size W w2 := (hb1.alloc hb1.size _).trans (below_grown hg2 hb1.size (by have := hb1.size; simp; omega)); have hA2 := hA.below hb2 (Nat.le_refl _); have c0 := hA2.c0) | (refine wpList_make_row _ rfl (.tmp 23) (.tmp 23) 70 rfl 4 i4 (.bool false) Try.underlying70 hi4.out hz4.out hy4.out rfl .i64 .i64 L.length rfl rfl (by rw [hbb4.out]; omega) (by omega) ?_; rw [madeCells_false]))
  have hB2 : HoldsB (w2.alloc (.cells (bvA L.length (fun _ => false)) 4)) w2.heap.size L.length (fun _ => false) := heap_alloc_new w2 _
  refine (mark_any hw id hid _ _ (hA2.below (hX w2 _) (Nat.le_refl _)) hB2 (by intro j hj h; cases h)).mono ?_
  rintro e w3 ⟨rfl, hB3, hg3⟩
  have hs2 := hb2.size
  have hb3 : Below W.heap.size W w3 := ((hb2.alloc hs2 _).grown hg3 (by simp; omega) (fun j hj => by cases hj; exact hs2))
  have hse : sees L (fun _ => false) id = sn := by rw [hsn.out]; funext j; simp [sees]
  rw [hse] at hB3
  have hA3 := hA.below hb3 (Nat.le_refl _)
  have c3 := hA3.c0
  clear hse hg3 hB2 c0 hg2 hN2 hb2 hA2 hN1
  go_wp2_with fail
  go_loopw [8, 34] (fun vg i wr => ∃ k : Nat, k ≤ L.length ∧ i = .int .i64 k ∧ Below W.heap.size W wr ∧ HoldsB wr w2.heap.size L.length sn ∧ OwnS W.heap.size wr vg (sel L sn k)) (fun _ i _ => (100 - intOf i).toNat)
  case atStart => exact ⟨0, by omega, rfl, hb3, hB3, World.ownsRow_nil _ _ _ _⟩
  case round =>
    clear hb3 hB3 hA3 c3
    obtain ⟨k, hk, rfl, hbl, hB, hG⟩ := hrel
    by_cases hlt : k < L.length
    · obtain ⟨x, hx⟩ : ∃ x, L[k]? = some x := ⟨L[k], List.getElem?_eq_getElem hlt⟩
      obtain ⟨g, gcap, hv, hE⟩ := (hA.below hbl (Nat.le_refl _)).eight hx
      obtain ⟨rfl, -⟩ : sv0 = some ⟨g, 0, none⟩ ∧ capv = gcap := by cases hv; exact ⟨rfl, rfl⟩
      clear hv
      obtain ⟨e0, e1, e2, e3, e4, e5, e6, e7⟩ := hE
      have hN0 := HoldsN.made wr na0 rfl
      have hsz := hbl.size
      have hsl := sel_len L sn k
      have hSY := Lib.hid (fun h1 h2 => sel_yes (p := sn) hx h1 h2)
      have hSN := Lib.hid (fun h => sel_no (p := sn) hx h)
      have hSF := Lib.hid (fun h => sel_fresh (p := sn) hw hnd.out hx h)
      clear hx
      obtain ⟨kd, f, na, nb, gg⟩ := x
      simp only at e0 e1 e2 e3 e4 e5 e6 e7
      generalize sel L sn k = T at *
      obtain ⟨sg, gc2, rfl, hgc⟩ := hG.shape
      have hBk := Lib.hid (fun (w' : World) (hb : Below wr.heap.size wr w') => (hB.below hb hB.lt).cell hlt)
      cases hsk : sn k
      · have HS := Lib.hid (hSN.out (.inl hsk))
        rw [hsk] at hBk
        clear hSN hSY hSF hsk
        go_wp2_with (refine wpList_store_node rfl (.tmp 10) (.tmp 38) rfl rfl rfl hN0 rfl rfl (one8 _ _ _ _ _ _ _ _) ?_; intro w4 hN4 hg4; have hb4 : Below wr.heap.size wr w4 := (hX wr _).trans (below_grown hg4 (Nat.le_refl _) (by simp)); have hbk := hBk.out w4 hb4)
        have hs4 := hb4.size
        go_round
        case rel => exact ⟨k + 1, by omega, by go_num, hbl.trans (hb4.mono hsz), hB.below hb4 hB.lt, by rw [HS.out]; exact hG.below hb4 (Nat.le_refl _)⟩
        case measure => simp [intOf]; omega
      · by_cases hkd : kd = 2
        · have HS := Lib.hid (hSY.out hsk hkd)
          have HF := Lib.hid (hSF.out hkd)
          simp only at HF
          rw [hsk] at hBk
          clear hSN hSY hSF hsk
          subst hkd
          go_wp2_with (first | (refine wpList_store_node rfl (.tmp 10) (.tmp 38) rfl rfl rfl hN0 rfl rfl (one8 _ _ _ _ _ _ _ _) ?_; intro w4 hN4 hg4; have hb4 : Below wr.heap.size wr w4 := (hX wr _).trans (below_grown hg4 (Nat.le_refl _) (by simp)); have hbk := hBk.out w4 hb4; have hG4 := hG.below hb4 (Nat.le_refl _); obtain ⟨q0, q1, q2, q3, q4, q5, q6, q7⟩ := hN4.cells) | (go_at_call 56; refine (contains_no T _ f _ hG4.sets (by omega) HF.out).mono ?_; rintro e w5 ⟨rfl, hb5⟩; have hG5 := hG4.below hb5 (Nat.le_refl _); clear q0 q1 q2 q3 q4 q5 q6 q7; obtain ⟨q0, q1, q2, q3, q4, q5, q6, q7⟩ := (hN4.below hb5 hN4.lt).cells; have hsz5 : W.heap.size ≤ w5.heap.size := by (have h4 := hb4.size; have h5 := hb5.size; omega)) | (refine wpList_append_sets rfl (.tmp 55) (.tmp 58) rfl rfl rfl (hG5.below (hX _ _) (Nat.le_refl _)) (sets_block (HoldsS.made w5 f)) (by simp; omega) (by simp; omega) ?_; intro v6 w6 hG6 hb6 hg6))
          have hs4 := hb4.size
          have hBX : HoldsB (w5.alloc (sob f)) w2.heap.size L.length sn := ((hB.below hb4 hB.lt).below hb5 (by have := hB.lt; omega)).below (hX w5 _) (by have := hB.lt; have := hb5.size; omega)
          have hGX := hG5.below (hX w5 (sob f)) (Nat.le_refl _)
          have hne : some w2.heap.size ≠ (Value.slice sg T.length gc2).ownBlock := fun e => by
            obtain ⟨_, _, cur, h1⟩ := own_blk hGX e.symm
            have h2 : (w5.alloc (sob f)).heap[w2.heap.size]? = some (.cells (bvA L.length sn) 4 (0, 0)) := hBX
            rw [h2] at h1
            simp at h1
          have hbl6 : Below W.heap.size W w6 := (((hbl.trans (hb4.mono hsz)).trans (hb5.mono (by omega))).alloc hsz5 _).trans hb6
          go_round
          case rel => exact ⟨k + 1, by omega, by go_num, hbl6, hBX.kept hg6 hne, by rw [HS.out]; exact hG6⟩
          case measure => simp [intOf]; omega
        · have HS := Lib.hid (hSN.out (.inr hkd))
          rw [hsk] at hBk
          clear hSN hSY hSF hsk
          have hk2 : (kd == 2) = false := by simp [hkd]
          clear hkd
          go_wp2_with (refine wpList_store_node rfl (.tmp 10) (.tmp 38) rfl rfl rfl hN0 rfl rfl (one8 _ _ _ _ _ _ _ _) ?_; intro w4 hN4 hg4; have hb4 : Below wr.heap.size wr w4 := (hX wr _).trans (below_grown hg4 (Nat.le_refl _) (by simp)); have hbk := hBk.out w4 hb4; obtain ⟨q0, q1, q2, q3, q4, q5, q6, q7⟩ := hN4.cells)
          have hs4 := hb4.size
          go_round
          case rel => exact ⟨k + 1, by omega, by go_num, hbl.trans (hb4.mono hsz), hB.below hb4 hB.lt, by rw [HS.out]; exact hG.below hb4 (Nat.le_refl _)⟩
          case measure => simp [intOf]; omega
    · obtain rfl : k = L.length := by omega
      go_wp2_with fail
      go_ret
      exact ⟨⟨_, rfl, hG⟩, hbl⟩

end Go.Proofs.Ytbmejpghoafapaa
