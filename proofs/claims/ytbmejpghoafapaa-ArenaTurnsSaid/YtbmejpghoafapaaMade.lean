/-
  The walks of bolterlaw09.Made, bolterref09.Nodes, bolterlaw09.below.
-/
import Derived.Test.YtbmejpghoafapaaWf
namespace Go.Proofs.Ytbmejpghoafapaa
open Go.RowKit Go.Maps

set_option maxRecDepth 100000 in
set_option maxHeartbeats 1000000 in
theorem made_any (l : List Nd) (v : Value) (W : World) (hl : NodesAt W v l) (ho : ∀ n ∈ l, n.ok) (hm : l.length ≤ 40) : Calls Try.prog 37 #[v] W fun e w' =>
    (∃ b m va, e = .returned (.pointer (some ⟨b, 0, none⟩)) ∧ Ar W.heap.size w' b m va (preL l l.length)) ∧ Below W.heap.size W w' := by
  have hl0 := hl
  obtain ⟨a, cap, rfl, hs⟩ := hl
  clear hs
  have HO := Lib.hid ho
  clear ho
  go_enter Try.func37, Try.ntmps37
  go_wp2_with (first | (go_at_call 32; refine (new_any _).mono ?_; rintro e w2 ⟨⟨b, m, va, rfl, hA⟩, hb2⟩))
  go_loopw [8] (fun i wr => ∃ k : Nat, k ≤ l.length ∧ i = .int .i64 k ∧ Below W.heap.size W wr ∧ ∃ va, Ar W.heap.size wr b m va (preL l k)) (fun i _ => (40 - intOf i).toNat)
  case atStart => exact ⟨0, by omega, rfl, hb2, va, hA⟩
  case round =>
    clear hb2 hA
    obtain ⟨k, hk, rfl, hbl, va, hA⟩ := hrel
    by_cases hlt : k < l.length
    · obtain ⟨n, hn⟩ : ∃ n, l[k]? = some n := ⟨l[k], List.getElem?_eq_getElem hlt⟩
      have hok := HO.out n (List.mem_of_getElem? hn)
      obtain ⟨bb, off, rfl, hE⟩ := hl0.eight hn
      have hpl := preL_len l k (by omega)
      have hps := Lib.hid (preL_succ l k n hn)
      clear hn
      generalize preL l k = L at *
      obtain ⟨e0, e1, e2, e3, e4, e5, e6, e7⟩ := hE.later hbl (Nat.le_refl _)
      have HP := Lib.hid (aput_any hA hbl.size n hok (by omega))
      clear hok
      go_wp2_with (first | (go_at_call 33; refine HP.out.mono ?_; rintro e w3 ⟨rfl, ⟨va3, hA3, hor3⟩, hb3, ho3⟩; clear e0 e1 e2 e3 e4 e5 e6 e7))
      go_round
      case rel => exact ⟨k + 1, by omega, by go_num, hbl.trans hb3, va3, by rw [hps.out]; exact hA3⟩
      case measure => simp [intOf]; omega
    · obtain rfl : k = l.length := by omega
      go_wp2_with fail
      go_ret
      exact ⟨⟨b, m, va, rfl, hA⟩, hbl⟩

theorem take_next {L : List Nd} {k : Nat} {n : Nd} (h : L[k]? = some n) : L.take (k + 1) = L.take k ++ [n] := by
  obtain ⟨hk, rfl⟩ := List.getElem?_eq_some_iff.1 h
  exact List.take_succ_eq_append_getElem hk

variable {n0 b m : Nat} {va : Value} {L : List Nd} {W : World}
set_option maxRecDepth 100000 in
set_option maxHeartbeats 1000000 in
theorem nodes_any (hA : Ar n0 W b m va L) (hm : L.length ≤ 100) : Calls Try.prog 41 #[.pointer (some ⟨b, 0, none⟩)] W fun e w' => (∃ vw, e = .returned vw ∧ OwnN W.heap.size w' vw L) ∧ Below W.heap.size W w' := by
  obtain ⟨i0, hi, hz0, hz1, hz2⟩ := info_parts Try.info56
  replace hi := Lib.hid hi
  replace hz0 := Lib.hid hz0
  replace hz1 := Lib.hid hz1
  replace hz2 := Lib.hid hz2
  go_enter Try.func41, Try.ntmps41
  go_wp2_with (first | (go_at_call 35; refine (len_any hA).mono ?_; rintro e w1 ⟨rfl, hb1⟩))
  go_loopw [3, 9] (fun vw i wr => ∃ k : Nat, k ≤ L.length ∧ i = .int .i64 k ∧ Below W.heap.size W wr ∧ OwnN W.heap.size wr vw (L.take k)) (fun _ i _ => (100 - intOf i).toNat)
  case atStart => exact ⟨0, by omega, rfl, hb1, by rw [List.take_zero]; exact World.ownsRow_nil _ _ _ _⟩
  case round =>
    clear hb1
    obtain ⟨k, hk, rfl, hbl, hW⟩ := hrel
    by_cases hlt : k < L.length
    · obtain ⟨n, hn⟩ : ∃ n, L[k]? = some n := ⟨L[k], List.getElem?_eq_getElem hlt⟩
      have hP := Lib.hid (take_next hn)
      have hPl : (L.take k).length = k := by rw [List.length_take]; omega
      have hsz := hbl.size
      have HN := Lib.hid (node_in (hA.below hbl (Nat.le_refl _)) k n hn)
      have HI := hi.out
      have HZ0 := hz0.out
      have HZ1 := hz1.out
      have HZ2 := hz2.out
      clear hn
      generalize L.take k = P at *
      obtain rfl : P.length = k := hPl
      obtain ⟨sw, capw, rfl⟩ := OwnN.shape hW
      go_wp2_with (first | (go_at_call 36; refine HN.out.mono ?_; rintro e w3 ⟨rfl, hb3⟩; have hN3 := HoldsN.made w3 na0 rfl; have hb3' : Below wr.heap.size wr w3 := hb3) | (refine wpList_store_node rfl (.tmp 5) (.tmp 16) rfl rfl rfl hN3 rfl rfl (one8 _ _ _ _ _ _ _ _) ?_; intro w4 hN4 hg4; have hb4 : Below wr.heap.size wr w4 := (hb3'.trans ((Below.refl _ _).alloc hb3'.size _)).trans (below_grown hg4 hb3'.size (by have := hb3'.size; simp; omega)); have hW4 := hW.below hb4 (Nat.le_refl _); have hs4 := hb4.size; have hX := fun o : Obj => Below.alloc (Below.refl w4.heap.size w4) (Nat.le_refl _) o; obtain ⟨q0, q1, q2, q3, q4, q5, q6, q7⟩ := hN4.cells) | (refine wpList_append_lies _ rfl (.tmp 18) (.tmp 20) 48 rfl W.heap.size 56 i0 nv0 8 64 Try.underlying48 HI HZ0 HZ1 HZ2 rfl (by omega) _ P.length (P.flatMap Nd.cells) rfl (hW4.below (hX _) (Nat.le_refl _)) _ 1 1 n.cells rfl rfl (World.news_of_block (cs := n.cells.toArray) (heap_alloc_new _ _)) (by simp [Value.oneCell']) (by omega) (by unfold maxLen; omega) (by omega) (by simp; omega) _ rfl ?_; intro g cap w7 hown7 hgrow7 hat7 hlt7))
      have hWX := hW4.below (hX (.cells n.cells.toArray 56)) (Nat.le_refl _)
      have hb7 := OwnN.grown_below hWX (by simp; omega) hgrow7
      have hbl7 : Below W.heap.size W w7 := ((hbl.trans (hb4.mono hsz)).alloc (by omega) (.cells n.cells.toArray 56)).trans hb7
      go_round
      case rel => exact ⟨P.length + 1, by omega, by go_num, hbl7, by rw [hP.out]; exact OwnN.snoc hown7⟩
      case measure => simp [intOf]; omega
    · obtain rfl : k = L.length := by omega
      rw [List.take_length] at hW
      go_wp2_with fail
      go_ret
      exact ⟨⟨_, rfl, hW⟩, hbl⟩

theorem OwnN.nodes {w : World} {v : Value} (h : OwnN n0 w v L) : NodesAt w v L := by
  obtain ⟨sv, cap, rfl⟩ := h.shape
  refine ⟨sv, cap, rfl, fun hne => ?_⟩
  obtain ⟨n, hn⟩ : ∃ n, L[0]? = some n := by
    cases L with
    | nil => exact absurd rfl hne
    | cons n L => exact ⟨n, rfl⟩
  obtain ⟨g, rfl, _⟩ := h.eight hn
  refine ⟨g, 0, rfl, fun i n hi j hj => ?_⟩
  obtain ⟨g', cap', hv, _, _, hc⟩ := h.row hi
  cases hv
  rw [Nat.zero_add]
  exact hc j hj

end Go.Proofs.Ytbmejpghoafapaa
