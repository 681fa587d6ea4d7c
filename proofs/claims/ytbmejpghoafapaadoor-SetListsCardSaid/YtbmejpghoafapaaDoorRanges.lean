/-
  The walk of set.Ranges.
-/
import Derived.Test.YtbmejpghoafapaaDoorRg
import Derived.Deep.CutRange
namespace Go.Proofs.YtbmejpghoafapaaDoor
open Go.RowKit

theorem Tryd.info44 : (Tryd.prog.info? 44).map (fun i => (i.zero, i.size, i.bytes)) = some (some (.agg #[.int .u8 0, .int .u8 0]), 2, 2) := by kernel_rfl
theorem OwnR.snoc {n0 : Nat} {w : World} {v : Value} {R : List (Nat × Nat)} {p : Nat × Nat} (h : w.ownsRow n0 44 2 v (R.length + 1) (R.flatMap rc ++ rc p)) : OwnR n0 w v (R ++ [p]) := by
  simpa [OwnR] using h
theorem row_mono {w : World} {n0 n1 : Nat} {v : Value} {e : TypeId} {s n : Nat} {l : List Value} (h : w.ownsRow n0 e s v n l) (hn : n1 ≤ n0) : w.ownsRow n1 e s v n l :=
  ⟨h.1, h.2.imp id fun ⟨g, cap, cur, h1, h2, h3⟩ => ⟨g, cap, cur, h1, Nat.le_trans hn h2, h3⟩⟩
theorem gaps_len : ∀ (R : List (Nat × Nat)), (∀ p ∈ R, p.1 ≤ p.2) → R.length ≤ (R.flatMap rg).length
  | [], _ => Nat.le_refl _
  | p :: R, h => by
    have h1 := gaps_len R fun q hq => h q (List.mem_cons_of_mem _ hq)
    have h2 := h p List.mem_cons_self
    rw [List.flatMap_cons, List.length_append, List.length_cons]
    have h3 : (rg p).length = p.2 + 1 - p.1 := by simp [rg]
    omega
theorem Gaps.len {R : List (Nat × Nat)} (h : Gaps R) : R.length ≤ (R.flatMap rg).length :=
  gaps_len R fun p hp => by
    obtain ⟨i, hi, h1⟩ := List.getElem_of_mem hp
    exact h.le i p (by rw [List.getElem?_eq_getElem hi, h1])
theorem gaps_at {R0 : List (Nat × Nat)} {x y : Nat} (h : Gaps (R0 ++ [(x, y)])) {q : Nat × Nat} (hq : R0.getLast? = some q) : q.2 + 1 < x := by
  rw [List.getLast?_eq_getElem?] at hq
  have h1 := (List.getElem?_eq_some_iff.1 hq).1
  refine h.gap (R0.length - 1) q (x, y) ?_ ?_
  · rw [List.getElem?_append_left h1]; exact hq
  · rw [show R0.length - 1 + 1 = R0.length from by omega]; simp
theorem rc_cells (R : List (Nat × Nat)) : (R.flatMap rc).length = R.length * 2 := rc_len R

set_option maxRecDepth 100000 in
set_option maxHeartbeats 1000000 in
theorem ranges_any (f : Nat → Bool) (w : World) : Calls Tryd.prog 15 #[sv f] w fun e w' => (∃ v R, e = .returned v ∧ OwnR w.heap.size w' v R ∧ Gaps R ∧ R.flatMap rg = bs f 256) ∧ Below w.heap.size w w' := by
  obtain ⟨i0, HI, HZ0, HZ1, HZ2⟩ := info_parts Tryd.info44
  have hb0 := Below.alloc (Below.refl w.heap.size w) (Nat.le_refl _) (sob f)
  have hup := bs_up f 256
  have hlt256 : ∀ (k b : Nat), (bs f 256)[k]? = some b → b < 256 := fun k b h => bs_lt h
  have hlen := bs_len f 256
  obtain ⟨L, hL⟩ : ∃ L, bs f 256 = L := ⟨_, rfl⟩
  rw [hL] at hup hlt256 hlen ⊢
  go_enter Tryd.func15, Tryd.ntmps15
  go_wp2_with (go_at_call 11; refine (all_any f _).mono ?_; rintro e w1 ⟨⟨vA, rfl, hA⟩, hb1⟩; rw [hL] at hA; obtain ⟨sa, ca, rfl⟩ := row_shape hA)
  have hsz1 := hb1.size
  have hbl1 : Below w.heap.size w w1 := (by repeat (first | exact Below.refl _ _ | assumption | refine Below.drew ?_ | refine below_drewN' ?_ _ | refine Below.setCell ?_ (by first | omega | (simp; done) | (simp; omega)) _ | refine Below.alloc ?_ (by first | omega | (simp; done) | (simp; omega)) _ | refine Below.trans ?_ (Below.mono (by assumption) (by first | omega | (simp; done) | (simp; omega)))))
  go_loopw [3, 10] (fun vw i wr => ∃ (k : Nat) (R : List (Nat × Nat)), k ≤ L.length ∧ i = .int .i64 k ∧ Below w1.heap.size w1 wr ∧ OwnR w1.heap.size wr vw R ∧ Gaps R ∧ R.flatMap rg = L.take k) (fun _ i _ => (L.length - intOf i).toNat)
  case atStart => exact ⟨0, [], by omega, rfl, Below.refl _ _, World.ownsRow_nil _ _ _ _, gaps_nil, rfl⟩
  case round =>
    obtain ⟨k, R, hk, rfl, hbl, hW, hG, hF⟩ := hrel
    by_cases hlt : k < L.length
    · obtain ⟨b, hb⟩ : ∃ b, L[k]? = some b := ⟨L[k], List.getElem?_eq_getElem hlt⟩
      have hb256 := hlt256 k b hb
      obtain ⟨ga, rfl, hga, hca⟩ := OwnV.at (row_below hA hbl (Nat.le_refl _)) hb
      have hsz := hbl.size
      have hP := Lib.hid (take_next hb)
      obtain ⟨sw, cw, rfl⟩ := row_shape hW
      have hX := fun (w : World) (o : Obj) => Below.alloc (Below.refl w.heap.size w) (Nat.le_refl _) o
      rcases List.eq_nil_or_concat R with rfl | ⟨R0, ⟨x, y⟩, hR0⟩
      · have hF0 : L.take k = [] := hF.symm
        go_wp2_with (refine wpList_append_lies _ rfl (.tmp 37) (.tmp 41) 42 rfl w1.heap.size 44 i0 (.agg #[.int .u8 0, .int .u8 0]) 2 2 Tryd.underlying42 HI HZ0 HZ1 HZ2 rfl (by omega) _ 0 [] rfl (row_below hW (hX _ _) (Nat.le_refl _)) _ 1 1 [.int .u8 (b : Int), .int .u8 (b : Int)] rfl rfl (World.news_of_block (cs := #[.int .u8 (b : Int), .int .u8 (b : Int)]) (heap_alloc_new _ _)) (by simp [Value.oneCell']) (by omega) (by unfold maxLen; omega) (by omega) (by simp; omega) _ rfl ?_; intro g cap w7 hown7 hgrow7 hat7 hlt7)
        have hWX := row_below hW (hX wr (.cells #[.int .u8 (b : Int), .int .u8 (b : Int)] 44)) (Nat.le_refl _)
        have hb7 := row_grown hWX (by simp; omega) hgrow7
        go_round
        case rel => exact ⟨k + 1, [] ++ [(b, b)], by omega, by go_num, (hbl.alloc (by omega) _).trans hb7, OwnR.snoc (R := []) hown7, gaps_snoc gaps_nil (Nat.le_refl _) hb256 (fun q h => by simp at h), by rw [hP.out, hF0, List.nil_append, List.flatMap_singleton, rg_one]; rfl⟩
        case measure => simp [intOf]; omega
      · rw [List.concat_eq_append] at hR0
        subst hR0
        have hRn : R0.length < 256 := by have h1 := hG.len; rw [hF] at h1; simp at h1; omega
        have hxy : x ≤ y := hG.le R0.length (x, y) (by simp)
        have hy256 : y < 256 := hG.lt R0.length (x, y) (by simp)
        have hyb : y < b := last_lt hup hb (by rw [← hF]; exact flat_last hxy)
        obtain ⟨gw, rfl, hg0, hgw, hcw, hfw⟩ := row_cell hW (rc_at (i := R0.length) (p := (x, y)) (by simp)).2
        by_cases he : y + 1 = b
        · have hd : decide ((y : Int) + 1 = (b : Int)) = true := by simp; omega
          have hset := OwnR.last (b := b) hW (g := gw) rfl
          go_wp2_with fail
          go_round
          case rel => exact ⟨k + 1, R0 ++ [(x, b)], by omega, by go_num, Below.setCell hbl (by simpa using hg0) _, by simpa using hset, gaps_snoc (gaps_init hG) (by show x ≤ b; omega) hb256 (fun q hq => gaps_at hG hq), by rw [hP.out, ← hF, ← he, List.flatMap_append, List.flatMap_append, List.flatMap_singleton, List.flatMap_singleton, rg_next hxy, List.append_assoc]⟩
          case measure => simp [intOf]; omega
        · have hd : decide ((y : Int) + 1 = (b : Int)) = false := by simp; omega
          have hl : (R0 ++ [(x, y)]).length = R0.length + 1 := by simp
          go_upto_region 8 with fail
          clear hcw hfw
          generalize (some ({ block := gw, off := 0 } : Addr)) = sw at *
          go_wp2_with (refine wpList_append_lies _ rfl (.tmp 37) (.tmp 41) 42 rfl w1.heap.size 44 i0 (.agg #[.int .u8 0, .int .u8 0]) 2 2 Tryd.underlying42 HI HZ0 HZ1 HZ2 rfl (by omega) _ (R0 ++ [(x, y)]).length ((R0 ++ [(x, y)]).flatMap rc) rfl (row_below hW (hX wr (.cells #[.int .u8 (b : Int), .int .u8 (b : Int)] 44)) (Nat.le_refl _)) _ 1 1 [.int .u8 (b : Int), .int .u8 (b : Int)] rfl rfl (World.news_of_block (cs := #[.int .u8 (b : Int), .int .u8 (b : Int)]) (heap_alloc_new _ _)) (by simp [Value.oneCell']) (by omega) (by unfold maxLen; omega) (by omega) (by simp; omega) _ rfl ?_; intro g cap w7 hown7 hgrow7 hat7 hlt7)
          have hWX := row_below hW (hX wr (.cells #[.int .u8 (b : Int), .int .u8 (b : Int)] 44)) (Nat.le_refl _)
          have hb7 := row_grown hWX (by simp; omega) hgrow7
          go_round
          case rel => exact ⟨k + 1, R0 ++ [(x, y)] ++ [(b, b)], by omega, by go_num, (hbl.alloc (by omega) _).trans hb7, (by have h9 := OwnR.snoc (p := (b, b)) hown7; rw [hl] at h9; exact h9), gaps_snoc hG (Nat.le_refl _) hb256 (fun q hq => by rw [List.getLast?_concat] at hq; cases hq; show y + 1 < b; omega), by rw [hP.out, ← hF, List.flatMap_append (ys := [(b, b)]), List.flatMap_singleton, rg_one]⟩
          case measure => simp [intOf]; omega
    · obtain rfl : k = L.length := by omega
      go_wp2_with fail
      go_ret
      exact ⟨⟨_, _, rfl, row_mono hW (by simp at hsz1; omega), hG, by rw [hF, List.take_length]⟩, hbl1.trans (hbl.mono (by simp at hsz1; omega))⟩

end Go.Proofs.YtbmejpghoafapaaDoor
