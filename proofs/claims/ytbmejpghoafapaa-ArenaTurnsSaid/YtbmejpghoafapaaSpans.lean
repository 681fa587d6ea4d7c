/-
  The walk of bolterref09.Spans.
-/
import Derived.Test.YtbmejpghoafapaaSpn
import Derived.Deep.AppendLies
import Derived.Deep.CutRange
namespace Go.Proofs.Ytbmejpghoafapaa
open Go.RowKit Go.Maps
variable {W : World} {n : Nat}

set_option maxRecDepth 100000 in
set_option maxHeartbeats 16000000 in
theorem spans_any {L : List Nd} (hw : WfN L) (hL : L.length ≤ 100) {v wv bv : Value} {wl bl : List Int} (hv : NodesAt W v L) (hwv : BytesAt W wv wl) (hbv : BytesAt W bv bl) (hn : wl.length + 1 = n) (hn8 : wl.length ≤ 8) (hbl : bl.length = n) :
    Calls Try.prog 42 #[v, wv, bv] W fun e w' => (∃ x g r, e = .returned x ∧ Tabs W.heap.size w' n x L.length g r (tS n wl bl L L.length)) ∧ Below W.heap.size W w' := by
  obtain ⟨i7, HI, HZ0, HZ1, HZ2⟩ := info_parts Try.info67
  replace HI := Lib.hid HI
  replace HZ0 := Lib.hid HZ0
  replace HZ1 := Lib.hid HZ1
  replace HZ2 := Lib.hid HZ2
  have hv0 := hv
  obtain ⟨a, cap, rfl, hs⟩ := hv0
  clear hs
  have hw0 := hwv
  have hb0 := hbv
  obtain ⟨hw256, aw, capw, rfl, hsw⟩ := hw0
  replace hsw := Lib.hid hsw
  obtain ⟨hb256, ab, capb, rfl, hsb⟩ := hb0
  replace hsb := Lib.hid hsb
  have hnz : (wl.length : Int) + 1 = (n : Int) := by omega
  have hX := fun (w : World) (o : Obj) => Below.alloc (Below.refl w.heap.size w) (Nat.le_refl _) o
  have hn100 : n ≤ 100 := by omega
  have hnE := Lib.hid hn
  have hblE := Lib.hid hbl
  clear hn hbl
  go_enter Try.func42, Try.ntmps42
  go_wp2_with fail
  go_loopw [8, 19] (fun ov iv wr => ∃ (k : Nat) (g : Nat → Nat) (r : Nat → Nat → Nat), k ≤ L.length ∧ iv = .int .i64 k ∧ Below W.heap.size W wr ∧ Tabs W.heap.size wr n ov k g r (tS n wl bl L k)) (fun _ iv _ => (L.length - intOf iv).toNat)
  case atStart => exact ⟨0, fun _ => 0, fun _ _ => 0, by omega, rfl, Below.refl _ _, tabs_nil _ _ _ _ _ _⟩
  case round =>
    obtain ⟨k, g, r, hk, rfl, hbl, hT⟩ := hrel
    by_cases hlt : k < L.length
    · obtain ⟨x, hx⟩ : ∃ x, L[k]? = some x := ⟨L[k], List.getElem?_eq_getElem hlt⟩
      have hsz := hbl.size
      obtain ⟨bb, off, rfl, hE⟩ := (hv.below hbl (Nat.le_refl _)).eight hx
      obtain ⟨e0, e1, e2, e3, e4, e5, e6, e7⟩ := hE
      have hN0 := HoldsN.made wr na0 rfl
      have hok := hw k x hx
      have HTN := Lib.hid (tS_new (n := n) (wl := wl) (bl := bl) hx)
      obtain ⟨so, co, rfl⟩ := hT.shape
      clear hx
      obtain ⟨kd, f, na, nb, ng⟩ := x
      simp only at e0 e1 e2 e3 e4 e5 e6 e7 hok
      have hkd := ok_kind (n := ⟨kd, f, na, nb, ng⟩) hok
      simp only at hkd
      have hKD : kd = 0 ∨ kd = 1 ∨ kd = 2 ∨ kd = 3 ∨ kd = 4 ∨ kd = 5 ∨ kd = 6 ∨ kd = 7 ∨ kd = 8 := by omega
      rcases hKD with rfl | rfl | rfl | rfl | rfl | rfl | rfl | rfl | rfl
      · clear hok hkd
        go_wp2_with (first | (refine wpList_store_node rfl (.tmp 10) (.tmp 25) rfl rfl rfl hN0 rfl rfl (one8 _ _ _ _ _ _ _ _) ?_; intro w4 hN4 hg4; have hb4 : Below wr.heap.size wr w4 := (hX wr _).trans (below_grown hg4 (Nat.le_refl _) (by simp)); have hs4 := hb4.size) | (go_at_call 48; refine (blank_any n hn100 _).mono ?_; rintro e w5 ⟨⟨gx, rx, rfl, hNX⟩, hb5⟩; have hs5 := hb5.size; have hN5 := hN4.below hb5 hN4.lt; obtain ⟨q0, q1, q2, q3, q4, q5, q6, q7⟩ := hN5.cells; have hTX := (hT.below hb4 (Nat.le_refl _)).below hb5 (Nat.le_refl _); have hbX : Below wr.heap.size wr w5 := (by repeat (first | exact Below.refl _ _ | assumption | refine Below.drew ?_ | refine below_drewN' ?_ _ | refine Below.setCell ?_ (by first | omega | (simp; done) | (simp; omega)) _ | refine Below.alloc ?_ (by first | omega | (simp; done) | (simp; omega)) _ | refine Below.trans ?_ (Below.mono (by assumption) (by first | omega | (simp; done) | (simp; omega)))))) | (refine wpList_append_lies _ rfl (.tmp 139) (.tmp 141) 68 rfl W.heap.size 67 i7 (.slice none 0 0) 1 24 Try.underlying68 HI.out HZ0.out HZ1.out HZ2.out rfl (by omega) _ k ((List.range k).map fun i => slv (g i) n) rfl (rowBelow hTX.own (hX w5 _) (Nat.le_refl _)) _ 1 1 [.slice (some ⟨gx, 0, none⟩) n n] rfl rfl (World.news_of_block (cs := #[.slice (some ⟨gx, 0, none⟩) n n]) (heap_alloc_new _ _)) (by simp [Value.oneCell']) (by omega) (by unfold maxLen; omega) (by omega) (by simp; omega) _ rfl ?_; intro gq capq w7 hown7 hgrow7 hat7 hlt7))
        have hTY := hTX.below (hX w5 (.cells #[.slice (some ⟨gx, 0, none⟩) n n] 67)) (Nat.le_refl _)
        have hZ := hTY.snoc (hNX.ht.below (hX w5 (.cells #[.slice (some ⟨gx, 0, none⟩) n n] 67)) (Nat.le_refl _)) hown7 hgrow7
        have hb7 := hTY.row_below (by simp; omega) hgrow7
        go_round
        case rel => exact ⟨k + 1, _, _, by omega, by go_num, ((hbl.trans (hbX.mono hsz)).alloc (by omega) _).trans hb7, hZ.congr (fun i hi => by
          by_cases e : i = k
          · subst e; rw [if_pos rfl, HTN.out]; rfl
          · rw [if_neg e, tS_old (by omega)])⟩
        case measure => simp [intOf]; omega
      · clear hok hkd
        go_wp2_with (first | (refine wpList_store_node rfl (.tmp 10) (.tmp 25) rfl rfl rfl hN0 rfl rfl (one8 _ _ _ _ _ _ _ _) ?_; intro w4 hN4 hg4; have hb4 : Below wr.heap.size wr w4 := (hX wr _).trans (below_grown hg4 (Nat.le_refl _) (by simp)); have hs4 := hb4.size) | (go_at_call 48; refine (blank_any n hn100 _).mono ?_; rintro e w5 ⟨⟨gx, rx, rfl, hNX⟩, hb5⟩; have hs5 := hb5.size; have hN5 := hN4.below hb5 hN4.lt; obtain ⟨q0, q1, q2, q3, q4, q5, q6, q7⟩ := hN5.cells; have hTX := (hT.below hb4 (Nat.le_refl _)).below hb5 (Nat.le_refl _); have hbX : Below wr.heap.size wr w5 := (by repeat (first | exact Below.refl _ _ | assumption | refine Below.drew ?_ | refine below_drewN' ?_ _ | refine Below.setCell ?_ (by first | omega | (simp; done) | (simp; omega)) _ | refine Below.alloc ?_ (by first | omega | (simp; done) | (simp; omega)) _ | refine Below.trans ?_ (Below.mono (by assumption) (by first | omega | (simp; done) | (simp; omega)))))) | (go_at_call 49; refine (one_any n hn100 _).mono ?_; rintro e w6 ⟨⟨gy, ry, rfl, hNY⟩, hb6⟩; have hs6 := hb6.size; replace hTX := hTX.below hb6 (Nat.le_refl _); replace hbX : Below wr.heap.size wr w6 := (by repeat (first | exact Below.refl _ _ | assumption | refine Below.drew ?_ | refine below_drewN' ?_ _ | refine Below.setCell ?_ (by first | omega | (simp; done) | (simp; omega)) _ | refine Below.alloc ?_ (by first | omega | (simp; done) | (simp; omega)) _ | refine Below.trans ?_ (Below.mono (by assumption) (by first | omega | (simp; done) | (simp; omega)))))) | (refine wpList_append_lies _ rfl (.tmp 139) (.tmp 141) 68 rfl W.heap.size 67 i7 (.slice none 0 0) 1 24 Try.underlying68 HI.out HZ0.out HZ1.out HZ2.out rfl (by omega) _ k ((List.range k).map fun i => slv (g i) n) rfl (rowBelow hTX.own (hX w6 _) (Nat.le_refl _)) _ 1 1 [.slice (some ⟨gy, 0, none⟩) n n] rfl rfl (World.news_of_block (cs := #[.slice (some ⟨gy, 0, none⟩) n n]) (heap_alloc_new _ _)) (by simp [Value.oneCell']) (by omega) (by unfold maxLen; omega) (by omega) (by simp; omega) _ rfl ?_; intro gq capq w7 hown7 hgrow7 hat7 hlt7))
        have hTY := hTX.below (hX w6 (.cells #[.slice (some ⟨gy, 0, none⟩) n n] 67)) (Nat.le_refl _)
        have hZ := hTY.snoc (hNY.ht.below (hX w6 (.cells #[.slice (some ⟨gy, 0, none⟩) n n] 67)) (Nat.le_refl _)) hown7 hgrow7
        have hb7 := hTY.row_below (by simp; omega) hgrow7
        go_round
        case rel => exact ⟨k + 1, _, _, by omega, by go_num, ((hbl.trans (hbX.mono hsz)).alloc (by omega) _).trans hb7, hZ.congr (fun i hi => by
          by_cases e : i = k
          · subst e; rw [if_pos rfl, HTN.out]; rfl
          · rw [if_neg e, tS_old (by omega)])⟩
        case measure => simp [intOf]; omega
      · clear hok hkd
        go_wp2_with (first | (refine wpList_store_node rfl (.tmp 10) (.tmp 25) rfl rfl rfl hN0 rfl rfl (one8 _ _ _ _ _ _ _ _) ?_; intro w4 hN4 hg4; have hb4 : Below wr.heap.size wr w4 := (hX wr _).trans (below_grown hg4 (Nat.le_refl _) (by simp)); have hs4 := hb4.size) | (go_at_call 48; refine (blank_any n hn100 _).mono ?_; rintro e w5 ⟨⟨gx, rx, rfl, hNX⟩, hb5⟩; have hs5 := hb5.size; have hN5 := hN4.below hb5 hN4.lt; obtain ⟨q0, q1, q2, q3, q4, q5, q6, q7⟩ := hN5.cells; have hTX := (hT.below hb4 (Nat.le_refl _)).below hb5 (Nat.le_refl _); have hbX : Below wr.heap.size wr w5 := (by repeat (first | exact Below.refl _ _ | assumption | refine Below.drew ?_ | refine below_drewN' ?_ _ | refine Below.setCell ?_ (by first | omega | (simp; done) | (simp; omega)) _ | refine Below.alloc ?_ (by first | omega | (simp; done) | (simp; omega)) _ | refine Below.trans ?_ (Below.mono (by assumption) (by first | omega | (simp; done) | (simp; omega)))))))
        have hcl := Lib.hid (hNX.lo)
        rw [← part_zero (tBytes f wl)] at hNX
        obtain ⟨wo, rfl⟩ : ∃ wo : World, wo = wr := ⟨_, rfl⟩
        clear q0 q1 q2 q3 q4 q5 q6 q7 hTX hbX
        go_loopw [38] (fun mv wz => ∃ m : Nat, m ≤ wl.length ∧ mv = .int .i64 m ∧ Below w4.heap.size w4 wz ∧ NT w4.heap.size wz gx n rx (part (tBytes f wl) m 0)) (fun mv _ => (wl.length - intOf mv).toNat)
        case atStart => exact ⟨0, by omega, rfl, hb5, hNX⟩
        case round =>
          clear hNX hb5 hs5 hN5
          obtain ⟨m, hm, rfl, hbz, hNX⟩ := hrel
          have hszz := hbz.size
          by_cases hlm : m < wl.length
          · obtain ⟨bw, offw, rfl, hcw⟩ := hsw.out (by intro e; rw [e] at hlm; simp at hlm)
            obtain ⟨hx0, hx1⟩ := hw256 _ (getD_mem hlm)
            have hmn : m < n := by have := hnE.out; omega
            have hmn1 : m + 1 < n := by have := hnE.out; omega
            have hcm := cell_later (hbl.trans ((hb4.mono hsz).trans (hbz.mono (by omega)))) (hcw m hlm)
            have hE := tBytes_at (f := f) hlm
            have hD := part_diag (tBytes f wl) (tBytes_no f wl m)
            obtain ⟨v, hv'⟩ : ∃ v, f (wl.getD m 0).toNat = v := ⟨_, rfl⟩
            rw [hE, hv'] at hD
            have HV := Lib.hid hv'
            have HF := Lib.hid hD
            clear hE hD hv' hcw
            generalize wl.getD m 0 = x at *
            have hN5 := hN4.below hbz hN4.lt
            have hue : ∀ u : Wk wr.heap.size wr, u.val.cell? ⟨bw, offw + m, none⟩ = some (.int .u8 x) := fun u => cell_later u.ok hcm
            have huc : ∀ u : Wk wr.heap.size wr, u.val.cell? ⟨gx, m, none⟩ = some (.slice (some ⟨rx m, 0, none⟩) n n) := fun u => HT.c (hNX.ht.below u.ok (Nat.le_refl _)) hmn
            have huv := fun u : Wk wr.heap.size wr => HT.e (hNX.ht.below u.ok (Nat.le_refl _)) hmn hmn1
            have huf := fun u : Wk wr.heap.size wr => HT.fz (hNX.ht.below u.ok (Nat.le_refl _)) hmn (m + 1)
            have q1 := fun u : Wk wr.heap.size wr => (hN5.below u.ok hN5.lt).cells.2.1
            have q2 := fun u : Wk wr.heap.size wr => (hN5.below u.ok hN5.lt).cells.2.2.1
            have q3 := fun u : Wk wr.heap.size wr => (hN5.below u.ok hN5.lt).cells.2.2.2.1
            have q4 := fun u : Wk wr.heap.size wr => (hN5.below u.ok hN5.lt).cells.2.2.2.2.1
            go_wp2_with fail
            refine wp_region_tail (fun w' => ∃ u : Wk wr.heap.size wr, w' = u.val) 15 (by kernel_rfl) (by kernel_rfl) ⟨⟨_, (Below.refl _ _).drew⟩, rfl⟩ ?_
            simp only [List.take_succ_cons, List.take_zero, List.drop_succ_cons, List.drop_zero]
            repeat (go_big_quiet_step (first | (exact wk_call (Nat.le_refl _) _ (refHas_val HV.out _ (by omega) (by omega)))))
            refine wpQuiet_nil ?_
            rintro w' ⟨u, rfl⟩
            go_wp2_with fail
            go_round
            case rel =>
              have hp := (hNX.below u.ok (Nat.le_refl _)).put hmn (m + 1) v
              rw [HF.out] at hp
              exact ⟨m + 1, by omega, by go_num, (hNX.below u.ok (Nat.le_refl _)).put_below hmn (m + 1) v (hbz.trans (u.ok.mono hszz)), hp⟩
            case measure => simp [intOf]; omega
          · obtain rfl : m = wl.length := by omega
            replace hNX := hNX.congr (tBytes_end f wl)
            have hTX := (hT.below hb4 (Nat.le_refl _)).below hbz (Nat.le_refl _)
            have hbX : Below wo.heap.size wo wr := hb4.trans (hbz.mono hs4)
            have hs5 := hbX.size
            go_wp2_with (refine wpList_append_lies _ rfl (.tmp 139) (.tmp 141) 68 rfl W.heap.size 67 i7 (.slice none 0 0) 1 24 Try.underlying68 HI.out HZ0.out HZ1.out HZ2.out rfl (by omega) _ k ((List.range k).map fun i => slv (g i) n) rfl (rowBelow hTX.own (hX wr _) (Nat.le_refl _)) _ 1 1 [.slice (some ⟨gx, 0, none⟩) n n] rfl rfl (World.news_of_block (cs := #[.slice (some ⟨gx, 0, none⟩) n n]) (heap_alloc_new _ _)) (by simp [Value.oneCell']) (by omega) (by unfold maxLen; omega) (by omega) (by simp; omega) _ rfl ?_; intro gq capq w7 hown7 hgrow7 hat7 hlt7)
            have hTY := hTX.below (hX wr (.cells #[.slice (some ⟨gx, 0, none⟩) n n] 67)) (Nat.le_refl _)
            have hZ := hTY.snoc (hNX.ht.below (hX wr (.cells #[.slice (some ⟨gx, 0, none⟩) n n] 67)) (Nat.le_refl _)) hown7 hgrow7
            have hb7 := hTY.row_below (by simp; omega) hgrow7
            go_round
            case rel => exact ⟨k + 1, _, _, by omega, by go_num, ((hbl.trans (hbX.mono hsz)).alloc (by omega) _).trans hb7, hZ.congr (fun i hi => by
              by_cases e : i = k
              · subst e; rw [if_pos rfl, HTN.out]; rfl
              · rw [if_neg e, tS_old (by omega)])⟩
            case measure => simp [intOf]; omega
      · obtain ⟨h1, h2⟩ := ok_two (n := ⟨3, f, na, nb, ng⟩) hok (by simp)
        simp only at h1 h2
        obtain ⟨c, rfl⟩ : ∃ c : Nat, na = c := ⟨na.toNat, by omega⟩
        obtain ⟨d, rfl⟩ : ∃ d : Nat, nb = d := ⟨nb.toNat, by omega⟩
        have hc : c < k := by omega
        have hd : d < k := by omega
        clear hok hkd h1 h2
        go_wp2_with (first | (refine wpList_store_node rfl (.tmp 10) (.tmp 25) rfl rfl rfl hN0 rfl rfl (one8 _ _ _ _ _ _ _ _) ?_; intro w4 hN4 hg4; have hb4 : Below wr.heap.size wr w4 := (hX wr _).trans (below_grown hg4 (Nat.le_refl _) (by simp)); have hs4 := hb4.size) | (go_at_call 48; refine (blank_any n hn100 _).mono ?_; rintro e w5 ⟨⟨gx, rx, rfl, hNX⟩, hb5⟩; have hs5 := hb5.size; have hN5 := hN4.below hb5 hN4.lt; obtain ⟨q0, q1, q2, q3, q4, q5, q6, q7⟩ := hN5.cells; have hTX := (hT.below hb4 (Nat.le_refl _)).below hb5 (Nat.le_refl _); have hbX : Below wr.heap.size wr w5 := (by repeat (first | exact Below.refl _ _ | assumption | refine Below.drew ?_ | refine below_drewN' ?_ _ | refine Below.setCell ?_ (by first | omega | (simp; done) | (simp; omega)) _ | refine Below.alloc ?_ (by first | omega | (simp; done) | (simp; omega)) _ | refine Below.trans ?_ (Below.mono (by assumption) (by first | omega | (simp; done) | (simp; omega))))); obtain ⟨go, rfl, hgo⟩ := hTX.cell (by omega); have hgc := hgo c hc; have hgd := hgo d hd; clear hgo))
        refine wp_region_tail (fun w' => ∃ nq, w' = w5.drewN nq) 10 (by kernel_rfl) (by kernel_rfl) ⟨1, rfl⟩ ?_
        simp only [List.take_succ_cons, List.take_zero, List.drop_succ_cons, List.drop_zero]
        repeat (go_big_quiet_step (fail))
        refine wpQuiet_nil ?_
        rintro w' ⟨nq, rfl⟩
        go_upto_region 33 with (go_at_call 50; refine (then_any n hn100 ((hTX.tab c hc).below (below_drewN' (Below.refl w5.heap.size w5) nq) (Nat.le_refl _)) ((hTX.tab d hd).below (below_drewN' (Below.refl w5.heap.size w5) nq) (Nat.le_refl _))).mono ?_; rintro e w6 ⟨⟨gy, ry, rfl, hNY⟩, hb6⟩; have hs6 := hb6.size; have hbd := below_drewN' (Below.refl w5.heap.size w5) nq; replace hb6 : Below w5.heap.size w5 w6 := hbd.trans hb6; replace hTX := hTX.below hb6 (Nat.le_refl _); replace hbX : Below wr.heap.size wr w6 := (by repeat (first | exact Below.refl _ _ | assumption | refine Below.drew ?_ | refine below_drewN' ?_ _ | refine Below.setCell ?_ (by first | omega | (simp; done) | (simp; omega)) _ | refine Below.alloc ?_ (by first | omega | (simp; done) | (simp; omega)) _ | refine Below.trans ?_ (Below.mono (by assumption) (by first | omega | (simp; done) | (simp; omega))))); replace hs6 := hb6.size)
        generalize (some ({ block := go, off := 0 } : Addr)) = so at *
        clear hgc hgd
        go_wp2_with (refine wpList_append_lies _ rfl (.tmp 139) (.tmp 141) 68 rfl W.heap.size 67 i7 (.slice none 0 0) 1 24 Try.underlying68 HI.out HZ0.out HZ1.out HZ2.out rfl (by omega) _ k ((List.range k).map fun i => slv (g i) n) rfl (rowBelow hTX.own (hX w6 _) (Nat.le_refl _)) _ 1 1 [.slice (some ⟨gy, 0, none⟩) n n] rfl rfl (World.news_of_block (cs := #[.slice (some ⟨gy, 0, none⟩) n n]) (heap_alloc_new _ _)) (by simp [Value.oneCell']) (by omega) (by unfold maxLen; omega) (by omega) (by simp; omega) _ rfl ?_; intro gq capq w7 hown7 hgrow7 hat7 hlt7)
        have hTY := hTX.below (hX w6 (.cells #[.slice (some ⟨gy, 0, none⟩) n n] 67)) (Nat.le_refl _)
        have hZ := hTY.snoc (hNY.ht.below (hX w6 (.cells #[.slice (some ⟨gy, 0, none⟩) n n] 67)) (Nat.le_refl _)) hown7 hgrow7
        have hb7 := hTY.row_below (by simp; omega) hgrow7
        go_round
        case rel => exact ⟨k + 1, _, _, by omega, by go_num, ((hbl.trans (hbX.mono hsz)).alloc (by omega) _).trans hb7, hZ.congr (fun i hi => by
          by_cases e : i = k
          · subst e; rw [if_pos rfl, HTN.out]; rfl
          · rw [if_neg e, tS_old (by omega)])⟩
        case measure => simp [intOf]; omega
      · obtain ⟨h1, h2⟩ := ok_two (n := ⟨4, f, na, nb, ng⟩) hok (by simp)
        simp only at h1 h2
        obtain ⟨c, rfl⟩ : ∃ c : Nat, na = c := ⟨na.toNat, by omega⟩
        obtain ⟨d, rfl⟩ : ∃ d : Nat, nb = d := ⟨nb.toNat, by omega⟩
        have hc : c < k := by omega
        have hd : d < k := by omega
        clear hok hkd h1 h2
        go_wp2_with (first | (refine wpList_store_node rfl (.tmp 10) (.tmp 25) rfl rfl rfl hN0 rfl rfl (one8 _ _ _ _ _ _ _ _) ?_; intro w4 hN4 hg4; have hb4 : Below wr.heap.size wr w4 := (hX wr _).trans (below_grown hg4 (Nat.le_refl _) (by simp)); have hs4 := hb4.size) | (go_at_call 48; refine (blank_any n hn100 _).mono ?_; rintro e w5 ⟨⟨gx, rx, rfl, hNX⟩, hb5⟩; have hs5 := hb5.size; have hN5 := hN4.below hb5 hN4.lt; obtain ⟨q0, q1, q2, q3, q4, q5, q6, q7⟩ := hN5.cells; have hTX := (hT.below hb4 (Nat.le_refl _)).below hb5 (Nat.le_refl _); have hbX : Below wr.heap.size wr w5 := (by repeat (first | exact Below.refl _ _ | assumption | refine Below.drew ?_ | refine below_drewN' ?_ _ | refine Below.setCell ?_ (by first | omega | (simp; done) | (simp; omega)) _ | refine Below.alloc ?_ (by first | omega | (simp; done) | (simp; omega)) _ | refine Below.trans ?_ (Below.mono (by assumption) (by first | omega | (simp; done) | (simp; omega))))); obtain ⟨go, rfl, hgo⟩ := hTX.cell (by omega); have hgc := hgo c hc; have hgd := hgo d hd; clear hgo))
        refine wp_region_tail (fun w' => ∃ nq, w' = w5.drewN nq) 10 (by kernel_rfl) (by kernel_rfl) ⟨1, rfl⟩ ?_
        simp only [List.take_succ_cons, List.take_zero, List.drop_succ_cons, List.drop_zero]
        repeat (go_big_quiet_step (fail))
        refine wpQuiet_nil ?_
        rintro w' ⟨nq, rfl⟩
        go_upto_region 33 with (go_at_call 51; refine (either_any n hn100 ((hTX.tab c hc).below (below_drewN' (Below.refl w5.heap.size w5) nq) (Nat.le_refl _)) ((hTX.tab d hd).below (below_drewN' (Below.refl w5.heap.size w5) nq) (Nat.le_refl _))).mono ?_; rintro e w6 ⟨⟨gy, ry, rfl, hNY⟩, hb6⟩; have hs6 := hb6.size; have hbd := below_drewN' (Below.refl w5.heap.size w5) nq; replace hb6 : Below w5.heap.size w5 w6 := hbd.trans hb6; replace hTX := hTX.below hb6 (Nat.le_refl _); replace hbX : Below wr.heap.size wr w6 := (by repeat (first | exact Below.refl _ _ | assumption | refine Below.drew ?_ | refine below_drewN' ?_ _ | refine Below.setCell ?_ (by first | omega | (simp; done) | (simp; omega)) _ | refine Below.alloc ?_ (by first | omega | (simp; done) | (simp; omega)) _ | refine Below.trans ?_ (Below.mono (by assumption) (by first | omega | (simp; done) | (simp; omega))))); replace hs6 := hb6.size)
        generalize (some ({ block := go, off := 0 } : Addr)) = so at *
        clear hgc hgd
        go_wp2_with (refine wpList_append_lies _ rfl (.tmp 139) (.tmp 141) 68 rfl W.heap.size 67 i7 (.slice none 0 0) 1 24 Try.underlying68 HI.out HZ0.out HZ1.out HZ2.out rfl (by omega) _ k ((List.range k).map fun i => slv (g i) n) rfl (rowBelow hTX.own (hX w6 _) (Nat.le_refl _)) _ 1 1 [.slice (some ⟨gy, 0, none⟩) n n] rfl rfl (World.news_of_block (cs := #[.slice (some ⟨gy, 0, none⟩) n n]) (heap_alloc_new _ _)) (by simp [Value.oneCell']) (by omega) (by unfold maxLen; omega) (by omega) (by simp; omega) _ rfl ?_; intro gq capq w7 hown7 hgrow7 hat7 hlt7)
        have hTY := hTX.below (hX w6 (.cells #[.slice (some ⟨gy, 0, none⟩) n n] 67)) (Nat.le_refl _)
        have hZ := hTY.snoc (hNY.ht.below (hX w6 (.cells #[.slice (some ⟨gy, 0, none⟩) n n] 67)) (Nat.le_refl _)) hown7 hgrow7
        have hb7 := hTY.row_below (by simp; omega) hgrow7
        go_round
        case rel => exact ⟨k + 1, _, _, by omega, by go_num, ((hbl.trans (hbX.mono hsz)).alloc (by omega) _).trans hb7, hZ.congr (fun i hi => by
          by_cases e : i = k
          · subst e; rw [if_pos rfl, HTN.out]; rfl
          · rw [if_neg e, tS_old (by omega)])⟩
        case measure => simp [intOf]; omega
      · obtain ⟨h1, h2⟩ := ok_two (n := ⟨5, f, na, nb, ng⟩) hok (by simp)
        simp only at h1 h2
        obtain ⟨c, rfl⟩ : ∃ c : Nat, na = c := ⟨na.toNat, by omega⟩
        obtain ⟨d, rfl⟩ : ∃ d : Nat, nb = d := ⟨nb.toNat, by omega⟩
        have hc : c < k := by omega
        have hd : d < k := by omega
        clear hok hkd h1 h2
        go_wp2_with (first | (refine wpList_store_node rfl (.tmp 10) (.tmp 25) rfl rfl rfl hN0 rfl rfl (one8 _ _ _ _ _ _ _ _) ?_; intro w4 hN4 hg4; have hb4 : Below wr.heap.size wr w4 := (hX wr _).trans (below_grown hg4 (Nat.le_refl _) (by simp)); have hs4 := hb4.size) | (go_at_call 48; refine (blank_any n hn100 _).mono ?_; rintro e w5 ⟨⟨gx, rx, rfl, hNX⟩, hb5⟩; have hs5 := hb5.size; have hN5 := hN4.below hb5 hN4.lt; obtain ⟨q0, q1, q2, q3, q4, q5, q6, q7⟩ := hN5.cells; have hTX := (hT.below hb4 (Nat.le_refl _)).below hb5 (Nat.le_refl _); have hbX : Below wr.heap.size wr w5 := (by repeat (first | exact Below.refl _ _ | assumption | refine Below.drew ?_ | refine below_drewN' ?_ _ | refine Below.setCell ?_ (by first | omega | (simp; done) | (simp; omega)) _ | refine Below.alloc ?_ (by first | omega | (simp; done) | (simp; omega)) _ | refine Below.trans ?_ (Below.mono (by assumption) (by first | omega | (simp; done) | (simp; omega))))); obtain ⟨go, rfl, hgo⟩ := hTX.cell (by omega); have hgc := hgo c hc; have hgd := hgo d hd; clear hgo))
        refine wp_region_tail (fun w' => ∃ nq, w' = w5.drewN nq) 10 (by kernel_rfl) (by kernel_rfl) ⟨1, rfl⟩ ?_
        simp only [List.take_succ_cons, List.take_zero, List.drop_succ_cons, List.drop_zero]
        repeat (go_big_quiet_step (fail))
        refine wpQuiet_nil ?_
        rintro w' ⟨nq, rfl⟩
        go_upto_region 33 with (go_at_call 52; refine (both_any n hn100 ((hTX.tab c hc).below (below_drewN' (Below.refl w5.heap.size w5) nq) (Nat.le_refl _)) ((hTX.tab d hd).below (below_drewN' (Below.refl w5.heap.size w5) nq) (Nat.le_refl _))).mono ?_; rintro e w6 ⟨⟨gy, ry, rfl, hNY⟩, hb6⟩; have hs6 := hb6.size; have hbd := below_drewN' (Below.refl w5.heap.size w5) nq; replace hb6 : Below w5.heap.size w5 w6 := hbd.trans hb6; replace hTX := hTX.below hb6 (Nat.le_refl _); replace hbX : Below wr.heap.size wr w6 := (by repeat (first | exact Below.refl _ _ | assumption | refine Below.drew ?_ | refine below_drewN' ?_ _ | refine Below.setCell ?_ (by first | omega | (simp; done) | (simp; omega)) _ | refine Below.alloc ?_ (by first | omega | (simp; done) | (simp; omega)) _ | refine Below.trans ?_ (Below.mono (by assumption) (by first | omega | (simp; done) | (simp; omega))))); replace hs6 := hb6.size)
        generalize (some ({ block := go, off := 0 } : Addr)) = so at *
        clear hgc hgd
        go_wp2_with (refine wpList_append_lies _ rfl (.tmp 139) (.tmp 141) 68 rfl W.heap.size 67 i7 (.slice none 0 0) 1 24 Try.underlying68 HI.out HZ0.out HZ1.out HZ2.out rfl (by omega) _ k ((List.range k).map fun i => slv (g i) n) rfl (rowBelow hTX.own (hX w6 _) (Nat.le_refl _)) _ 1 1 [.slice (some ⟨gy, 0, none⟩) n n] rfl rfl (World.news_of_block (cs := #[.slice (some ⟨gy, 0, none⟩) n n]) (heap_alloc_new _ _)) (by simp [Value.oneCell']) (by omega) (by unfold maxLen; omega) (by omega) (by simp; omega) _ rfl ?_; intro gq capq w7 hown7 hgrow7 hat7 hlt7)
        have hTY := hTX.below (hX w6 (.cells #[.slice (some ⟨gy, 0, none⟩) n n] 67)) (Nat.le_refl _)
        have hZ := hTY.snoc (hNY.ht.below (hX w6 (.cells #[.slice (some ⟨gy, 0, none⟩) n n] 67)) (Nat.le_refl _)) hown7 hgrow7
        have hb7 := hTY.row_below (by simp; omega) hgrow7
        go_round
        case rel => exact ⟨k + 1, _, _, by omega, by go_num, ((hbl.trans (hbX.mono hsz)).alloc (by omega) _).trans hb7, hZ.congr (fun i hi => by
          by_cases e : i = k
          · subst e; rw [if_pos rfl, HTN.out]; rfl
          · rw [if_neg e, tS_old (by omega)])⟩
        case measure => simp [intOf]; omega
      · have h1 := ok_one (n := ⟨6, f, na, nb, ng⟩) hok (by simp)
        simp only at h1
        obtain ⟨c, rfl⟩ : ∃ c : Nat, na = c := ⟨na.toNat, by omega⟩
        have hc : c < k := by omega
        clear hok hkd h1
        go_upto_region 33 with (first | (refine wpList_store_node rfl (.tmp 10) (.tmp 25) rfl rfl rfl hN0 rfl rfl (one8 _ _ _ _ _ _ _ _) ?_; intro w4 hN4 hg4; have hb4 : Below wr.heap.size wr w4 := (hX wr _).trans (below_grown hg4 (Nat.le_refl _) (by simp)); have hs4 := hb4.size) | (go_at_call 48; refine (blank_any n hn100 _).mono ?_; rintro e w5 ⟨⟨gx, rx, rfl, hNX⟩, hb5⟩; have hs5 := hb5.size; have hN5 := hN4.below hb5 hN4.lt; obtain ⟨q0, q1, q2, q3, q4, q5, q6, q7⟩ := hN5.cells; have hTX := (hT.below hb4 (Nat.le_refl _)).below hb5 (Nat.le_refl _); have hbX : Below wr.heap.size wr w5 := (by repeat (first | exact Below.refl _ _ | assumption | refine Below.drew ?_ | refine below_drewN' ?_ _ | refine Below.setCell ?_ (by first | omega | (simp; done) | (simp; omega)) _ | refine Below.alloc ?_ (by first | omega | (simp; done) | (simp; omega)) _ | refine Below.trans ?_ (Below.mono (by assumption) (by first | omega | (simp; done) | (simp; omega))))); obtain ⟨go, rfl, hgo⟩ := hTX.cell (by omega); have hgc := hgo c hc; clear hgo) | (go_at_call 53; refine (other_any n hn100 (hTX.tab c hc)).mono ?_; rintro e w6 ⟨⟨gy, ry, rfl, hNY⟩, hb6⟩; have hs6 := hb6.size; replace hTX := hTX.below hb6 (Nat.le_refl _); replace hbX : Below wr.heap.size wr w6 := (by repeat (first | exact Below.refl _ _ | assumption | refine Below.drew ?_ | refine below_drewN' ?_ _ | refine Below.setCell ?_ (by first | omega | (simp; done) | (simp; omega)) _ | refine Below.alloc ?_ (by first | omega | (simp; done) | (simp; omega)) _ | refine Below.trans ?_ (Below.mono (by assumption) (by first | omega | (simp; done) | (simp; omega)))))))
        generalize (some ({ block := go, off := 0 } : Addr)) = so at *
        clear hgc
        go_wp2_with (refine wpList_append_lies _ rfl (.tmp 139) (.tmp 141) 68 rfl W.heap.size 67 i7 (.slice none 0 0) 1 24 Try.underlying68 HI.out HZ0.out HZ1.out HZ2.out rfl (by omega) _ k ((List.range k).map fun i => slv (g i) n) rfl (rowBelow hTX.own (hX w6 _) (Nat.le_refl _)) _ 1 1 [.slice (some ⟨gy, 0, none⟩) n n] rfl rfl (World.news_of_block (cs := #[.slice (some ⟨gy, 0, none⟩) n n]) (heap_alloc_new _ _)) (by simp [Value.oneCell']) (by omega) (by unfold maxLen; omega) (by omega) (by simp; omega) _ rfl ?_; intro gq capq w7 hown7 hgrow7 hat7 hlt7)
        have hTY := hTX.below (hX w6 (.cells #[.slice (some ⟨gy, 0, none⟩) n n] 67)) (Nat.le_refl _)
        have hZ := hTY.snoc (hNY.ht.below (hX w6 (.cells #[.slice (some ⟨gy, 0, none⟩) n n] 67)) (Nat.le_refl _)) hown7 hgrow7
        have hb7 := hTY.row_below (by simp; omega) hgrow7
        go_round
        case rel => exact ⟨k + 1, _, _, by omega, by go_num, ((hbl.trans (hbX.mono hsz)).alloc (by omega) _).trans hb7, hZ.congr (fun i hi => by
          by_cases e : i = k
          · subst e; rw [if_pos rfl, HTN.out]; rfl
          · rw [if_neg e, tS_old (by omega)])⟩
        case measure => simp [intOf]; omega
      · have h1 := ok_one (n := ⟨7, f, na, nb, ng⟩) hok (by simp)
        simp only at h1
        obtain ⟨c, rfl⟩ : ∃ c : Nat, na = c := ⟨na.toNat, by omega⟩
        have hc : c < k := by omega
        clear hok hkd h1
        go_upto_region 33 with (first | (refine wpList_store_node rfl (.tmp 10) (.tmp 25) rfl rfl rfl hN0 rfl rfl (one8 _ _ _ _ _ _ _ _) ?_; intro w4 hN4 hg4; have hb4 : Below wr.heap.size wr w4 := (hX wr _).trans (below_grown hg4 (Nat.le_refl _) (by simp)); have hs4 := hb4.size) | (go_at_call 48; refine (blank_any n hn100 _).mono ?_; rintro e w5 ⟨⟨gx, rx, rfl, hNX⟩, hb5⟩; have hs5 := hb5.size; have hN5 := hN4.below hb5 hN4.lt; obtain ⟨q0, q1, q2, q3, q4, q5, q6, q7⟩ := hN5.cells; have hTX := (hT.below hb4 (Nat.le_refl _)).below hb5 (Nat.le_refl _); have hbX : Below wr.heap.size wr w5 := (by repeat (first | exact Below.refl _ _ | assumption | refine Below.drew ?_ | refine below_drewN' ?_ _ | refine Below.setCell ?_ (by first | omega | (simp; done) | (simp; omega)) _ | refine Below.alloc ?_ (by first | omega | (simp; done) | (simp; omega)) _ | refine Below.trans ?_ (Below.mono (by assumption) (by first | omega | (simp; done) | (simp; omega))))); obtain ⟨go, rfl, hgo⟩ := hTX.cell (by omega); have hgc := hgo c hc; clear hgo) | (go_at_call 54; refine (any_any n hn100 (hTX.tab c hc)).mono ?_; rintro e w6 ⟨⟨gy, ry, rfl, hNY⟩, hb6⟩; have hs6 := hb6.size; replace hTX := hTX.below hb6 (Nat.le_refl _); replace hbX : Below wr.heap.size wr w6 := (by repeat (first | exact Below.refl _ _ | assumption | refine Below.drew ?_ | refine below_drewN' ?_ _ | refine Below.setCell ?_ (by first | omega | (simp; done) | (simp; omega)) _ | refine Below.alloc ?_ (by first | omega | (simp; done) | (simp; omega)) _ | refine Below.trans ?_ (Below.mono (by assumption) (by first | omega | (simp; done) | (simp; omega)))))))
        generalize (some ({ block := go, off := 0 } : Addr)) = so at *
        clear hgc
        go_wp2_with (refine wpList_append_lies _ rfl (.tmp 139) (.tmp 141) 68 rfl W.heap.size 67 i7 (.slice none 0 0) 1 24 Try.underlying68 HI.out HZ0.out HZ1.out HZ2.out rfl (by omega) _ k ((List.range k).map fun i => slv (g i) n) rfl (rowBelow hTX.own (hX w6 _) (Nat.le_refl _)) _ 1 1 [.slice (some ⟨gy, 0, none⟩) n n] rfl rfl (World.news_of_block (cs := #[.slice (some ⟨gy, 0, none⟩) n n]) (heap_alloc_new _ _)) (by simp [Value.oneCell']) (by omega) (by unfold maxLen; omega) (by omega) (by simp; omega) _ rfl ?_; intro gq capq w7 hown7 hgrow7 hat7 hlt7)
        have hTY := hTX.below (hX w6 (.cells #[.slice (some ⟨gy, 0, none⟩) n n] 67)) (Nat.le_refl _)
        have hZ := hTY.snoc (hNY.ht.below (hX w6 (.cells #[.slice (some ⟨gy, 0, none⟩) n n] 67)) (Nat.le_refl _)) hown7 hgrow7
        have hb7 := hTY.row_below (by simp; omega) hgrow7
        go_round
        case rel => exact ⟨k + 1, _, _, by omega, by go_num, ((hbl.trans (hbX.mono hsz)).alloc (by omega) _).trans hb7, hZ.congr (fun i hi => by
          by_cases e : i = k
          · subst e; rw [if_pos rfl, HTN.out]; rfl
          · rw [if_neg e, tS_old (by omega)])⟩
        case measure => simp [intOf]; omega
      · have h1 : 0 ≤ na ∧ na < 4 := by
          unfold okN at hok
          simp at hok
          omega
        obtain ⟨c, rfl⟩ : ∃ c : Nat, na = c := ⟨na.toNat, by omega⟩
        have hc4 : c < 4 := by omega
        clear hok hkd h1
        go_wp2_with (first | (refine wpList_store_node rfl (.tmp 10) (.tmp 25) rfl rfl rfl hN0 rfl rfl (one8 _ _ _ _ _ _ _ _) ?_; intro w4 hN4 hg4; have hb4 : Below wr.heap.size wr w4 := (hX wr _).trans (below_grown hg4 (Nat.le_refl _) (by simp)); have hs4 := hb4.size) | (go_at_call 48; refine (blank_any n hn100 _).mono ?_; rintro e w5 ⟨⟨gx, rx, rfl, hNX⟩, hb5⟩; have hs5 := hb5.size; have hN5 := hN4.below hb5 hN4.lt; obtain ⟨q0, q1, q2, q3, q4, q5, q6, q7⟩ := hN5.cells; have hTX := (hT.below hb4 (Nat.le_refl _)).below hb5 (Nat.le_refl _); have hbX : Below wr.heap.size wr w5 := (by repeat (first | exact Below.refl _ _ | assumption | refine Below.drew ?_ | refine below_drewN' ?_ _ | refine Below.setCell ?_ (by first | omega | (simp; done) | (simp; omega)) _ | refine Below.alloc ?_ (by first | omega | (simp; done) | (simp; omega)) _ | refine Below.trans ?_ (Below.mono (by assumption) (by first | omega | (simp; done) | (simp; omega)))))))
        rw [← part_zero (tLook bl (c : Int) ng)] at hNX
        obtain ⟨wo, rfl⟩ : ∃ wo : World, wo = wr := ⟨_, rfl⟩
        clear q0 q1 q2 q3 q4 q5 q6 q7 hTX hbX
        go_loopw [116] (fun mv wz => ∃ m : Nat, m ≤ n ∧ mv = .int .i64 m ∧ Below w4.heap.size w4 wz ∧ NT w4.heap.size wz gx n rx (part (tLook bl (c : Int) ng) m 0)) (fun mv _ => (n - intOf mv).toNat)
        case atStart => exact ⟨0, by omega, rfl, hb5, hNX⟩
        case round =>
          clear hNX hb5 hs5 hN5
          obtain ⟨m, hm, rfl, hbz, hNX⟩ := hrel
          have hszz := hbz.size
          by_cases hlm : m < n
          · have hlb : m < bl.length := by have := hblE.out; omega
            obtain ⟨bw, offw, rfl, hcw⟩ := hsb.out (by intro e; rw [e] at hlb; simp at hlb)
            obtain ⟨hx0, hx1⟩ := hb256 _ (getD_mem hlb)
            have hcm := cell_later (hbl.trans ((hb4.mono hsz).trans (hbz.mono (by omega)))) (hcw m hlb)
            have hD := part_diag (tLook bl (c : Int) ng) (tLook_no bl (c : Int) ng m)
            rw [tLook_at] at hD
            clear hcw
            generalize bl.getD m 0 = x at *
            have hN5 := hN4.below hbz hN4.lt
            have hcc := HT.c hNX.ht hlm
            have hce := HT.e hNX.ht hlm hlm
            have hcf := HT.fz hNX.ht hlm m
            have hp := fun nq v => (hNX.below (below_drewN' (Below.refl wr.heap.size wr) nq) (Nat.le_refl _)).put hlm m v
            have hpb := fun nq v => (hNX.below (below_drewN' (Below.refl wr.heap.size wr) nq) (Nat.le_refl _)).put_below hlm m v (below_drewN' hbz nq)
            obtain ⟨q0, q1, q2, q3, q4, q5, q6, q7⟩ := hN5.cells
            have hcs : c = 0 ∨ c = 1 ∨ c = 2 ∨ c = 3 := by omega
            clear hc4
            rcases hcs with rfl | rfl | rfl | rfl
            · rw [look0] at hD
              have HG : ∀ nq, NT w4.heap.size ((wr.drewN nq).setCell ⟨rx m, m, none⟩ (.bool (!((bits .and .u8 x 1 == 1) == ng)))) gx n rx (part (tLook bl ((0 : Nat) : Int) ng) (m + 1) 0) := fun nq => by
                have h1 := hp nq ((bits .and .u8 x 1 == 1) != ng)
                rw [hD] at h1
                exact h1
              clear hp hD
              go_wp2_with fail
              refine wp_region_tail (fun w' => ∃ nq, w' = wr.drewN nq) 19 (by kernel_rfl) (by kernel_rfl) ⟨1, rfl⟩ ?_
              simp only [List.take_succ_cons, List.take_zero, List.drop_succ_cons, List.drop_zero]
              repeat (go_big_quiet_step (fail))
              refine wpQuiet_nil ?_
              rintro w' ⟨nq, rfl⟩
              go_wp2_with fail
              go_round
              case rel => exact ⟨m + 1, by omega, by go_num, hpb nq _, HG nq⟩
              case measure => simp [intOf]; omega
            · rw [look1] at hD
              have HG : ∀ nq, NT w4.heap.size ((wr.drewN nq).setCell ⟨rx m, m, none⟩ (.bool (!((bits .and .u8 (x / 2) 1 == 1) == ng)))) gx n rx (part (tLook bl ((1 : Nat) : Int) ng) (m + 1) 0) := fun nq => by
                have h1 := hp nq ((bits .and .u8 (x / 2) 1 == 1) != ng)
                rw [hD] at h1
                exact h1
              clear hp hD
              go_wp2_with fail
              refine wp_region_tail (fun w' => ∃ nq, w' = wr.drewN nq) 19 (by kernel_rfl) (by kernel_rfl) ⟨1, rfl⟩ ?_
              simp only [List.take_succ_cons, List.take_zero, List.drop_succ_cons, List.drop_zero]
              repeat (go_big_quiet_step (fail))
              refine wpQuiet_nil ?_
              rintro w' ⟨nq, rfl⟩
              go_wp2_with fail
              go_round
              case rel => exact ⟨m + 1, by omega, by go_num, hpb nq _, HG nq⟩
              case measure => simp [intOf]; omega
            · rw [look2] at hD
              have HG : ∀ nq, NT w4.heap.size ((wr.drewN nq).setCell ⟨rx m, m, none⟩ (.bool (!((bits .and .u8 (x / 4) 1 == 1) == ng)))) gx n rx (part (tLook bl ((2 : Nat) : Int) ng) (m + 1) 0) := fun nq => by
                have h1 := hp nq ((bits .and .u8 (x / 4) 1 == 1) != ng)
                rw [hD] at h1
                exact h1
              clear hp hD
              go_wp2_with fail
              refine wp_region_tail (fun w' => ∃ nq, w' = wr.drewN nq) 19 (by kernel_rfl) (by kernel_rfl) ⟨1, rfl⟩ ?_
              simp only [List.take_succ_cons, List.take_zero, List.drop_succ_cons, List.drop_zero]
              repeat (go_big_quiet_step (fail))
              refine wpQuiet_nil ?_
              rintro w' ⟨nq, rfl⟩
              go_wp2_with fail
              go_round
              case rel => exact ⟨m + 1, by omega, by go_num, hpb nq _, HG nq⟩
              case measure => simp [intOf]; omega
            · rw [look3] at hD
              have HG : ∀ nq, NT w4.heap.size ((wr.drewN nq).setCell ⟨rx m, m, none⟩ (.bool (!((bits .and .u8 (x / 8) 1 == 1) == ng)))) gx n rx (part (tLook bl ((3 : Nat) : Int) ng) (m + 1) 0) := fun nq => by
                have h1 := hp nq ((bits .and .u8 (x / 8) 1 == 1) != ng)
                rw [hD] at h1
                exact h1
              clear hp hD
              go_wp2_with fail
              refine wp_region_tail (fun w' => ∃ nq, w' = wr.drewN nq) 19 (by kernel_rfl) (by kernel_rfl) ⟨1, rfl⟩ ?_
              simp only [List.take_succ_cons, List.take_zero, List.drop_succ_cons, List.drop_zero]
              repeat (go_big_quiet_step (fail))
              refine wpQuiet_nil ?_
              rintro w' ⟨nq, rfl⟩
              go_wp2_with fail
              go_round
              case rel => exact ⟨m + 1, by omega, by go_num, hpb nq _, HG nq⟩
              case measure => simp [intOf]; omega
          · obtain rfl : m = n := by omega
            replace hNX := hNX.congr (part_end (tLook bl (c : Int) ng))
            have hTX := (hT.below hb4 (Nat.le_refl _)).below hbz (Nat.le_refl _)
            have hbX : Below wo.heap.size wo wr := hb4.trans (hbz.mono hs4)
            have hs5 := hbX.size
            go_wp2_with (refine wpList_append_lies _ rfl (.tmp 139) (.tmp 141) 68 rfl W.heap.size 67 i7 (.slice none 0 0) 1 24 Try.underlying68 HI.out HZ0.out HZ1.out HZ2.out rfl (by omega) _ k ((List.range k).map fun i => slv (g i) m) rfl (rowBelow hTX.own (hX wr _) (Nat.le_refl _)) _ 1 1 [.slice (some ⟨gx, 0, none⟩) m m] rfl rfl (World.news_of_block (cs := #[.slice (some ⟨gx, 0, none⟩) m m]) (heap_alloc_new _ _)) (by simp [Value.oneCell']) (by omega) (by unfold maxLen; omega) (by omega) (by simp; omega) _ rfl ?_; intro gq capq w7 hown7 hgrow7 hat7 hlt7)
            have hTY := hTX.below (hX wr (.cells #[.slice (some ⟨gx, 0, none⟩) m m] 67)) (Nat.le_refl _)
            have hZ := hTY.snoc (hNX.ht.below (hX wr (.cells #[.slice (some ⟨gx, 0, none⟩) m m] 67)) (Nat.le_refl _)) hown7 hgrow7
            have hb7 := hTY.row_below (by simp; omega) hgrow7
            go_round
            case rel => exact ⟨k + 1, _, _, by omega, by go_num, ((hbl.trans (hbX.mono hsz)).alloc (by omega) _).trans hb7, hZ.congr (fun i hi => by
              by_cases e : i = k
              · subst e; rw [if_pos rfl, HTN.out]; rfl
              · rw [if_neg e, tS_old (by omega)])⟩
            case measure => simp [intOf]; omega
    · obtain rfl : k = L.length := by omega
      go_wp2_with fail
      go_ret
      exact ⟨⟨_, g, r, rfl, hT⟩, hbl⟩

end Go.Proofs.Ytbmejpghoafapaa
