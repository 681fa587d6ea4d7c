/-
  The walk of the law bolterlaw09.ArenaPuts.
-/
import Derived.Test.YtbmejpghoafapaaPuts
namespace Go.Proofs.Ytbmejpghoafapaa
open Go.RowKit Go.Maps

/-- What holds at the head of a round of the law's loop. -/
def PutsAt (n0 : Nat) (W wr : World) (b m : Nat) (vw : Value) (L : List Nd) : Prop :=
  Below W.heap.size W wr ∧ n0 ≤ wr.heap.size ∧ ∃ va, Ar n0 wr b m va L ∧ OwnN n0 wr vw L ∧ Apart2 vw va

theorem refRight_bad {k : Int} {f : Nat → Bool} {a b : Int} {g : Bool} {m : Nat} (h : okN m k f a b g = false) (w : World) :
    Calls Try.prog 34 #[nv k f a b g, .int .i64 (m : Int)] w fun e w' => e = .returned (.bool false) ∧ Below w.heap.size w w' := by rw [← h]; exact refRight_any k f a b g m w
theorem refRight_ok {k : Int} {f : Nat → Bool} {a b : Int} {g : Bool} {m : Nat} (h : okN m k f a b g = true) (w : World) :
    Calls Try.prog 34 #[nv k f a b g, .int .i64 (m : Int)] w fun e w' => e = .returned (.bool true) ∧ Below w.heap.size w w' := by rw [← h]; exact refRight_any k f a b g m w

set_option maxRecDepth 100000 in
set_option maxHeartbeats 8000000 in
theorem arenaPuts_short (l : List Nd) (v : Value) (W : World) (hl : NodesAt W v l) (ho : ∀ n ∈ l, n.ok) (hm : l.length ≤ 40) : Calls Try.prog 8 #[v] W fun e w' => e = .returned (.bool true) ∧ Below W.heap.size W w' := by
  have hl0 := hl
  obtain ⟨a, cap, rfl, hs⟩ := hl
  clear hs
  have HO := Lib.hid ho
  clear ho
  obtain ⟨i0, hi, hz0, hz1, hz2⟩ := info_parts Try.info56
  replace hi := Lib.hid hi
  replace hz0 := Lib.hid hz0
  replace hz1 := Lib.hid hz1
  replace hz2 := Lib.hid hz2
  go_enter Try.func8, Try.ntmps8
  go_wp2_with (first | (go_at_call 30; refine (awake9 _).mono ?_; rintro e w1 ⟨rfl, hb1⟩) | (go_at_call 31; refine (few_yes _ _ _ _ hm).mono ?_; rintro e w1' ⟨rfl, rfl⟩) | (go_at_call 32; refine (new_any _).mono ?_; rintro e w2 ⟨⟨b, m, va, rfl, hA⟩, hb2⟩))
  have hs1 := hb1.size
  have hs2 := hb2.size
  go_loopw [4, 26] (fun vw i wr => ∃ k : Nat, k ≤ l.length ∧ i = .int .i64 k ∧ PutsAt w1.heap.size W wr b m vw (preL l k)) (fun _ i _ => (40 - intOf i).toNat)
  case atStart => exact ⟨0, by omega, rfl, (by repeat (first | exact Below.refl _ _ | assumption | refine Below.drew ?_ | refine below_drewN' ?_ _ | refine Below.setCell ?_ (by first | omega | (simp; done) | (simp; omega)) _ | refine Below.alloc ?_ (by first | omega | (simp; done) | (simp; omega)) _ | refine Below.trans ?_ (Below.mono (by assumption) (by first | omega | (simp; done) | (simp; omega))))), by omega, va, hA, World.ownsRow_nil _ _ _ _, by intro g hg; cases hg⟩
  case round =>
    clear hb1 hb2 hA
    obtain ⟨k, hk, rfl, hbl, hsz, va, hA, hW, hD⟩ := hrel
    by_cases hlt : k < l.length
    · obtain ⟨n, hn⟩ : ∃ n, l[k]? = some n := ⟨l[k], List.getElem?_eq_getElem hlt⟩
      have hok := HO.out n (List.mem_of_getElem? hn)
      obtain ⟨bb, off, rfl, hE⟩ := hl0.eight hn
      have hpl := preL_len l k (by omega)
      have hps := Lib.hid (preL_succ l k n hn)
      clear hn
      generalize preL l k = L at *
      obtain ⟨sw, capw, rfl⟩ := OwnN.shape hW
      have hEr := hE.later hbl (Nat.le_refl _)
      cases hr : okN L.length n.kind n.f n.a n.b n.neg
      · have HP := aput_any hA hsz n hok (by omega)
        rw [putR_bad hr, putL_bad hr] at HP
        have HR := Lib.hid (fun w => refRight_bad hr w)
        have hpe := Lib.hid (putL_bad hr)
        replace HP := Lib.hid HP
        clear hr hok
        obtain ⟨e0, e1, e2, e3, e4, e5, e6, e7⟩ := hEr
        go_wp2_with (first | (go_at_call 33; refine HP.out.mono ?_; rintro e w3 ⟨rfl, ⟨va3, hA3, hor3⟩, hb3, ho3⟩; clear e0 e1 e2 e3 e4 e5 e6 e7; have hbl3 := hbl.trans (hb3.mono hs1); obtain ⟨e0, e1, e2, e3, e4, e5, e6, e7⟩ := hE.later hbl3 (Nat.le_refl _)) | (go_at_call 34; refine (HR.out _).mono ?_; rintro e w4 ⟨rfl, hb4⟩; have hA4 := hA3.below hb4 (Nat.le_refl _)) | (go_at_call 35; refine (len_any hA4).mono ?_; rintro e w5 ⟨rfl, hb5⟩))
        have hs3 := hb3.size
        have hs4 := hb4.size
        have hs5 := hb5.size
        go_round
        case rel => exact ⟨k + 1, by omega, by go_num, (by repeat (first | exact Below.refl _ _ | assumption | refine Below.drew ?_ | refine below_drewN' ?_ _ | refine Below.setCell ?_ (by first | omega | (simp; done) | (simp; omega)) _ | refine Below.alloc ?_ (by first | omega | (simp; done) | (simp; omega)) _ | refine Below.trans ?_ (Below.mono (by assumption) (by first | omega | (simp; done) | (simp; omega))))), by omega, va3, by rw [hps.out, hpe.out]; exact hA4.below hb5 (Nat.le_refl _), by rw [hps.out, hpe.out]; exact ((OwnN.put hW hA hD ho3).below hb4 (Nat.le_refl _)).below hb5 (Nat.le_refl _), Apart2.put hW hD hor3⟩
        case measure => simp [intOf]; omega
      · have HP := aput_any hA hsz n hok (by omega)
        rw [putR_ok hr] at HP
        have HR := Lib.hid (fun w => refRight_ok hr w)
        have HN := Lib.hid (fun (w : World) (v : Value) (h : Ar w1.heap.size w b m v (putL L n)) => node_put h hr)
        have HM := Lib.hid (put_miss (n := n) hr)
        have HH := Lib.hid (fun (j : Nat) (x : Nd) => put_hit (n := n) (j := j) (x := x) hr)
        have HL := Lib.hid (putL_len L n)
        replace HP := Lib.hid HP
        have hokL := Lib.hid hok
        clear hr hok
        generalize idN L n = id at *
        generalize putL L n = L2 at *
        obtain ⟨e0, e1, e2, e3, e4, e5, e6, e7⟩ := hEr
        go_wp2_with (first | (go_at_call 33; refine HP.out.mono ?_; rintro e w3 ⟨rfl, ⟨va3, hA3, hor3⟩, hb3, ho3⟩; clear e0 e1 e2 e3 e4 e5 e6 e7; have hbl3 := hbl.trans (hb3.mono hs1); obtain ⟨e0, e1, e2, e3, e4, e5, e6, e7⟩ := hE.later hbl3 (Nat.le_refl _)) | (go_at_call 34; refine (HR.out _).mono ?_; rintro e w4 ⟨rfl, hb4⟩))
        have hs3 := hb3.size
        have hs4 := hb4.size
        have hbl4 := hbl3.trans (hb4.mono hbl3.size)
        have hA4 := hA3.below hb4 (Nat.le_refl _)
        have hW4 := (OwnN.put hW hA hD ho3).below hb4 (Nat.le_refl _)
        have hD4 := Apart2.put hW hD hor3
        clear hA hW hD hbl3 hA3 hb3 ho3 hor3 hbl e0 e1 e2 e3 e4 e5 e6 e7
        go_loopw [8] (fun i wx => ∃ j : Nat, j ≤ L.length ∧ i = .int .i64 j ∧ Below w4.heap.size w4 wx ∧ Hid (∀ i, i < j → ∀ y : Nd, L[i]? = some y → y.key ≠ n.key)) (fun i _ => (40 - intOf i).toNat)
        case atStart => exact ⟨0, by omega, rfl, Below.refl _ _, Lib.hid (by intro i hi; omega)⟩
        case round =>
          obtain ⟨j, hj, rfl, hb5, hmiss⟩ := hrel
          obtain ⟨e0, e1, e2, e3, e4, e5, e6, e7⟩ := (hE.later hbl4 (Nat.le_refl _)).later hb5 (Nat.le_refl _)
          by_cases hjl : j < L.length
          · obtain ⟨x, hx⟩ : ∃ x, L[j]? = some x := ⟨L[j], List.getElem?_eq_getElem hjl⟩
            obtain ⟨g, rfl, hG⟩ := (hW4.below hb5 (Nat.le_refl _)).eight hx
            obtain ⟨g0, g1, g2, g3, g4, g5, g6, g7⟩ := hG
            have hq := Nd.key_nq x n
            replace hx := Lib.hid hx
            by_cases hkey : x.key = n.key
            · have hq1 : nq x.kind (wd x.f 0) (wd x.f 1) (wd x.f 2) (wd x.f 3) x.a x.b x.neg n.kind (wd n.f 0) (wd n.f 1) (wd n.f 2) (wd n.f 3) n.a n.b n.neg = true := by rw [hq]; simp [hkey]
              clear hq
              replace hkey := Lib.hid hkey
              go_wp2_with fail
              go_quiet (fail)
              go_wp2_with fail
              have hb6 := below_drewN' hb5 nq
              have hs6 := hb6.size
              have hblz := hbl4.trans (hb6.mono hbl4.size)
              have hmm := HH.out j x hx.out hkey.out hmiss.out
              obtain ⟨rfl, rfl⟩ := hmm
              clear e0 e1 e2 e3 e4 e5 e6 e7 g0 g1 g2 g3 g4 g5 g6 g7 hq1
              have hA4z := hA4.below hb6 (Nat.le_refl _)
              have hWz := hW4.below hb6 (Nat.le_refl _)
              have hDz := hD4
              have hEz := hE.later hblz (Nat.le_refl _)
              generalize wr.drewN nq = wz at *
              have hlenz := fun w' (hb : Below wz.heap.size wz w') => len_any (hA4z.below hb (Nat.le_refl _))
              have hAz := hA4z
              go_wp2_with (first | (go_at_call 36; refine (HN.out _ _ hAz).mono ?_; rintro e w8 ⟨rfl, hb8⟩; have hN8 := HoldsN.made w8 na0 rfl) | (refine wpList_store_node rfl (.tmp 9) (.tmp 91) rfl rfl rfl hN8 rfl rfl (one8 _ _ _ _ _ _ _ _) ?_; intro w9 hN9 hg9))
              have hs8 := hb8.size
              have hb9 : Below wz.heap.size wz w9 := (hb8.trans ((Below.refl _ _).alloc hs8 _)).trans (below_grown hg9 hs8 (by simp; omega))
              have cN := fun u : Wk w9.heap.size w9 => (hN9.below u.ok hN9.lt).cells
              have k0 := fun u => (cN u).1
              have k1 := fun u => (cN u).2.1
              have k2 := fun u => (cN u).2.2.1
              have k3 := fun u => (cN u).2.2.2.1
              have k4 := fun u => (cN u).2.2.2.2.1
              have k5 := fun u => (cN u).2.2.2.2.2.1
              have k6 := fun u => (cN u).2.2.2.2.2.2.1
              have k7 := fun u => (cN u).2.2.2.2.2.2.2
              have cE := fun u : Wk w9.heap.size w9 => (hEz.later hb9 (Nat.le_refl _)).later u.ok (Nat.le_refl _)
              have m0 := fun u => (cE u).1
              have m1 := fun u => (cE u).2.1
              have m2 := fun u => (cE u).2.2.1
              have m3 := fun u => (cE u).2.2.2.1
              have m4 := fun u => (cE u).2.2.2.2.1
              have m5 := fun u => (cE u).2.2.2.2.2.1
              have m6 := fun u => (cE u).2.2.2.2.2.2.1
              have m7 := fun u => (cE u).2.2.2.2.2.2.2
              have hlen := Lib.hid (fun u : Wk w9.heap.size w9 => hlenz _ (hb9.trans (u.ok.mono hb9.size)))
              have hnq := nq_self n
              clear cN cE
              refine wp_region_class (fun w' => ∃ u : Wk w9.heap.size w9, w' = u.val) (by kernel_rfl) (by kernel_rfl) ⟨⟨_, (Below.refl _ _).drew⟩, rfl⟩ ?_
              repeat (go_big_quiet_step (first | (go_at_call 35; exact wk_call (Nat.le_refl _) _ (hlen.out _))))
              refine wpQuiet_nil ?_
              rintro w' ⟨u, rfl⟩
              have hbu : Below wz.heap.size wz u.val := hb9.trans (u.ok.mono hb9.size)
              clear k0 k1 k2 k3 k4 k5 k6 k7 m0 m1 m2 m3 m4 m5 m6 m7
              go_wp2_with fail
              go_round
              case rel => exact ⟨k + 1, by omega, by go_num, hblz.trans (hbu.mono hblz.size), by have := hbu.size; omega, va3, by rw [hps.out]; exact hAz.below hbu (Nat.le_refl _), by rw [hps.out]; exact hWz.below hbu (Nat.le_refl _), hDz⟩
              case measure => simp [intOf]; omega
            · have hq1 : nq x.kind (wd x.f 0) (wd x.f 1) (wd x.f 2) (wd x.f 3) x.a x.b x.neg n.kind (wd n.f 0) (wd n.f 1) (wd n.f 2) (wd n.f 3) n.a n.b n.neg = false := by rw [hq]; simp [hkey]
              clear hq
              replace hkey := Lib.hid hkey
              go_wp2_with fail
              go_quiet (fail)
              go_wp2_with fail
              go_round
              case rel => exact ⟨j + 1, by omega, by go_num, (by repeat (first | exact Below.refl _ _ | assumption | refine Below.drew ?_ | refine below_drewN' ?_ _ | refine Below.setCell ?_ (by first | omega | (simp; done) | (simp; omega)) _ | refine Below.alloc ?_ (by first | omega | (simp; done) | (simp; omega)) _ | refine Below.trans ?_ (Below.mono (by assumption) (by first | omega | (simp; done) | (simp; omega))))), Lib.hid (by
                intro i hi y hy
                rcases Nat.lt_or_ge i j with h1 | h1
                · exact hmiss.out i h1 y hy
                · obtain rfl : i = j := by omega
                  rw [hx.out] at hy
                  cases hy
                  exact hkey.out)⟩
              case measure => simp [intOf]; omega
          · obtain rfl : j = L.length := by omega
            have hmm := HM.out hmiss.out
            have hWj := hW4.below hb5 (Nat.le_refl _)
            have hAj := hA4.below hb5 (Nat.le_refl _)
            have hs5 := hb5.size
            obtain ⟨rfl, rfl⟩ := hmm
            have HI := hi.out
            have HZ0 := hz0.out
            have HZ1 := hz1.out
            have HZ2 := hz2.out
            go_wp2_with fail
            go_quiet (fail)
            have hb6 := below_drewN' hb5 nq
            have hs6 := hb6.size
            have hb6l := hbl4.trans (hb6.mono hbl4.size)
            have hA6 := hA4.below hb6 (Nat.le_refl _)
            have hW6 := hW4.below hb6 (Nat.le_refl _)
            have hE6 := hE.later hb6l (Nat.le_refl _)
            clear e0 e1 e2 e3 e4 e5 e6 e7
            generalize wr.drewN nq = w6 at *
            obtain ⟨e0, e1, e2, e3, e4, e5, e6, e7⟩ := hE6
            have hX := fun o : Obj => Below.alloc (Below.refl w6.heap.size w6) (Nat.le_refl _) o
            go_wp2_with (first | (refine wpList_append_lies _ rfl (.tmp 80) (.tmp 85) 48 rfl w1.heap.size 56 i0 nv0 8 64 Try.underlying48 HI HZ0 HZ1 HZ2 rfl (by omega) _ L.length (L.flatMap Nd.cells) rfl (hW6.below (hX _) (Nat.le_refl _)) _ 1 1 n.cells rfl rfl (World.news_of_block (cs := n.cells.toArray) (heap_alloc_new _ _)) (by simp [Value.oneCell']) (by omega) (by unfold maxLen; omega) (by omega) (by simp; omega) _ rfl ?_; intro g cap w7 hown7 hgrow7 hat7 hlt7))
            clear e0 e1 e2 e3 e4 e5 e6 e7
            have hWX := hW6.below (hX (.cells n.cells.toArray 56)) (Nat.le_refl _)
            have hAX := hA6.below (hX (.cells n.cells.toArray 56)) (Nat.le_refl _)
            have hA4z := Ar.grown hAX hWX hD4 hgrow7
            have hDz := Apart2.grown (len := L.length + 1) (cap := cap) hAX hD4 hat7
            have hWz := OwnN.snoc hown7
            have hb7 := OwnN.grown_below hWX (by simp; omega) hgrow7
            have hs7 := hb7.size
            simp at hs7
            have hblz : Below W.heap.size W w7 := (hb6l.alloc (by omega) (.cells n.cells.toArray 56)).trans (hb7.mono hs1)
            have hEz := hE.later hblz (Nat.le_refl _)
            have hllz : (L ++ [n]).length = L.length + 1 := by simp
            have hlenz := fun w' (hb : Below w7.heap.size w7 w') => len_any (hA4z.below hb (Nat.le_refl _))
            rw [hllz] at hlenz
            clear hWX hAX hllz hX hgrow7 hown7 hat7
            obtain ⟨wz, hwz⟩ : ∃ wz, w7 = wz := ⟨_, rfl⟩
            subst hwz
            have hAz := hA4z
            go_wp2_with (first | (go_at_call 36; refine (HN.out _ _ hAz).mono ?_; rintro e w8 ⟨rfl, hb8⟩; have hN8 := HoldsN.made w8 na0 rfl) | (refine wpList_store_node rfl (.tmp 9) (.tmp 91) rfl rfl rfl hN8 rfl rfl (one8 _ _ _ _ _ _ _ _) ?_; intro w9 hN9 hg9))
            have hs8 := hb8.size
            have hb9 : Below w7.heap.size w7 w9 := (hb8.trans ((Below.refl _ _).alloc hs8 _)).trans (below_grown hg9 hs8 (by simp; omega))
            have cN := fun u : Wk w9.heap.size w9 => (hN9.below u.ok hN9.lt).cells
            have k0 := fun u => (cN u).1
            have k1 := fun u => (cN u).2.1
            have k2 := fun u => (cN u).2.2.1
            have k3 := fun u => (cN u).2.2.2.1
            have k4 := fun u => (cN u).2.2.2.2.1
            have k5 := fun u => (cN u).2.2.2.2.2.1
            have k6 := fun u => (cN u).2.2.2.2.2.2.1
            have k7 := fun u => (cN u).2.2.2.2.2.2.2
            have cE := fun u : Wk w9.heap.size w9 => (hEz.later hb9 (Nat.le_refl _)).later u.ok (Nat.le_refl _)
            have m0 := fun u => (cE u).1
            have m1 := fun u => (cE u).2.1
            have m2 := fun u => (cE u).2.2.1
            have m3 := fun u => (cE u).2.2.2.1
            have m4 := fun u => (cE u).2.2.2.2.1
            have m5 := fun u => (cE u).2.2.2.2.2.1
            have m6 := fun u => (cE u).2.2.2.2.2.2.1
            have m7 := fun u => (cE u).2.2.2.2.2.2.2
            have hlen := Lib.hid (fun u : Wk w9.heap.size w9 => hlenz _ (hb9.trans (u.ok.mono hb9.size)))
            have hnq := nq_self n
            clear cN cE
            refine wp_region_class (fun w' => ∃ u : Wk w9.heap.size w9, w' = u.val) (by kernel_rfl) (by kernel_rfl) ⟨⟨_, (Below.refl _ _).drew⟩, rfl⟩ ?_
            repeat (go_big_quiet_step (first | (go_at_call 35; exact wk_call (Nat.le_refl _) _ (hlen.out _))))
            refine wpQuiet_nil ?_
            rintro w' ⟨u, rfl⟩
            have hbu : Below w7.heap.size w7 u.val := hb9.trans (u.ok.mono hb9.size)
            clear k0 k1 k2 k3 k4 k5 k6 k7 m0 m1 m2 m3 m4 m5 m6 m7
            go_wp2_with fail
            go_round
            case rel => exact ⟨k + 1, by omega, by go_num, hblz.trans (hbu.mono hblz.size), by have := hbu.size; omega, va3, by rw [hps.out]; exact hAz.below hbu (Nat.le_refl _), by rw [hps.out]; exact hWz.below hbu (Nat.le_refl _), hDz⟩
            case measure => simp [intOf]; omega
    · have hlk := preL_len l k (by omega)
      have hsz1 := hbl.size
      generalize preL l k = L at *
      obtain ⟨sw, capw, rfl⟩ := OwnN.shape hW
      go_wp2_with (first | (go_at_call 36; first | (with_reducible refine (node_out hA _ (Or.inr (Int.le_refl _))).mono ?_; rintro e w3 ⟨rfl, hb3⟩; have hN3 := HoldsN.made w3 na0 rfl) | (refine (node_out (hA.below hb5 (Nat.le_refl _)) _ (Or.inl (by omega))).mono ?_; rintro e w6 ⟨rfl, hb6⟩; have hN6 := HoldsN.made w6 na0 rfl)) | (refine wpList_store_node rfl (.tmp 11) (.tmp 125) rfl rfl rfl hN3 rfl rfl (one8 _ _ _ _ _ _ _ _) ?_; intro w4 hN4 hg4; have hb5 : Below wr.heap.size wr w4 := (hb3.trans ((Below.refl _ _).alloc hb3.size _)).trans (below_grown hg4 hb3.size (by have := hb3.size; simp; omega))) | (refine wpList_store_node rfl (.tmp 13) (.tmp 130) rfl rfl rfl hN6 rfl rfl (one8 _ _ _ _ _ _ _ _) ?_; intro w7 hN7 hg7))
      have hs5 := hb5.size
      have hs6 := hb6.size
      have hb7 := below_grown hg7 (n := W.heap.size) (by omega) (by simp; omega)
      go_ret
      exact ⟨rfl, (by repeat (first | exact Below.refl _ _ | assumption | refine Below.drew ?_ | refine below_drewN' ?_ _ | refine Below.setCell ?_ (by first | omega | (simp; done) | (simp; omega)) _ | refine Below.alloc ?_ (by first | omega | (simp; done) | (simp; omega)) _ | refine Below.trans ?_ (Below.mono (by assumption) (by first | omega | (simp; done) | (simp; omega)))))⟩

set_option maxRecDepth 100000 in
set_option maxHeartbeats 400000 in
theorem arenaPuts_long (n : Nat) (a : Option Addr) (cap : Nat) (w : World) (hn : 40 < n) :
    Calls Try.prog 8 #[.slice a n cap] w fun e w' => e = .returned (.bool true) ∧ Below w.heap.size w w' := by
  go_enter Try.func8, Try.ntmps8
  go_wp2_with (first | (go_at_call 31; refine (few_no _ _ _ _ hn).mono ?_; rintro e w1' ⟨rfl, rfl⟩))
  refine (awake9 _).mono ?_
  rintro e w1 ⟨rfl, hb1⟩
  go_wp2_with (first | (go_at_call 31; refine (few_no _ _ _ _ hn).mono ?_; rintro e w1' ⟨rfl, rfl⟩))
  refine (awake9 _).mono ?_
  rintro e w2 ⟨rfl, hb2⟩
  have hs1 := hb1.size
  go_wp2_with fail
  go_ret
  exact ⟨rfl, (by repeat (first | exact Below.refl _ _ | assumption | refine Below.drew ?_ | refine below_drewN' ?_ _ | refine Below.setCell ?_ (by first | omega | (simp; done) | (simp; omega)) _ | refine Below.alloc ?_ (by first | omega | (simp; done) | (simp; omega)) _ | refine Below.trans ?_ (Below.mono (by assumption) (by first | omega | (simp; done) | (simp; omega)))))⟩

theorem arenaPuts_any (l : List Nd) (v : Value) (W : World) (hl : NodesAt W v l) (ho : ∀ n ∈ l, n.ok) :
    Calls Try.prog 8 #[v] W fun e w' => e = .returned (.bool true) ∧ Below W.heap.size W w' := by
  rcases Nat.lt_or_ge 40 l.length with h | h
  · obtain ⟨a, cap, rfl, _⟩ := hl
    exact arenaPuts_long l.length a cap W h
  · exact arenaPuts_short l v W hl ho h

end Go.Proofs.Ytbmejpghoafapaa
