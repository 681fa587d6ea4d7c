/-
  The walk of the law bolterlaw09.ArenaSets.
-/
import Derived.Test.YtbmejpghoafapaaSets43
namespace Go.Proofs.Ytbmejpghoafapaa
open Go.RowKit Go.Maps

theorem below_val {L : List Nd} (hw : WfN L) {v : Value} {k id : Nat} {n : Nd} (hn : L[id]? = some n) {B : Bool} (hB : belB L id k = B) (w : World) (h : NodesAt w v L) : Calls Try.prog 44 #[v, .int .i64 (id : Int), .int .i64 (k : Int)] w fun e w' => e = .returned (.bool B) ∧ Below w.heap.size w w' := by
  rw [← hB]
  exact below_any hw v k id n hn w h

set_option maxRecDepth 100000 in
set_option maxHeartbeats 2000000 in
theorem arenaSets_out (l : List Nd) (v : Value) (id : Int) (W : World) (hl : NodesAt W v l) (ho : ∀ n ∈ l, n.ok) (hm : l.length ≤ 14) (hid : id < 0 ∨ ((preL l l.length).length : Int) ≤ id) :
    Calls Try.prog 10 #[v, .int .i64 id] W fun e w' => e = .returned (.bool true) ∧ Below W.heap.size W w' := by
  have hl0 := hl
  obtain ⟨a, cap, rfl, hs⟩ := hl
  clear hs
  have hpl := preL_len l l.length (Nat.le_refl _)
  have hd : decide ((14 : Int) < (l.length : Int)) = false := by simp; omega
  have HM := Lib.hid (fun (w : World) (h : Below W.heap.size W w) => made_any l _ w (hl0.below h (Nat.le_refl _)) ho (by omega))
  clear ho
  generalize preL l l.length = L at *
  have hdd : decide (id < 0) = true ∨ (decide (id < 0) = false ∧ decide ((L.length : Int) ≤ id) = true) := by simp; omega
  have HS := Lib.hid (fun (n0 b m : Nat) (va : Value) (w : World) (h : Ar n0 w b m va L) => sets_out h id hid)
  clear hid
  rcases hdd with hdd | ⟨hd1, hd2⟩
  all_goals
    go_enter Try.func10, Try.ntmps10
    go_wp2_with (first | (go_at_call 30; refine (awake9 _).mono ?_; rintro e w1 ⟨rfl, hb1⟩) | (go_at_call 37; refine (HM.out _ hb1).mono ?_; rintro e w2 ⟨⟨b, m, va, rfl, hA⟩, hb2⟩) | (go_at_call 43; refine (HS.out _ _ _ _ _ hA).mono ?_; rintro e w3 ⟨rfl, hb3⟩; have hA3 := hA.below hb3 (Nat.le_refl _)) | (go_at_call 41; refine (nodes_any hA3 (by omega)).mono ?_; rintro e w4 ⟨⟨vw, rfl, hW⟩, hb4⟩; obtain ⟨sw, cw, rfl⟩ := OwnN.shape hW))
    have hs1 := hb1.size
    have hs2 := hb2.size
    have hs3 := hb3.size
    go_ret
    exact ⟨rfl, (by repeat (first | exact Below.refl _ _ | assumption | refine Below.drew ?_ | refine below_drewN' ?_ _ | refine Below.setCell ?_ (by first | omega | (simp; done) | (simp; omega)) _ | refine Below.alloc ?_ (by first | omega | (simp; done) | (simp; omega)) _ | refine Below.trans ?_ (Below.mono (by assumption) (by first | omega | (simp; done) | (simp; omega)))))⟩

set_option maxRecDepth 100000 in
set_option maxHeartbeats 4000000 in
theorem arenaSets_in (l : List Nd) (v : Value) (id : Nat) (W : World) (hl : NodesAt W v l) (ho : ∀ n ∈ l, n.ok) (hm : l.length ≤ 14) (hid : id < (preL l l.length).length) :
    Calls Try.prog 10 #[v, .int .i64 (id : Int)] W fun e w' => e = .returned (.bool true) ∧ Below W.heap.size W w' := by
  have hl0 := hl
  obtain ⟨a, cap, rfl, hs⟩ := hl
  clear hs
  have hpl := preL_len l l.length (Nat.le_refl _)
  have hw := Lib.hid (wf_pre l l.length)
  have hd : decide ((14 : Int) < (l.length : Int)) = false := by simp; omega
  have HM := Lib.hid (fun (w : World) (h : Below W.heap.size W w) => made_any l _ w (hl0.below h (Nat.le_refl _)) ho (by omega))
  clear ho
  generalize preL l l.length = L at *
  obtain ⟨nid, hnid⟩ : ∃ n, L[id]? = some n := ⟨L[id], List.getElem?_eq_getElem hid⟩
  have hd2 : decide (L.length ≤ id) = false := by simp; omega
  have HB := Lib.hid (fun (v : Value) (k : Nat) (B : Bool) (h : belB L id k = B) => below_val (v := v) (k := k) hw.out hnid h)
  obtain ⟨sn, hsn⟩ : ∃ sn, belB L id = sn := ⟨_, rfl⟩
  have HS := Lib.hid (fun (n0 b m : Nat) (va : Value) (w : World) (h : Ar n0 w b m va L) => sets_any h hw.out (by omega) id hid)
  rw [hsn] at HS
  have hsnk := Lib.hid (fun k => congrFun hsn k)
  clear hsn hnid
  go_enter Try.func10, Try.ntmps10
  go_wp2_with (first | (go_at_call 30; refine (awake9 _).mono ?_; rintro e w1 ⟨rfl, hb1⟩) | (go_at_call 37; refine (HM.out _ hb1).mono ?_; rintro e w2 ⟨⟨b, m, va, rfl, hA⟩, hb2⟩) | (go_at_call 43; refine (HS.out _ _ _ _ _ hA).mono ?_; rintro e w3 ⟨⟨vg, rfl, hG⟩, hb3⟩; have hA3 := hA.below hb3 (Nat.le_refl _)) | (go_at_call 41; refine (nodes_any hA3 (by omega)).mono ?_; rintro e w4 ⟨⟨vw, rfl, hW⟩, hb4⟩; obtain ⟨sw, cw, rfl⟩ := OwnN.shape hW))
  have hs1 := hb1.size
  have hs2 := hb2.size
  have hs3 := hb3.size
  have hbl4 : Below W.heap.size W w4 := (by repeat (first | exact Below.refl _ _ | assumption | refine Below.drew ?_ | refine below_drewN' ?_ _ | refine Below.setCell ?_ (by first | omega | (simp; done) | (simp; omega)) _ | refine Below.alloc ?_ (by first | omega | (simp; done) | (simp; omega)) _ | refine Below.trans ?_ (Below.mono (by assumption) (by first | omega | (simp; done) | (simp; omega)))))
  have hG4 := hG.below hb4 (Nat.le_refl _)
  clear hb1 hb2 hb3 hb4 hA hA3 hG
  obtain ⟨sg, cg, rfl, hcg⟩ := OwnS.shape hG4
  go_loopw [8, 38] (fun kk i wr => ∃ j : Nat, j ≤ L.length ∧ i = .int .i64 j ∧ kk = .int .i64 ((sel L sn j).length : Int) ∧ Below w4.heap.size w4 wr) (fun _ i _ => (100 - intOf i).toNat)
  case atStart => exact ⟨0, by omega, rfl, rfl, Below.refl _ _⟩
  case round =>
    obtain ⟨j, hj, rfl, rfl, hbl⟩ := hrel
    by_cases hlt : j < L.length
    · obtain ⟨x, hx⟩ : ∃ x, L[j]? = some x := ⟨L[j], List.getElem?_eq_getElem hlt⟩
      obtain ⟨g, rfl, hE⟩ := (hW.below hbl (Nat.le_refl _)).eight hx
      have hE0 := Lib.hid hE
      have hNd := Lib.hid ((hW.below hbl (Nat.le_refl _)).nodes)
      obtain ⟨e0, e1, e2, e3, e4, e5, e6, e7⟩ := hE
      have hSY := Lib.hid (fun h1 h2 => sel_yes (p := sn) hx h1 h2)
      have hSN := Lib.hid (fun h => sel_no (p := sn) hx h)
      have hSA := Lib.hid (fun h1 h2 => sel_at (p := sn) (m := L.length) hx h1 h2 hlt)
      have hB := Lib.hid (fun v (B : Bool) (h : sn j = B) => HB.out v j B (by rw [hsnk.out]; exact h))
      have hsz := hbl.size
      by_cases hkd : x.kind = 2
      · have hk2 : (x.kind == 2) = true := by simp [hkd]
        cases hsj : sn j
        · have HE := Lib.hid (hSN.out (.inl hsj))
          have hBj := Lib.hid (hB.out (.slice (some ⟨g, 0, none⟩) L.length cw) false hsj)
          clear hSY hSN hSA hx hkd hsj
          go_wp2_with (go_at_call 44; refine (hBj.out _ hNd.out).mono ?_; rintro e w5 ⟨rfl, hb5⟩)
          go_round
          case rel => exact ⟨j + 1, by omega, by go_num, by rw [HE.out], hbl.trans (hb5.mono hsz)⟩
          case measure => simp [intOf]; omega
        · have HE := Lib.hid (hSY.out hsj hkd)
          have hBj := Lib.hid (hB.out (.slice (some ⟨g, 0, none⟩) L.length cw) true hsj)
          have hat := hSA.out hsj hkd
          obtain ⟨gg, cgg, hvg, _, _, hcell⟩ := (hG4.below hbl (Nat.le_refl _)).row hat
          obtain ⟨rfl, -⟩ : sg = some ⟨gg, 0, none⟩ ∧ cg = cgg := by cases hvg; exact ⟨rfl, rfl⟩
          have hkl := (List.getElem?_eq_some_iff.1 hat).1
          have c0 := hcell 0 (by omega)
          have c1 := hcell 1 (by omega)
          have c2 := hcell 2 (by omega)
          have c3 := hcell 3 (by omega)
          simp only [scl, List.getElem?_cons_zero, List.getElem?_cons_succ, Nat.add_zero] at c0 c1 c2 c3
          have hdl : decide ((sel L sn L.length).length ≤ (sel L sn j).length) = false := by simp; omega
          clear hvg hcell hat hSY hSN hSA hx hkd hsj
          go_wp2_with (go_at_call 44; refine (hBj.out _ hNd.out).mono ?_; rintro e w5 ⟨rfl, hb5⟩; have hE5 := hE0.out.later hb5 (Nat.le_refl _); replace c0 := cell_later hb5 c0; replace c1 := cell_later hb5 c1; replace c2 := cell_later hb5 c2; replace c3 := cell_later hb5 c3; clear e0 e1 e2 e3 e4 e5 e6 e7; obtain ⟨e0, e1, e2, e3, e4, e5, e6, e7⟩ := hE5)
          have hlen1 : (sel L sn (j + 1)).length = (sel L sn j).length + 1 := by rw [HE.out]; simp
          replace hlen1 := Lib.hid hlen1
          have hTl := sel_len L sn j
          go_quiet (fail)
          have hb6 := below_drewN' hb5 nq
          go_wp2_with fail
          go_round
          case rel => exact ⟨j + 1, by omega, by go_num, by rw [hlen1.out]; go_num, hbl.trans (hb6.mono hsz)⟩
          case measure => simp [intOf]; omega
      · have hk2 : (x.kind == 2) = false := by simp [hkd]
        have HE := Lib.hid (hSN.out (.inr hkd))
        clear hSY hSN hSA hx hkd
        go_wp2_with fail
        go_round
        case rel => exact ⟨j + 1, by omega, by go_num, by rw [HE.out], hbl⟩
        case measure => simp [intOf]; omega
    · obtain rfl : j = L.length := by omega
      have hsz := hbl.size
      go_wp2_with fail
      go_ret
      exact ⟨rfl, hbl4.trans (hbl.mono hbl4.size)⟩

set_option maxRecDepth 100000 in
set_option maxHeartbeats 400000 in
theorem arenaSets_long (n : Nat) (a : Option Addr) (cap : Nat) (id : Int) (w : World) (hn : 14 < n) (hm : n ≤ maxLen) :
    Calls Try.prog 10 #[.slice a n cap, .int .i64 id] w fun e w' => e = .returned (.bool true) ∧ Below w.heap.size w w' := by
  unfold maxLen at hm
  have hd : decide ((14 : Int) < (n : Int)) = true := by simp; omega
  go_enter Try.func10, Try.ntmps10
  go_wp2_with fail
  refine (awake9 _).mono ?_
  rintro e w1 ⟨rfl, hb1⟩
  go_wp2_with fail
  refine (awake9 _).mono ?_
  rintro e w2 ⟨rfl, hb2⟩
  have hs1 := hb1.size
  go_wp2_with fail
  go_ret
  exact ⟨rfl, (by repeat (first | exact Below.refl _ _ | assumption | refine Below.drew ?_ | refine below_drewN' ?_ _ | refine Below.setCell ?_ (by first | omega | (simp; done) | (simp; omega)) _ | refine Below.alloc ?_ (by first | omega | (simp; done) | (simp; omega)) _ | refine Below.trans ?_ (Below.mono (by assumption) (by first | omega | (simp; done) | (simp; omega)))))⟩

theorem arenaSets_any (l : List Nd) (v : Value) (id : Int) (W : World) (hl : NodesAt W v l) (ho : ∀ n ∈ l, n.ok) (hm : l.length ≤ maxLen) :
    Calls Try.prog 10 #[v, .int .i64 id] W fun e w' => e = .returned (.bool true) ∧ Below W.heap.size W w' := by
  rcases Nat.lt_or_ge 14 l.length with h | h
  · obtain ⟨a, cap, rfl, _⟩ := hl
    exact arenaSets_long l.length a cap id W h hm
  · by_cases hid : id < 0 ∨ ((preL l l.length).length : Int) ≤ id
    · exact arenaSets_out l v id W hl ho h hid
    · obtain ⟨i, rfl⟩ := Int.eq_ofNat_of_zero_le (show 0 ≤ id by omega)
      exact arenaSets_in l v i W hl ho h (by omega)

end Go.Proofs.Ytbmejpghoafapaa
