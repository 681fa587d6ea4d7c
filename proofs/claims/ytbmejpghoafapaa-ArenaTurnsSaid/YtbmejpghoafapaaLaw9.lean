/-
  The walk of the law bolterlaw09.ArenaTurns.
-/
import Derived.Test.YtbmejpghoafapaaR9
import Derived.Test.YtbmejpghoafapaaNil
import Derived.BigQuiet
namespace Go.Proofs.Ytbmejpghoafapaa
open Go.RowKit Go.Maps
variable {n0 b m : Nat} {va : Value} {L : List Nd} {W : World}

set_option maxRecDepth 100000 in
set_option maxHeartbeats 400000 in
theorem arenaTurns_many (n : Nat) (a : Option Addr) (cap : Nat) (id : Int) (x : Option Addr) (xn xc : Nat) (y : Value) (w : World) (hn : 40 < n) :
    Calls Try.prog 9 #[.slice a n cap, .int .i64 id, .slice x xn xc, y] w fun e w' => e = .returned (.bool true) ∧ Below w.heap.size w w' := by
  go_enter Try.func9, Try.ntmps9
  go_wp2_with (first | (go_at_call 31; refine (few_no _ _ _ _ hn).mono ?_; rintro e w1' ⟨rfl, rfl⟩))
  refine (awake9 _).mono ?_
  rintro e w1 ⟨rfl, hb1⟩
  go_wp2_with (first | (go_at_call 31; refine (few_no _ _ _ _ hn).mono ?_; rintro e w1' ⟨rfl, rfl⟩))
  refine (awake9 _).mono ?_
  rintro e w2 ⟨rfl, hb2⟩
  have hs1 := hb1.size
  go_wp2_with fail
  go_ret
  exact ⟨rfl, (by repeat (first | exact Below.refl _ _ | assumption | refine Below.drew ?_ | refine below_drewN' ?_ _ | refine Below.setCell ?_ (by first | omega | (simp; done) | (simp; omega)) _ | refine Below.alloc ?_ (by first | omega | (simp; done) | (simp; omega)) _ | refine Below.trans ?_ (Below.mono (by assumption) (by first | omega | (simp; done) | (simp; omega)))))⟩
set_option maxRecDepth 100000 in
set_option maxHeartbeats 400000 in
theorem arenaTurns_long (n : Nat) (a : Option Addr) (cap : Nat) (id : Int) (x : Option Addr) (xn xc : Nat) (y : Value) (w : World) (hn : n ≤ 40) (hx : 8 < xn) (hm : xn ≤ maxLen) :
    Calls Try.prog 9 #[.slice a n cap, .int .i64 id, .slice x xn xc, y] w fun e w' => e = .returned (.bool true) ∧ Below w.heap.size w w' := by
  unfold maxLen at hm
  have hd : decide ((8 : Int) < (xn : Int)) = true := by simp; omega
  go_enter Try.func9, Try.ntmps9
  go_wp2_with (first | (go_at_call 31; refine (few_yes _ _ _ _ hn).mono ?_; rintro e w1' ⟨rfl, rfl⟩))
  refine (awake9 _).mono ?_
  rintro e w1 ⟨rfl, hb1⟩
  go_wp2_with (first | (go_at_call 31; refine (few_yes _ _ _ _ hn).mono ?_; rintro e w1' ⟨rfl, rfl⟩))
  refine (awake9 _).mono ?_
  rintro e w2 ⟨rfl, hb2⟩
  have hs1 := hb1.size
  go_wp2_with fail
  go_ret
  exact ⟨rfl, (by repeat (first | exact Below.refl _ _ | assumption | refine Below.drew ?_ | refine below_drewN' ?_ _ | refine Below.setCell ?_ (by first | omega | (simp; done) | (simp; omega)) _ | refine Below.alloc ?_ (by first | omega | (simp; done) | (simp; omega)) _ | refine Below.trans ?_ (Below.mono (by assumption) (by first | omega | (simp; done) | (simp; omega)))))⟩

set_option maxRecDepth 100000 in
set_option maxHeartbeats 1000000 in
theorem arenaTurns_out (l : List Nd) (v : Value) (id : Int) (x : Option Addr) (xn xc : Nat) (y : Value) (W : World) (hl : NodesAt W v l) (ho : ∀ n ∈ l, n.ok) (hm : l.length ≤ 40) (hx : xn ≤ 8) (hid : id < 0 ∨ ((preL l l.length).length : Int) ≤ id) :
    Calls Try.prog 9 #[v, .int .i64 id, .slice x xn xc, y] W fun e w' => e = .returned (.bool true) ∧ Below W.heap.size W w' := by
  have hl0 := hl
  obtain ⟨a, cap, rfl, hs⟩ := hl
  clear hs
  have hpl := preL_len l l.length (Nat.le_refl _)
  have hd : decide ((8 : Int) < (xn : Int)) = false := by simp; omega
  have HM := Lib.hid (fun (w : World) (h : Below W.heap.size W w) => made_any l _ w (hl0.below h (Nat.le_refl _)) ho (by omega))
  clear ho
  generalize preL l l.length = L at *
  have hdd : decide (id < 0) = true ∨ (decide (id < 0) = false ∧ decide ((L.length : Int) ≤ id) = true) := by simp; omega
  have HS := Lib.hid (fun (n0 b m : Nat) (va : Value) (w : World) (h : Ar n0 w b m va L) => aturn_out h id hid)
  clear hid
  rcases hdd with hdd | ⟨hd1, hd2⟩
  all_goals
    go_enter Try.func9, Try.ntmps9
    go_wp2_with (first | (go_at_call 31; refine (few_yes _ _ _ _ hm).mono ?_; rintro e w1' ⟨rfl, rfl⟩) | (go_at_call 30; refine (awake9 _).mono ?_; rintro e w1 ⟨rfl, hb1⟩) | (go_at_call 37; refine (HM.out _ hb1).mono ?_; rintro e w2 ⟨⟨b, m, va, rfl, hA⟩, hb2⟩) | (go_at_call 35; first | (refine (len_any hA4).mono ?_; rintro e w5 ⟨rfl, hb5⟩; have hA5 := hA4.below hb5 (Nat.le_refl _)) | (refine (len_any hA).mono ?_; rintro e w3 ⟨rfl, hb3⟩; have hA3 := hA.below hb3 (Nat.le_refl _))) | (go_at_call 38; refine (HS.out _ _ _ _ _ hA3).mono ?_; rintro e w4 ⟨rfl, hb4⟩; have hA4 := hA3.below hb4 (Nat.le_refl _)))
    have hs1 := hb1.size
    have hs2 := hb2.size
    have hs3 := hb3.size
    have hs4 := hb4.size
    go_ret
    exact ⟨rfl, (by repeat (first | exact Below.refl _ _ | assumption | refine Below.drew ?_ | refine below_drewN' ?_ _ | refine Below.setCell ?_ (by first | omega | (simp; done) | (simp; omega)) _ | refine Below.alloc ?_ (by first | omega | (simp; done) | (simp; omega)) _ | refine Below.trans ?_ (Below.mono (by assumption) (by first | omega | (simp; done) | (simp; omega)))))⟩

/-! Printed by genlaw9.py from here on. -/
def c9 (nv wv bv kv tv : Value) (id x : Nat) : Nat → Value
  | 0 => nv | 1 => wv | 2 => bv | 4 => .int .i64 (id : Int) | 7 => nv | 8 => kv | 9 => tv | 11 => .int .i64 (x : Int)
  | _ => undef
set_option maxRecDepth 100000 in
set_option maxHeartbeats 8000000 in
theorem arenaTurns_in (l : List Nd) (v : Value) (id : Nat) (xa : Option Addr) (xc : Nat) (wl sl : List Int) (y : Value) (W : World) (hl : NodesAt W v l) (ho : ∀ n ∈ l, n.ok) (hm : l.length ≤ 40) (hwv : BytesAt W (.slice xa wl.length xc) wl) (hsv : BytesAt W y sl) (hsl : sl.length ≤ maxLen) (hx : wl.length ≤ 8) (hid : id < (preL l l.length).length) :
    Calls Try.prog 9 #[v, .int .i64 (id : Int), .slice xa wl.length xc, y] W fun e w' => e = .returned (.bool true) ∧ Below W.heap.size W w' := by
  have hl0 := hl
  obtain ⟨a, cap, rfl, hs⟩ := hl
  clear hs
  have hpl := preL_len l l.length (Nat.le_refl _)
  have hd : decide ((8 : Int) < (wl.length : Int)) = false := by simp; omega
  have hw := Lib.hid (wf_pre l l.length)
  have HM := Lib.hid (fun (w : World) (h : Below W.heap.size W w) => made_any l _ w (hl0.below h (Nat.le_refl _)) ho (by omega))
  clear ho
  generalize preL l l.length = L at *
  obtain ⟨n, hnn⟩ : ∃ n, wl.length + 1 = n := ⟨_, rfl⟩
  have hnz : (wl.length : Int) + 1 = (n : Int) := by omega
  have hn100 : n ≤ 100 := by omega
  replace hnn := Lib.hid hnn
  have hd2 : decide ((L.length : Int) ≤ (id : Int)) = false := decide_eq_false (by omega)
  have hd2n : decide (L.length ≤ id) = false := decide_eq_false (by omega)
  have hd3 : decide ((id : Int) < 0) = false := decide_eq_false (by omega)
  go_enter Try.func9, Try.ntmps9
  go_wp2_with (first | (go_at_call 31; refine (few_yes _ _ _ _ hm).mono ?_; rintro e w1' ⟨rfl, rfl⟩) | (go_at_call 30; refine (awake9 _).mono ?_; rintro e w1 ⟨rfl, hb1⟩) | (go_at_call 37; refine (HM.out _ hb1).mono ?_; rintro e w2 ⟨⟨b, m, va, rfl, hA⟩, hb2⟩) | (go_at_call 35; refine (len_any hA).mono ?_; rintro e w3 ⟨rfl, hb3⟩; have hA3 := hA.below hb3 (Nat.le_refl _)))
  have hs1 := hb1.size
  have hs2 := hb2.size
  have hs3 := hb3.size
  refine (aturn_in hA3 hw.out (by omega) (by omega) id hid).mono ?_
  rintro e w4 ⟨x1, v4, L4, rfl, hT4⟩
  have hbT4 := hT4.bel
  have hs4 := hbT4.size
  have hL4 := hT4.len
  have hx1 := hT4.mir.lt
  have hid4 : id < L4.length := Nat.lt_of_lt_of_le hid hT4.pre.len
  have hbl4 : Below W.heap.size W w4 := (by repeat (first | exact Below.refl _ _ | assumption | refine Below.drew ?_ | refine below_drewN' ?_ _ | refine Below.setCell ?_ (by first | omega | (simp; done) | (simp; omega)) _ | refine Below.alloc ?_ (by first | omega | (simp; done) | (simp; omega)) _ | refine Below.trans ?_ (Below.mono (by assumption) (by first | omega | (simp; done) | (simp; omega)))))
  have hd4 : decide ((L4.length : Int) ≤ (x1 : Int)) = false := decide_eq_false (by omega)
  have hd4n : decide (L4.length ≤ x1) = false := decide_eq_false (by omega)
  have hd5 : decide ((x1 : Int) < 0) = false := decide_eq_false (by omega)
  have hwv4 := hwv.below hbl4 (Nat.le_refl _)
  have HP := Lib.hid (places_any hn100 (hsv.below hbl4 (Nat.le_refl _)) hsl)
  have hbl : (plc n sl).length = n := plc_len n sl
  have hb256 := plc_256 n hsv.1
  generalize plc n sl = bl at *
  replace hbl := Lib.hid hbl
  go_wp2_with (first | (go_at_call 39; refine HP.out.mono ?_; rintro e w5 ⟨⟨bv, rfl, hbv⟩, hb5⟩) | (go_at_call 40; refine (reversed_any (hwv4.below hb5 (Nat.le_refl _)) (hbv.bytes hb256) (by omega) (by rw [hbl.out]; omega)).mono ?_; rintro e w6 ⟨⟨kv, tv, rfl, hbk, htd⟩, hb6⟩) | (go_at_call 41; refine (nodes_any ((hT4.ar.below hb5 (Nat.le_refl _)).below hb6 (Nat.le_refl _)) (by omega)).mono ?_; rintro e w7 ⟨⟨vw, rfl, hWn⟩, hb7⟩; obtain ⟨sw, cw, rfl⟩ := OwnN.shape hWn))
  have hs5 := hb5.size
  have hs6 := hb6.size
  have hs7 := hb7.size
  have hA7 := ((hT4.ar.below hb5 (Nat.le_refl _)).below hb6 (Nat.le_refl _)).below hb7 (Nat.le_refl _)
  refine (aturn_in hA7 hT4.wf (by omega) (by omega) x1 hx1).mono ?_
  rintro e w8 ⟨y1, v8, L8, rfl, hT8⟩
  have hy : y1 = id := hT8.mir.uniq hT8.wf hT8.ar.nd (hT4.mir.symm.mono hT8.pre)
  rw [hy]
  have hbT8 := hT8.bel
  have hs8 := hbT8.size
  have hon := hT8.only
  have hbl8 : Below W.heap.size W w8 := (by repeat (first | exact Below.refl _ _ | assumption | refine Below.drew ?_ | refine below_drewN' ?_ _ | refine Below.setCell ?_ (by first | omega | (simp; done) | (simp; omega)) _ | refine Below.alloc ?_ (by first | omega | (simp; done) | (simp; omega)) _ | refine Below.trans ?_ (Below.mono (by assumption) (by first | omega | (simp; done) | (simp; omega)))))
  have hwv8 := hwv.below hbl8 (Nat.le_refl _)
  have hbv8 : BytesAt w8 bv bl := OwnB.bytes (own_keep (rowBelow (rowBelow hbv hb6 (Nat.le_refl _)) hb7 (Nat.le_refl _)) hT4.ar (Nat.le_refl _) hon) hb256
  have hbk8 : BytesAt w8 kv wl.reverse := OwnB.bytes (own_keep (rowBelow hbk hb7 (Nat.le_refl _)) hT4.ar hs5 hon) (fun x hx => hwv.1 x (by simpa using hx))
  have htd8 : BytesAt w8 tv bl.reverse := OwnB.bytes (own_keep (rowBelow htd hb7 (Nat.le_refl _)) hT4.ar hs5 hon) (fun x hx => hb256 x (by simpa using hx))
  have hNd : NodesAt w8 _ L4 := OwnN.nodes (own_keep hWn hT4.ar (by omega) hon)
  have hmir := mir_tab hT4.wf hnn.out hbl.out hwv.1 hT4.mir
  replace hmir := Lib.hid hmir
  replace hT4 := hT4
  clear hb1 hb2 hb3 hb5 hb6 hb7 hbT4 hbT8 hon hA hA3 hA7 HP HM hwv4 hbv hbk htd hWn hT8 hbl4 hy
  go_wp2_with fail
  replace hnn := hnn.out
  replace hbl := hbl.out
  have hnr : wl.reverse.length + 1 = n := by simpa using hnn
  have hbr : bl.reverse.length = n := by simpa using hbl
  refine wp_region_inv (σ := Nat → Value) (rv9 (c9 (.slice sw L4.length cw) (.slice xa wl.length xc) bv kv tv id x1)) (R9 n L4.length (tS n wl bl L4 L4.length) (tS n wl.reverse bl.reverse L4 L4.length) id x1 w8) (by kernel_rfl) (by kernel_rfl) (by kernel_rfl) (by kernel_rfl) (by rfl) (fun _ => undef) ?_ ⟨?_, ?_, ?_, ?_, ?_, ?_, ?_, ?_, ?_, ?_, ?_, ?_, ?_, ?_, ?_, ?_, trivial⟩ ?_
  · exact ⟨Below.drew (Below.refl _ _), fun j h => by cases h⟩
  · intro p done a' wx hI hn ha hv
    exact wp_move' (.tmp 15) rfl (hv.out 15 rfl) ⟨p, rfl, fun _ _ => rfl, hI.quiet (fun _ _ => trivial)⟩
  · intro p done a' wx hI hn ha hv
    exact wp_move' (.tmp 2) rfl (hv.out 2 rfl) ⟨p, rfl, fun _ _ => rfl, hI.quiet (fun _ _ => trivial)⟩
  · intro p done a' wx hI hn ha hv
    exact wp_move' (.tmp 12) rfl (hv.out 12 rfl) ⟨p, rfl, fun _ _ => rfl, hI.quiet (fun _ _ => trivial)⟩
  · intro p done a' wx hI hn ha hv
    have e1 := (hv.inn 0 _ 83 rfl rfl (ha ⟨0, .data⟩ (by simp) rfl))
    have e2 := (hv.inn 1 _ 84 rfl rfl (ha ⟨1, .data⟩ (by simp) rfl))
    have e3 := (hv.inn 2 _ 85 rfl rfl (ha ⟨2, .data⟩ (by simp) rfl))
    refine wp_call 42 enter42 #[.tmp 83, .tmp 84, .tmp 85] #[48, 22, 22] rfl ?_
    simp only [List.map_toArray, List.map_cons, List.map_nil, e1, e2, e3]
    refine (spans_any hT4.wf (by omega) (hNd.below hI.bel (Nat.le_refl _)) (hwv8.below hI.bel (Nat.le_refl _)) (hbv8.below hI.bel (Nat.le_refl _)) hnn hx hbl).mono ?_
    rintro e w' ⟨⟨z, g, r, rfl, hTabs⟩, hb⟩
    exact ⟨_, rfl, setP p 3 z, rfl, rv9_set hn, hI.step hn hb (RowP.of hTabs (by omega))⟩
  · intro p done a' wx hI hn ha hv
    exact wp_move' (.tmp 1) rfl (hv.out 1 rfl) ⟨p, rfl, fun _ _ => rfl, hI.quiet (fun _ _ => trivial)⟩
  · intro p done a' wx hI hn ha hv
    obtain ⟨o, co, g, r, hu, hlt, hcs⟩ := hI.phi 3 (ha ⟨3, .data⟩ (by simp) rfl)
    exact wp_index68 (.tmp 86) (.tmp 87) rfl ((hv.inn 3 _ 86 rfl rfl (ha ⟨3, .data⟩ (by simp) rfl)).trans hu) (hv.inn 4 _ 87 rfl rfl (ha ⟨4, .data⟩ (by simp) rfl)) hid4 ⟨setP p 5 _, rfl, rv9_set hn, hI.step hn (Below.refl _ _) ⟨o, g id, r id, rfl, (hcs id hid4).1, (hcs id hid4).2⟩⟩
  · intro p done a' wx hI hn ha hv
    obtain ⟨o, g, r, hu, hc, hH⟩ := hI.phi 5 (ha ⟨5, .data⟩ (by simp) rfl)
    exact wp_load67 (.tmp 88) rfl ((hv.inn 5 _ 88 rfl rfl (ha ⟨5, .data⟩ (by simp) rfl)).trans hu) hc ⟨setP p 6 _, rfl, rv9_set hn, hI.step hn (Below.refl _ _) ⟨g, r, rfl, hH⟩⟩
  · intro p done a' wx hI hn ha hv
    exact wp_move' (.tmp 15) rfl (hv.out 15 rfl) ⟨p, rfl, fun _ _ => rfl, hI.quiet (fun _ _ => trivial)⟩
  · intro p done a' wx hI hn ha hv
    exact wp_move' (.tmp 13) rfl (hv.out 13 rfl) ⟨p, rfl, fun _ _ => rfl, hI.quiet (fun _ _ => trivial)⟩
  · intro p done a' wx hI hn ha hv
    exact wp_move' (.tmp 14) rfl (hv.out 14 rfl) ⟨p, rfl, fun _ _ => rfl, hI.quiet (fun _ _ => trivial)⟩
  · intro p done a' wx hI hn ha hv
    have e1 := (hv.inn 7 _ 90 rfl rfl (ha ⟨7, .data⟩ (by simp) rfl))
    have e2 := (hv.inn 8 _ 91 rfl rfl (ha ⟨8, .data⟩ (by simp) rfl))
    have e3 := (hv.inn 9 _ 92 rfl rfl (ha ⟨9, .data⟩ (by simp) rfl))
    refine wp_call 42 enter42 #[.tmp 90, .tmp 91, .tmp 92] #[48, 22, 22] rfl ?_
    simp only [List.map_toArray, List.map_cons, List.map_nil, e1, e2, e3]
    refine (spans_any hT4.wf (by omega) (hNd.below hI.bel (Nat.le_refl _)) (hbk8.below hI.bel (Nat.le_refl _)) (htd8.below hI.bel (Nat.le_refl _)) hnr (by simpa using hx) hbr).mono ?_
    rintro e w' ⟨⟨z, g, r, rfl, hTabs⟩, hb⟩
    exact ⟨_, rfl, setP p 10 z, rfl, rv9_set hn, hI.step hn hb (RowP.of hTabs (by omega))⟩
  · intro p done a' wx hI hn ha hv
    exact wp_move' (.tmp 11) rfl (hv.out 11 rfl) ⟨p, rfl, fun _ _ => rfl, hI.quiet (fun _ _ => trivial)⟩
  · intro p done a' wx hI hn ha hv
    obtain ⟨o, co, g, r, hu, hlt, hcs⟩ := hI.phi 10 (ha ⟨10, .data⟩ (by simp) rfl)
    exact wp_index68 (.tmp 93) (.tmp 94) rfl ((hv.inn 10 _ 93 rfl rfl (ha ⟨10, .data⟩ (by simp) rfl)).trans hu) (hv.inn 11 _ 94 rfl rfl (ha ⟨11, .data⟩ (by simp) rfl)) hx1 ⟨setP p 12 _, rfl, rv9_set hn, hI.step hn (Below.refl _ _) ⟨o, g x1, r x1, rfl, (hcs x1 hx1).1, (hcs x1 hx1).2⟩⟩
  · intro p done a' wx hI hn ha hv
    obtain ⟨o, g, r, hu, hc, hH⟩ := hI.phi 12 (ha ⟨12, .data⟩ (by simp) rfl)
    exact wp_load67 (.tmp 95) rfl ((hv.inn 12 _ 95 rfl rfl (ha ⟨12, .data⟩ (by simp) rfl)).trans hu) hc ⟨setP p 13 _, rfl, rv9_set hn, hI.step hn (Below.refl _ _) ⟨g, r, rfl, hH⟩⟩
  · intro p done a' wx hI hn ha hv
    exact wp_assign' (.tmp 89) rfl (hv.inn 6 _ 89 rfl rfl (ha ⟨6, .data⟩ (by simp) rfl)) ⟨setP p 14 (p 6), rfl, rv9_set hn, hI.step hn (Below.refl _ _) (hI.phi 6 (ha ⟨6, .data⟩ (by simp) rfl))⟩
  · intro p done a' wx hI hn ha hv
    exact wp_assign' (.tmp 96) rfl (hv.inn 13 _ 96 rfl rfl (ha ⟨13, .data⟩ (by simp) rfl)) ⟨setP p 15 (p 13), rfl, rv9_set hn, hI.step hn (Below.refl _ _) (hI.phi 13 (ha ⟨13, .data⟩ (by simp) rfl))⟩
  · intro p done w9 hI hall
    obtain ⟨g1, r1, hp14, hH1⟩ := hI.phi 14 (hall 14 (by decide))
    obtain ⟨g2, r2, hp15, hH2⟩ := hI.phi 15 (hall 15 (by decide))
    have hb9 := hI.bel
    have hbl9 : Below W.heap.size W w9 := (by repeat (first | exact Below.refl _ _ | assumption | refine Below.drew ?_ | refine below_drewN' ?_ _ | refine Below.setCell ?_ (by first | omega | (simp; done) | (simp; omega)) _ | refine Below.alloc ?_ (by first | omega | (simp; done) | (simp; omega)) _ | refine Below.trans ?_ (Below.mono (by assumption) (by first | omega | (simp; done) | (simp; omega)))))
    simp only [fill, if_true, rv9, c9]
    rw [hp14, hp15]
    generalize tS n wl bl L4 L4.length id = T1 at *
    generalize tS n wl.reverse bl.reverse L4 L4.length x1 = T2 at *
    clear hI hall hp14 hp15 hNd hwv8 hbv8 hbk8 htd8 hT4 hw hnr hbr hbl hwv hsv hl0 hb256
    simp only [Act.put, List.setIfInBounds_toArray, List.set_cons_zero, List.set_cons_succ]
    replace hnn := Lib.hid hnn
    go_wp2_with fail
    go_loopw [99] (fun iv wr => ∃ i : Nat, i ≤ n ∧ iv = .int .i64 i ∧ Below w9.heap.size w9 wr) (fun iv _ => (n - intOf iv).toNat)
    case atStart => exact ⟨0, by omega, rfl, Below.refl _ _⟩
    case round =>
      obtain ⟨i, hi, rfl, hbz⟩ := hrel
      by_cases hlt : i < n
      · obtain ⟨wo, rfl⟩ : ∃ wo : World, wo = wr := ⟨_, rfl⟩
        go_wp2_with fail
        go_loopw [19] (fun jv wr => ∃ j : Nat, i ≤ j ∧ j ≤ n ∧ jv = .int .i64 j ∧ Below w9.heap.size w9 wr) (fun jv _ => (n - intOf jv).toNat)
        case atStart => exact ⟨i, by omega, by omega, rfl, hbz⟩
        case round =>
          clear hbz
          obtain ⟨j, hij, hj, rfl, hbz⟩ := hrel
          by_cases hlj : j < n
          · have hm1 := hmir.out i j hij hlj
            have hwn := hnn.out
            have x1e : n - 1 - j = wl.length - j := by omega
            have x2e : n - 1 - i = wl.length - i := by omega
            rw [x1e, x2e] at hm1
            have hj1 : wl.length - j < n := by omega
            have hi1 : wl.length - i < n := by omega
            have c1 := HT.c (hH1.below hbz (Nat.le_refl _)) hlt
            have c2 := HT.e (hH1.below hbz (Nat.le_refl _)) hlt hlj
            have c3 := HT.c (hH2.below hbz (Nat.le_refl _)) hj1
            have c4 := HT.e (hH2.below hbz (Nat.le_refl _)) hj1 hi1
            rw [← hm1] at c4
            have hix1 : (wl.length : Int) - (j : Int) = ((wl.length - j : Nat) : Int) := by omega
            have hix2 : (wl.length : Int) - (i : Int) = ((wl.length - i : Nat) : Int) := by omega
            have hszz := hbz.size
            clear hm1 x1e x2e hwn
            generalize T1 i j = vv at *
            cases vv
            all_goals
              go_wp2_with fail
              go_big_quiet (fail)
              go_wp2_with fail
              go_round
              case rel => exact ⟨j + 1, by omega, by omega, by go_num, (by repeat (first | exact Below.refl _ _ | assumption | refine Below.drew ?_ | refine below_drewN' ?_ _ | refine Below.setCell ?_ (by first | omega | (simp; done) | (simp; omega)) _ | refine Below.alloc ?_ (by first | omega | (simp; done) | (simp; omega)) _ | refine Below.trans ?_ (Below.mono (by assumption) (by first | omega | (simp; done) | (simp; omega)))))⟩
              case measure => simp [intOf]; omega
          · obtain rfl : j = n := by omega
            go_wp2_with fail
            go_round
            case rel => exact ⟨i + 1, by omega, by go_num, hbz⟩
            case measure => simp [intOf]; omega
      · obtain rfl : i = n := by omega
        have hs9 := hbl9.size
        go_wp2_with fail
        go_ret
        exact ⟨rfl, hbl9.trans (hbz.mono hs9)⟩

theorem arenaTurns_any (l : List Nd) (v : Value) (id : Int) (xa : Option Addr) (xl xc : Nat) (wl sl : List Int) (y : Value) (W : World) (hl : NodesAt W v l) (ho : ∀ n ∈ l, n.ok) (hwl : wl.length = xl) (hwv : BytesAt W (.slice xa xl xc) wl) (hxm : xl ≤ maxLen) (hsv : BytesAt W y sl) (hsl : sl.length ≤ maxLen) :
    Calls Try.prog 9 #[v, .int .i64 id, .slice xa xl xc, y] W fun e w' => e = .returned (.bool true) ∧ Below W.heap.size W w' := by
  subst hwl
  rcases Nat.lt_or_ge 40 l.length with h | h
  · obtain ⟨a, cap, rfl, _⟩ := hl
    exact arenaTurns_many l.length a cap id xa wl.length xc y W h
  · rcases Nat.lt_or_ge 8 wl.length with h8 | h8
    · obtain ⟨a, cap, rfl, _⟩ := hl
      exact arenaTurns_long l.length a cap id xa wl.length xc y W h h8 hxm
    · by_cases hid : 0 ≤ id ∧ id < ((preL l l.length).length : Int)
      · obtain ⟨i, rfl⟩ : ∃ i : Nat, id = i := ⟨id.toNat, by omega⟩
        exact arenaTurns_in l v i xa xc wl sl y W hl ho h hwv hsv hsl h8 (by omega)
      · exact arenaTurns_out l v id xa wl.length xc y W hl ho h h8 (by omega)

end Go.Proofs.Ytbmejpghoafapaa
