/-
  turner.turn of any node; the walk of (*Arena).Turn.
-/
import Derived.Test.YtbmejpghoafapaaTurn5
namespace Go.Proofs.Ytbmejpghoafapaa
open Go.RowKit Go.Maps
variable {n0 K b m d : Nat} {w w' w1 W : World} {v v' va : Value} {L0 L L' : List Nd} {M M' : Nat → Option Nat}

theorem turn_any (hK : K ≤ 100) : ∀ id, id < K → TurnC n0 K b m d L0 id := by
  intro id
  induction id using Nat.strongRecOn with
  | _ id ih =>
    intro hid w v L M hS hn0
    cases hM : M id with
    | some x => exact turn_old hS hn0 hK hid hM
    | none =>
      have hl : id < L0.length := by rw [hS.kl]; exact hid
      have hn := hS.pre id _ (List.getElem?_eq_getElem hl)
      have hok := hS.wf id _ hn
      generalize L0[id] = n at *
      have hkd := ok_kind hok
      obtain ⟨kd, f, na, nb, ng⟩ := n
      simp only at hkd hok
      have hKD : (kd < 3 ∨ kd = 8) ∨ (kd = 3 ∨ kd = 4 ∨ kd = 5) ∨ (kd = 6 ∨ kd = 7) := by omega
      rcases hKD with h | h | h
      · exact turn_leaf hS hn0 hK hid hM hn h
      · obtain ⟨_, _, h1, h2⟩ := ok_parts2 (n := ⟨kd, f, na, nb, ng⟩) hok (by simp only; omega)
        simp only at h1 h2
        obtain ⟨c, rfl⟩ : ∃ c : Nat, na = c := ⟨na.toNat, by omega⟩
        obtain ⟨e, rfl⟩ : ∃ e : Nat, nb = e := ⟨nb.toNat, by omega⟩
        have hc : c < id := by omega
        have he : e < id := by omega
        rcases h with rfl | rfl | rfl
        · exact turn_k3 hS hn0 hK hid hM hn hc he (ih c hc (by omega)) (ih e he (by omega))
        · exact turn_k4 hS hn0 hK hid hM hn hc he (ih c hc (by omega)) (ih e he (by omega))
        · exact turn_k5 hS hn0 hK hid hM hn hc he (ih c hc (by omega)) (ih e he (by omega))
      · obtain ⟨_, _, _, h1⟩ := ok_parts1 (n := ⟨kd, f, na, nb, ng⟩) hok (by simp only; omega)
        simp only at h1
        obtain ⟨c, rfl⟩ : ∃ c : Nat, na = c := ⟨na.toNat, by omega⟩
        have hc : c < id := by omega
        rcases h with rfl | rfl
        · exact turn_k6 hS hn0 hK hid hM hn hc (ih c hc (by omega))
        · exact turn_k7 hS hn0 hK hid hM hn hc (ih c hc (by omega))

set_option maxRecDepth 100000 in
set_option maxHeartbeats 1000000 in
theorem aturn_out (hA : Ar n0 W b m va L) (id : Int) (hid : id < 0 ∨ (L.length : Int) ≤ id) : Calls Try.prog 38 #[.pointer (some ⟨b, 0, none⟩), .int .i64 id] W fun e w' => e = .returned (.int .i64 (-1)) ∧ Below W.heap.size W w' := by
  have HN := Lib.hid (node_out hA id hid)
  go_enter Try.func38, Try.ntmps38
  go_wp2_with (go_at_call 36; refine HN.out.mono ?_; rintro e w1 ⟨rfl, hb1⟩)
  have hs1 := hb1.size
  go_ret
  exact ⟨rfl, (by repeat (first | exact Below.refl _ _ | assumption | refine Below.drew ?_ | refine below_drewN' ?_ _ | refine Below.setCell ?_ (by first | omega | (simp; done) | (simp; omega)) _ | refine Below.alloc ?_ (by first | omega | (simp; done) | (simp; omega)) _ | refine Below.trans ?_ (Below.mono (by assumption) (by first | omega | (simp; done) | (simp; omega)))))⟩

structure ATurn (n0 b m : Nat) (L : List Nd) (id : Nat) (w : World) (v : Value) (w' : World) (x : Nat) (v' : Value) (L' : List Nd) : Prop where
  ar : Ar n0 w' b m v' L'
  wf : WfN L'
  pre : Pre L L'
  mir : Mir L' id x
  len : L'.length ≤ 2 * L.length
  only : Only w w' b m v
  ow : Ow w v v'
  bel : Below n0 w w'

set_option maxRecDepth 100000 in
set_option maxHeartbeats 1000000 in
theorem aturn_in (hA : Ar n0 W b m va L) (hw : WfN L) (hn0 : n0 ≤ W.heap.size) (hm : L.length ≤ 100) (id : Nat) (hid : id < L.length) : Calls Try.prog 38 #[.pointer (some ⟨b, 0, none⟩), .int .i64 (id : Int)] W fun e w' =>
    ∃ (x : Nat) (v' : Value) (L' : List Nd), e = .returned (.int .i64 (x : Int)) ∧ ATurn n0 b m L id W va w' x v' L' := by
  obtain ⟨n, hn⟩ : ∃ n, L[id]? = some n := ⟨L[id], List.getElem?_eq_getElem hid⟩
  have HN := Lib.hid (node_in hA id n hn)
  have hmm := @run_makeMap Try.prog
  have hX := fun (w : World) (o : Obj) => Below.alloc (Below.refl w.heap.size w) (Nat.le_refl _) o
  clear hn
  go_enter Try.func38, Try.ntmps38
  go_wp2_with (go_at_call 36; refine HN.out.mono ?_; rintro e w1 ⟨rfl, hb1⟩)
  have hs1 := hb1.size
  have hb2 : Below W.heap.size W ((w1.alloc (.cells (Nd.cells n).toArray 56)).alloc (.map #[] 0)) := (by repeat (first | exact Below.refl _ _ | assumption | refine Below.drew ?_ | refine below_drewN' ?_ _ | refine Below.setCell ?_ (by first | omega | (simp; done) | (simp; omega)) _ | refine Below.alloc ?_ (by first | omega | (simp; done) | (simp; omega)) _ | refine Below.trans ?_ (Below.mono (by assumption) (by first | omega | (simp; done) | (simp; omega)))))
  have hI : IM ((w1.alloc (.cells (Nd.cells n).toArray 56)).alloc (.map #[] 0)) (w1.heap.size + 1) L.length (fun _ => none) := IM.made _ _ (by simp)
  have hml := hA.ltm
  have hS : St n0 L.length ((w1.alloc (.cells (Nd.cells n).toArray 56)).alloc (.map #[] 0)) b m (w1.heap.size + 1) va L L (fun _ => none) :=
    ⟨hA.below hb2 (Nat.le_refl _), hw, hI, fun j x h => (by cases h), fun j _ => rfl, pre_refl L, rfl, Nat.le_add_right _ _, by omega, by omega⟩
  refine (turn_any hm id hid _ _ _ _ hS (by simp; omega)).mono ?_
  rintro e w3 ⟨x, v3, L3, M3, rfl, hT⟩
  have hlen : L3.length ≤ 2 * L.length := by have := hT.st.len; have := cnt_le L.length M3; omega
  have hs2 := hb2.size
  have hAT : ATurn n0 b m L id W va w3 x v3 L3 := ⟨hT.st.ar, hT.st.wf, hT.pre, hT.mir, hlen, fun y hy h1 h2 h3 => (hT.fr y (by omega) ⟨h1, h2, by omega, h3⟩).trans (hb2.block y hy), (ow_refl W va).trans hT.ow hs2, (hb2.mono hn0).trans hT.bel⟩
  clear hT hS hI hb2 hs2
  go_wp2_with fail
  go_ret
  exact ⟨x, v3, L3, rfl, hAT⟩

end Go.Proofs.Ytbmejpghoafapaa
