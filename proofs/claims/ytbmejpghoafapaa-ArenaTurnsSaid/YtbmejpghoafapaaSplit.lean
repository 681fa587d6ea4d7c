/-
  The walk of classes.split.
-/
import Derived.Test.YtbmejpghoafapaaCls
import Derived.Test.YtbmejpghoafapaaSeq
namespace Go.Proofs.Ytbmejpghoafapaa
open Go.RowKit Go.Maps

/-! ### The key: a byte's class, and whether the set has it -/
theorem Try.laidOutK : laidOutB Try.prog = true := by kernel_rfl
theorem Try.row91 : (91 : TypeId) < Try.prog.types.size := of_decide_eq_true (by kernel_rfl)
theorem Try.key91 : Try.prog.keyTypeAt 2 91 = true := by kernel_rfl
theorem Try.wide91 : (match Try.prog.underlying 91 with | some (.array _ _) | some (.struct _) => true | _ => false) = true := by rw [Try.underlying91]
theorem Try.law91 : Keyed Try.prog 91 := Keyed.of_law (deep_law_laid Try.laidOutK (m := 2) (by omega) Try.row91 Try.key91 Try.wide91)
theorem Try.ntypes : ∃ m, Try.prog.types.size = m + 10 := ⟨Try.prog.types.size - 10, (by
  have : (91 : Nat) < Try.prog.types.size := Try.row91
  omega)⟩
theorem Try.keyType91 : Try.prog.keyType 91 = true := by kernel_rfl
theorem Try.cells91 : Try.prog.cellsOf 91 = 2 := by kernel_rfl
theorem Try.cells5 : Try.prog.cellsOf 5 = 1 := by kernel_rfl
theorem Try.cells4 : Try.prog.cellsOf 4 = 1 := by kernel_rfl
theorem Try.zero5 (w : World) : (zeroValue 5).run Try.prog w = .ok (.int .u8 0) w := by kernel_rfl
theorem wf_u8 {c : Int} (h0 : 0 ≤ c) (h1 : c < 256) : (Lit.int .u8 c).wf = true := by
  simp [Lit.wf, IntKind.min, IntKind.max, IntKind.signed, IntKind.bits]
  omega

/-- The value of a pair. -/
abbrev pv (p : Int × Bool) : Value := .agg #[.int .u8 p.1, .bool p.2]
theorem keyLits_u8 (d : Nat) {c : Int} (h0 : 0 ≤ c) (h1 : c < 256) : Try.prog.keyLits (d + 1) 5 [.int .u8 c] = some [.int .u8 c] := by
  simp [Program.keyLits, Try.underlying5, wf_u8 h0 h1]
theorem keyLits_bool (d : Nat) (h : Bool) : Try.prog.keyLits (d + 1) 4 [.bool h] = some [.bool h] := by
  simp [Program.keyLits, Try.underlying4]
theorem keyLits_pair (d : Nat) {c : Int} (h : Bool) (h0 : 0 ≤ c) (h1 : c < 256) : Try.prog.keyLits (d + 2) 91 [.int .u8 c, .bool h] = some [.int .u8 c, .bool h] := by
  unfold Program.keyLits
  simp [Try.underlying91, Try.cells91, Try.cells5, Try.cells4, keyLits_u8 d h0 h1, keyLits_bool]
theorem keyOf_pair (p : Int × Bool) (h : 0 ≤ p.1 ∧ p.1 < 256) : ∃ kl, keyOf Try.prog 91 (pv p) = some kl := by
  obtain ⟨m, hm⟩ := Try.ntypes
  have hf : Value.formed Try.prog 91 (pv p) = true := by simp [Value.formed, Try.underlying91, Try.cells91]
  have hl := keyLits_pair (m + 9) p.2 h.1 h.2
  refine ⟨.string (keyBytes [.int .u8 p.1, .bool p.2]), ?_⟩
  unfold keyOf
  rw [Try.underlying91]
  simp only [Try.keyType91, hf, Bool.and_self, if_true, hm]
  show Option.map _ (Try.prog.keyLits (m + 9 + 2) 91 [.int .u8 p.1, .bool p.2]) = _
  rw [hl]
  rfl
theorem Try.info41 : (Try.prog.info? 41).map (fun i => (i.zero, i.size)) = some (some (cv (fun _ => 0) 0), 257) := by kernel_rfl
@[go_sem] theorem Try.zero41 (w : World) : (zeroValue 41).run Try.prog w = .ok (cv (fun _ => 0) 0) w := (zero_of_info Try.info41).1 w

/-! ### The plain function -/
/-- The pairs that the first k bytes show, in the order in which they come up. -/
def reps (pr : Nat → Int × Bool) : Nat → List (Int × Bool)
  | 0 => []
  | k + 1 => if pr k ∈ reps pr k then reps pr k else reps pr k ++ [pr k]
theorem reps_len (pr : Nat → Int × Bool) (k : Nat) : (reps pr k).length ≤ k := by
  induction k with
  | zero => simp [reps]
  | succ k ih =>
    simp only [reps]
    split
    · omega
    · simp; omega
theorem reps_old {pr : Nat → Int × Bool} {k : Nat} (h : pr k ∈ reps pr k) : reps pr (k + 1) = reps pr k := by simp [reps, h]
theorem reps_new {pr : Nat → Int × Bool} {k : Nat} (h : pr k ∉ reps pr k) : reps pr (k + 1) = reps pr k ++ [pr k] := by simp [reps, h]
theorem reps_mem (pr : Nat → Int × Bool) (j : Nat) : ∀ d, pr j ∈ reps pr (j + 1 + d)
  | 0 => by
    show pr j ∈ reps pr (j + 1)
    simp only [reps]
    split
    · assumption
    · simp
  | d + 1 => by
    have := reps_mem pr j d
    rw [← Nat.add_assoc]
    simp only [reps]
    split
    · exact this
    · simp [this]
/-- The number of a pair. -/
def num (l : List (Int × Bool)) (p : Int × Bool) : Nat := l.idxOf p
theorem num_append {l m : List (Int × Bool)} {p : Int × Bool} (h : p ∈ l) : num (l ++ m) p = num l p := by
  unfold num
  rw [List.idxOf_append, if_pos h]
theorem num_at {l : List (Int × Bool)} {p : Int × Bool} (h : p ∈ l) : l[num l p]? = some p := by
  have h1 : num l p < l.length := List.idxOf_lt_length_of_mem h
  rw [List.getElem?_eq_getElem h1]
  exact congrArg some (List.getElem_idxOf h1)
theorem num_lt {l : List (Int × Bool)} {p : Int × Bool} (h : p ∈ l) : num l p < l.length := List.idxOf_lt_length_of_mem h
theorem num_snoc {l : List (Int × Bool)} {p : Int × Bool} (h : p ∉ l) : num (l ++ [p]) p = l.length := by
  unfold num
  rw [List.idxOf_append, if_neg h]
  simp
theorem reps_num (pr : Nat → Int × Bool) (j k : Nat) (h : j < k) : ∀ d, num (reps pr (k + d)) (pr j) = num (reps pr k) (pr j)
  | 0 => rfl
  | d + 1 => by
    have hm : pr j ∈ reps pr (k + d) := by
      have := reps_mem pr j (k + d - (j + 1))
      rwa [show j + 1 + (k + d - (j + 1)) = k + d from by omega] at this
    rw [← Nat.add_assoc, ← reps_num pr j k h d]
    simp only [reps]
    split
    · rfl
    · exact num_append hm
/-- What is put down of the first k bytes. -/
def spl (pr : Nat → Int × Bool) (k : Nat) : Nat → Int := fun b => if b < k then (num (reps pr k) (pr b) : Int) else 0
theorem spl_zero (pr : Nat → Int × Bool) : spl pr 0 = fun _ => 0 := by funext b; simp [spl]
theorem spl_step (pr : Nat → Int × Bool) (k : Nat) : upd (spl pr k) k (num (reps pr (k + 1)) (pr k) : Int) = spl pr (k + 1) := by
  funext b
  unfold upd spl
  by_cases h : b = k
  · subst h
    simp
  · rw [if_neg h]
    by_cases h2 : b < k
    · rw [if_pos h2, if_pos (by omega), reps_num pr b k h2 1]
    · rw [if_neg h2, if_neg (by omega)]

/-- The pairs of classes o and set s. -/
def prOf (o : Nat → Int) (s : Nat → Bool) : Nat → Int × Bool := fun b => (o b, s b)

theorem map_pv_at {l : List (Int × Bool)} {p : Int × Bool} (h : p ∈ l) : (l.map pv)[num l p]? = some (pv p) := by
  rw [List.getElem?_map, num_at h]; rfl
theorem map_pv_not {l : List (Int × Bool)} {p : Int × Bool} (h : p ∉ l) : pv p ∉ l.map pv := by
  intro hm
  obtain ⟨q, hq, he⟩ := List.mem_map.1 hm
  have h1 : q = p := by
    obtain ⟨q1, q2⟩ := q
    obtain ⟨p1, p2⟩ := p
    simp [pv] at he
    simp [he]
  exact h (h1 ▸ hq)

/-- A block of two cells, laid ahead of a call, is there behind it. -/
theorem new_cells2 {w w1 X : World} {v0 v1 : Value} {T : TypeId} (hX : X = (w.alloc (.cells #[v0, v1] T)).drew) (hb : Below X.heap.size X w1) :
    w1.cell? ⟨w.heap.size, 0, none⟩ = some v0 ∧ w1.cell? ⟨w.heap.size, 1, none⟩ = some v1 ∧ ∀ o, w1.frozen? ⟨w.heap.size, o, none⟩ = false := by
  subst hX
  have h0 : (w.alloc (.cells #[v0, v1] T)).drew.heap[w.heap.size]? = some (.cells #[v0, v1] T) := heap_alloc_new w _
  have h : w1.heap[w.heap.size]? = some (.cells #[v0, v1] T) := (hb.block w.heap.size (Array.getElem?_eq_some_iff.1 h0).1).trans h0
  refine ⟨by rw [cell_of_row w1 _ _ _ T (0, 0) h]; rfl, by rw [cell_of_row w1 _ _ _ T (0, 0) h]; rfl, fun i => by simp [World.frozen?, h]⟩

set_option maxRecDepth 100000 in
set_option maxHeartbeats 2000000 in
theorem split_any (o : Nat → Int) (n : Int) (s : Nat → Bool) (w : World) (ho : ∀ i, i < 256 → 0 ≤ o i ∧ o i < 256) :
    Calls Try.prog 45 #[cv o n, sv s] w fun e w' => e = .returned (cv (spl (prOf o s) 256) ((reps (prOf o s) 256).length : Int)) ∧ Below w.heap.size w w' := by
  have hmm := @run_makeMap Try.prog
  have hO0 := ((((HoldsC.made w o n rfl).alloc (sob s)).alloc (cob (fun _ => 0) 0)).alloc (cob (fun _ => 0) 0)).alloc (.map #[] 0)
  have hS0 := (((HoldsS.made (w.alloc (cob o n)) s).alloc (cob (fun _ => 0) 0)).alloc (cob (fun _ => 0) 0)).alloc (.map #[] 0)
  have hR0 := ((HoldsC.made ((w.alloc (cob o n)).alloc (sob s)) (fun _ => 0) 0 (b := w.heap.size + 1 + 1) (by simp)).alloc (cob (fun _ => 0) 0)).alloc (.map #[] 0)
  have hU0 := (HoldsC.made (((w.alloc (cob o n)).alloc (sob s)).alloc (cob (fun _ => 0) 0)) (fun _ => 0) 0 (b := w.heap.size + 1 + 1 + 1) (by simp)).alloc (.map #[] 0)
  have hM0 := KSeq.made Try.prog 91 5 .u8 ((((w.alloc (cob o n)).alloc (sob s)).alloc (cob (fun _ => 0) 0)).alloc (cob (fun _ => 0) 0)) (b := w.heap.size + 1 + 1 + 1 + 1) (by simp)
  rw [World.size_alloc] at hS0
  go_enter Try.func45, Try.ntmps45
  go_wp2_with fail
  obtain ⟨pr, hpr⟩ : ∃ pr, pr = prOf o s := ⟨_, rfl⟩
  go_loopw [12] (fun i wr => ∃ k : Nat, k ≤ 256 ∧ i = .int .i64 k ∧ Below w.heap.size w wr ∧ HoldsC wr w.heap.size o n ∧ HoldsS wr (w.heap.size + 1) s ∧ HoldsC wr (w.heap.size + 1 + 1) (fun _ => 0) 0 ∧
    HoldsC wr (w.heap.size + 1 + 1 + 1) (spl pr k) ((reps pr k).length : Int) ∧ KSeq Try.prog 91 5 .u8 wr (w.heap.size + 1 + 1 + 1 + 1) ((reps pr k).map pv)) (fun i _ => (256 - intOf i).toNat)
  case atStart => exact ⟨0, by omega, rfl, (by repeat (first | exact Below.refl _ _ | assumption | refine Below.drew ?_ | refine below_drewN' ?_ _ | refine Below.setCell ?_ (by first | omega | (simp; done) | (simp; omega)) _ | refine Below.alloc ?_ (by first | omega | (simp; done) | (simp; omega)) _ | refine Below.trans ?_ (Below.mono (by assumption) (by first | omega | (simp; done) | (simp; omega))))), hO0, hS0, hR0, by rw [spl_zero]; exact hU0, hM0⟩
  case round =>
    clear hO0 hS0 hR0 hU0 hM0 hmm
    obtain ⟨k, hk, rfl, hbl, hO, hS, hR, hU, hM⟩ := hrel
    by_cases hlt : k < 256
    · have hprk : Hid (pr k = (o k, s k)) := Lib.hid (by rw [hpr]; rfl)
      have HP := Lib.hid hpr
      clear hpr
      obtain ⟨hx0, hx1⟩ := ho k hlt
      have HH := Lib.hid ho
      clear ho
      have cO : ∀ w', Below wr.heap.size wr w' → w'.cell? ⟨w.heap.size, k, none⟩ = some (.int .u8 (o k)) := fun w' hb => (hO.below hb hO.lt).of k hlt
      have cS0 : ∀ w', Below wr.heap.size wr w' → w'.cell? ⟨w.heap.size + 1, 0, none⟩ = some (.int .u64 (wd s 0)) := fun w' hb => (hS.below hb hS.lt).cells.1
      have cS1 : ∀ w', Below wr.heap.size wr w' → w'.cell? ⟨w.heap.size + 1, 1, none⟩ = some (.int .u64 (wd s 1)) := fun w' hb => (hS.below hb hS.lt).cells.2.1
      have cS2 : ∀ w', Below wr.heap.size wr w' → w'.cell? ⟨w.heap.size + 1, 2, none⟩ = some (.int .u64 (wd s 2)) := fun w' hb => (hS.below hb hS.lt).cells.2.2.1
      have cS3 : ∀ w', Below wr.heap.size wr w' → w'.cell? ⟨w.heap.size + 1, 3, none⟩ = some (.int .u64 (wd s 3)) := fun w' hb => (hS.below hb hS.lt).cells.2.2.2
      have hkk : (k : Int).toNat = k := by omega
      have hw8 : IntKind.u8.wrap (k : Int) = (k : Int) := by rw [IntKind.wrap_u8]; omega
      generalize hok : o k = x at *
      clear hok
      go_wp2_with fail
      go_region_held3 (fun w' => Below wr.heap.size wr w') (repeat (first | exact Below.refl _ _ | assumption | refine Below.drew ?_ | refine below_drewN' ?_ _ | refine Below.setCell ?_ (by first | omega | (simp; done) | (simp; omega)) _ | refine Below.alloc ?_ (by first | omega | (simp; done) | (simp; omega)) _ | refine Below.trans ?_ (Below.mono (by assumption) (by first | omega | (simp; done) | (simp; omega))))) (first | (go_at_call 23; refine (has_any _ _ _ (by omega) (by omega)).mono ?_; rintro e w1 ⟨rfl, hb1⟩; have hs1 := hb1.size; simp at hs1; try (refine (have hq := new_cells2 rfl hb1; ?_); obtain ⟨q0, q1, qf⟩ := hq)))
      all_goals
        rename_i hHe
        have hM1 := hM.below hHe hM.lt
        have hU1 := hU.below hHe hU.lt
        have hO1 := hO.below hHe hO.lt
        have hS1 := hS.below hHe hS.lt
        have hR1 := hR.below hHe hR.lt
        have hbl1 := hbl.trans (hHe.mono hbl.size)
        have hkl0 := keyOf_pair (pr k) (by rw [hprk.out]; exact ⟨hx0, hx1⟩)
        obtain ⟨kl, hkl⟩ := hkl0
        have hstep := Lib.hid (spl_step pr k)
        have hpv : pv (pr k) = .agg #[.int .u8 x, .bool (s k)] := by rw [hprk.out]
        have hrl := reps_len pr k
        by_cases hin : pr k ∈ reps pr k
        · have hrun := KSeq.look_yes hM1 Try.law91 Try.underlying89 Try.underlying5 (Try.zero5 _) hkl (map_pv_at hin)
          have hold := reps_old hin
          have hnl := num_lt hin
          rw [hold] at hstep
          rw [hpv] at hrun
          replace hold := Lib.hid hold
          replace hrun := Lib.hid hrun
          have fU := hU1.free
          have uN := hU1.n
          have uK := hU1.of k hlt
          generalize num (reps pr k) (pr k) = i at *
          clear hin hkl hpv cO cS0 cS1 cS2 cS3
          have hU2 := Lib.hid (hU1.set k (i : Int) hlt)
          rw [hstep.out] at hU2
          go_wp2_with (first | (at_lookup; refine wpList_seq_yes rfl _ _ 89 rfl rfl _ rfl hrun.out ?_))
          go_round
          case rel => exact ⟨k + 1, by omega, by go_num, (by repeat (first | exact Below.refl _ _ | assumption | refine Below.drew ?_ | refine below_drewN' ?_ _ | refine Below.setCell ?_ (by first | omega | (simp; done) | (simp; omega)) _ | refine Below.alloc ?_ (by first | omega | (simp; done) | (simp; omega)) _ | refine Below.trans ?_ (Below.mono (by assumption) (by first | omega | (simp; done) | (simp; omega))))), hO1.other (by show _ ≠ w.heap.size + 1 + 1 + 1; omega) _, hS1.other (by show _ ≠ w.heap.size + 1 + 1 + 1; omega) _, hR1.other (by show _ ≠ w.heap.size + 1 + 1 + 1; omega) _, by rw [hold.out]; exact hU2.out, by rw [hold.out]; exact hM1.other (by show _ ≠ w.heap.size + 1 + 1 + 1; omega) _⟩
          case measure => simp [intOf]; omega
        · have hrun := KSeq.look_no hM1 Try.law91 Try.underlying89 (Try.zero5 _) hkl (map_pv_not hin)
          have hlen : ((reps pr k).map pv).length = (reps pr k).length := by simp
          have hput := KSeq.store hM1 Try.law91 Try.underlying89 Try.underlying5 (by rw [hlen]; unfold maxLen; omega) (by rw [hlen]; exact wf_u8 (by omega) (by omega)) hkl (map_pv_not hin)
          obtain ⟨w5, hrun5, hM5, hg5⟩ := hput
          have hnew := Lib.hid (reps_new hin)
          have hsn := num_snoc hin
          rw [hnew.out, hsn] at hstep
          rw [hlen] at hrun5
          rw [hpv] at hrun hrun5
          rw [show (reps pr k).map pv ++ [pv (pr k)] = (reps pr k ++ [pr k]).map pv from by simp] at hM5
          have hb5 := below_grown hg5 (n := w.heap.size) (by omega) hbl1.size
          have hO5 := hO1.kept hg5 (by simp; omega)
          have hS5 := hS1.kept hg5 (by simp)
          have hR5 := hR1.kept hg5 (by simp)
          have hU5 := hU1.kept hg5 (by simp)
          have hnl : (reps pr k ++ [pr k]).length = (reps pr k).length + 1 := by simp
          have hw8b : IntKind.u8.wrap ((reps pr k).length : Int) = ((reps pr k).length : Int) := by rw [IntKind.wrap_u8]; omega
          generalize hL2 : reps pr k ++ [pr k] = L2 at *
          generalize reps pr k = L at *
          clear hin hkl hpv hlen hsn hL2 cO cS0 cS1 cS2 cS3
          replace hrun := Lib.hid hrun
          replace hrun5 := Lib.hid hrun5
          have uN := hU1.n
          have uN5 := hU5.n
          have uK5 := hU5.of k hlt
          have fU5 := hU5.free
          have hU6 := Lib.hid ((hU5.setN ((L.length : Int) + 1)).set k (L.length : Int) hlt)
          rw [hstep.out] at hU6
          replace hnl := Lib.hid hnl
          go_wp2_with (first | (at_lookup; refine wpList_seq_yes rfl _ _ 89 rfl rfl _ rfl hrun.out ?_) | (at_mapUpdate; refine wpList_seq_put rfl _ _ _ 89 rfl rfl _ _ rfl rfl hrun5.out ?_))
          go_round
          case rel => exact ⟨k + 1, by omega, by go_num, (by repeat (first | exact Below.refl _ _ | assumption | refine Below.drew ?_ | refine below_drewN' ?_ _ | refine Below.setCell ?_ (by first | omega | (simp; done) | (simp; omega)) _ | refine Below.alloc ?_ (by first | omega | (simp; done) | (simp; omega)) _ | refine Below.trans ?_ (Below.mono (by assumption) (by first | omega | (simp; done) | (simp; omega))))), (hO5.other (by show _ ≠ w.heap.size + 1 + 1 + 1; omega) _).other (by show _ ≠ w.heap.size + 1 + 1 + 1; omega) _, (hS5.other (by show _ ≠ w.heap.size + 1 + 1 + 1; omega) _).other (by show _ ≠ w.heap.size + 1 + 1 + 1; omega) _, (hR5.other (by show _ ≠ w.heap.size + 1 + 1 + 1; omega) _).other (by show _ ≠ w.heap.size + 1 + 1 + 1; omega) _, by rw [hnew.out, hnl.out]; exact hU6.out, by rw [hnew.out]; exact (hM5.other (by show _ ≠ w.heap.size + 1 + 1 + 1; omega) _).other (by show _ ≠ w.heap.size + 1 + 1 + 1; omega) _⟩
          case measure => simp [intOf]; omega
    · obtain rfl : k = 256 := by omega
      have HP := Lib.hid hpr
      clear hpr
      generalize hsp : spl pr 256 = sp at *
      generalize hln : ((reps pr 256).length : Int) = ln at *
      have HS := Lib.hid hsp
      have HL := Lib.hid hln
      clear hsp hln
      go_wp2_with (first | (refine wpList_load_cls rfl (.tmp 5) rfl rfl hU ?_) | (refine wpList_store_cls rfl (.tmp 4) (.tmp 47) rfl rfl rfl hR ?_; intro w7 hR7 hg7))
      have hb7 := below_grown hg7 (n := w.heap.size) (by omega) hbl.size
      exact ret_cls rfl rfl hR7 rfl ⟨by rw [← HP.out, HS.out, HL.out], hbl.trans hb7⟩
end Go.Proofs.Ytbmejpghoafapaa
