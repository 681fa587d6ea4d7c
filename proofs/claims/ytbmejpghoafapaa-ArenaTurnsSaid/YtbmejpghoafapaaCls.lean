/-
  A value of type Classes as the program hands it round; the walks of bolterlaw02.right and classes.Right.
-/
import Derived.Test.YtbmejpghoafapaaSets3
import Derived.Deep.MidRow
import Derived.Deep.WholeRow
namespace Go.Proofs.Ytbmejpghoafapaa
open Go.RowKit

/-- The 257 cells: the class of each byte, and how many there are. -/
def cvL (o : Nat → Int) (n : Int) : List Value := (List.range 256).map (fun i => Value.int .u8 (o i)) ++ [.int .i64 n]
def cvA (o : Nat → Int) (n : Int) : Array Value := (cvL o n).toArray
abbrev cv (o : Nat → Int) (n : Int) : Value := .agg (cvA o n)
abbrev cob (o : Nat → Int) (n : Int) : Obj := .cells (cvA o n) 41

theorem cvL_length (o : Nat → Int) (n : Int) : (cvL o n).length = 257 := by simp [cvL]
theorem cvA_size (o : Nat → Int) (n : Int) : (cvA o n).size = 257 := by simp [cvA, cvL_length]
theorem cvL_of (o : Nat → Int) (n : Int) (i : Nat) (h : i < 256) : (cvL o n)[i]? = some (.int .u8 (o i)) := by
  unfold cvL
  rw [List.getElem?_append_left (by simpa using h)]
  simp [h]
theorem cvL_n (o : Nat → Int) (n : Int) : (cvL o n)[256]? = some (.int .i64 n) := by
  unfold cvL
  rw [List.getElem?_append_right (by simp)]
  simp
theorem cvA_of (o : Nat → Int) (n : Int) (i : Nat) (h : i < 256) : (cvA o n)[i]? = some (.int .u8 (o i)) := by simpa [cvA] using cvL_of o n i h
theorem cvA_n (o : Nat → Int) (n : Int) : (cvA o n)[256]? = some (.int .i64 n) := by simpa [cvA] using cvL_n o n
theorem cvA_ext {a b : Array Value} (ha : a.size = 257) (hb : b.size = 257) (h : ∀ i, i < 257 → a[i]? = b[i]?) : a = b := by
  apply Array.ext_getElem?
  intro i
  by_cases hi : i < 257
  · exact h i hi
  · rw [Array.getElem?_eq_none (by omega), Array.getElem?_eq_none (by omega)]
/-- One class is stored. -/
def upd (o : Nat → Int) (i : Nat) (x : Int) : Nat → Int := fun j => if j = i then x else o j
theorem cvA_set (o : Nat → Int) (n : Int) (i : Nat) (x : Int) (h : i < 256) : (cvA o n).setIfInBounds i (.int .u8 x) = cvA (upd o i x) n := by
  refine cvA_ext (by simp [cvA_size]) (cvA_size _ _) fun j hj => ?_
  rw [Array.getElem?_setIfInBounds]
  by_cases hij : i = j
  · subst hij
    rw [if_pos rfl, if_pos (by rw [cvA_size]; omega), cvA_of _ _ _ h]
    simp [upd]
  · rw [if_neg hij]
    have hji : ¬ j = i := fun e => hij e.symm
    rcases Nat.lt_or_ge j 256 with h2 | h2
    · rw [cvA_of _ _ _ h2, cvA_of _ _ _ h2]
      simp [upd, hji]
    · obtain rfl : j = 256 := by omega
      rw [cvA_n, cvA_n]
theorem cvA_setN (o : Nat → Int) (n m : Int) : (cvA o n).setIfInBounds 256 (.int .i64 m) = cvA o m := by
  refine cvA_ext (by simp [cvA_size]) (cvA_size _ _) fun j hj => ?_
  rw [Array.getElem?_setIfInBounds]
  by_cases hij : 256 = j
  · subst hij
    rw [if_pos rfl, if_pos (by rw [cvA_size]; omega), cvA_n]
  · rw [if_neg hij, cvA_of _ _ _ (by omega), cvA_of _ _ _ (by omega)]

/-- Block b holds the classes o, n. -/
def HoldsC (w : World) (b : Nat) (o : Nat → Int) (n : Int) : Prop := w.heap[b]? = some (cob o n)
theorem HoldsC.of {w : World} {b : Nat} {o : Nat → Int} {n : Int} (h : HoldsC w b o n) (i : Nat) (hi : i < 256) : w.cell? ⟨b, i, none⟩ = some (.int .u8 (o i)) := by
  rw [cell_of_row w b _ _ 41 (0, 0) h, cvA_of _ _ _ hi]
theorem HoldsC.n {w : World} {b : Nat} {o : Nat → Int} {n : Int} (h : HoldsC w b o n) : w.cell? ⟨b, 256, none⟩ = some (.int .i64 n) := by
  rw [cell_of_row w b _ _ 41 (0, 0) h, cvA_n]
theorem HoldsC.free {w : World} {b : Nat} {o : Nat → Int} {n : Int} (h : HoldsC w b o n) : ∀ i, w.frozen? ⟨b, i, none⟩ = false := fun i => by
  have : w.heap[b]? = some (cob o n) := h
  simp [World.frozen?, this]
theorem HoldsC.below {w w' : World} {k b : Nat} {o : Nat → Int} {n : Int} (h : HoldsC w b o n) (hb : Below k w w') (hlt : b < k) : HoldsC w' b o n := (hb.block b hlt).trans h
theorem HoldsC.made (w : World) (o : Nat → Int) (n : Int) {b : Nat} (hb : b = w.heap.size) : HoldsC (w.alloc (cob o n)) b o n := by subst hb; exact heap_alloc_new w _
theorem HoldsC.lt {w : World} {b : Nat} {o : Nat → Int} {n : Int} (h : HoldsC w b o n) : b < w.heap.size := (Array.getElem?_eq_some_iff.1 h).1
theorem HoldsC.alloc {w : World} {b : Nat} {o : Nat → Int} {n : Int} (h : HoldsC w b o n) (x : Obj) : HoldsC (w.alloc x) b o n := (Below.heap_alloc w x b h.lt).trans h
theorem HoldsC.drew {w : World} {b : Nat} {o : Nat → Int} {n : Int} (h : HoldsC w b o n) : HoldsC w.drew b o n := h
theorem HoldsC.other {w : World} {b : Nat} {o : Nat → Int} {n : Int} (h : HoldsC w b o n) {a : Addr} (ha : b ≠ a.block) (v : Value) : HoldsC (w.setCell a v) b o n := (Below.heap_setCell w a v b ha).trans h
theorem HoldsC.set {w : World} {b : Nat} {o : Nat → Int} {n : Int} (h : HoldsC w b o n) (i : Nat) (x : Int) (hi : i < 256) : HoldsC (w.setCell ⟨b, i, none⟩ (.int .u8 x)) b (upd o i x) n := by
  unfold HoldsC
  rw [heap_setCell_same w b i _ 41 _ h, cvA_set _ _ _ _ hi]
theorem HoldsC.setN {w : World} {b : Nat} {o : Nat → Int} {n : Int} (h : HoldsC w b o n) (m : Int) : HoldsC (w.setCell ⟨b, 256, none⟩ (.int .i64 m)) b o m := by
  unfold HoldsC
  rw [heap_setCell_same w b 256 _ 41 _ h, cvA_setN]

/-! ### Whole classes out of a block, into a block, as a result -/
theorem Try.size41 : (Try.prog.info? 41).map (·.size) = some 257 := by kernel_rfl
theorem HoldsC.kept {w w' : World} {b : Nat} {row : Option Nat} {o : Nat → Int} {n : Int} (h : HoldsC w b o n) (hg : w.grownBy w' row) (hne : some b ≠ row) : HoldsC w' b o n := (hg.block b h.lt hne).trans h
theorem HoldsS.kept {w w' : World} {b : Nat} {row : Option Nat} {f : Nat → Bool} (h : HoldsS w b f) (hg : w.grownBy w' row) (hne : some b ≠ row) : HoldsS w' b f := (hg.block b h.lt hne).trans h
theorem below_grown {w w' : World} {n k : Nat} (hg : w.grownBy w' (some k)) (hn : n ≤ k) (hs : n ≤ w.heap.size) : Below n w w' :=
  (Below.refl n w).grown hg hs (fun j hj => by cases hj; exact hn)
theorem cvA_one (o : Nat → Int) (n : Int) : (cvA o n).all (·.oneCell') = true := by
  refine Array.all_eq_true_iff_forall_mem.2 fun v hv => ?_
  simp only [cvA, cvL, List.mem_toArray, List.mem_append, List.mem_map, List.mem_singleton] at hv
  rcases hv with ⟨i, _, rfl⟩ | rfl <;> rfl
theorem run_load_cls {w : World} {b : Nat} {o : Nat → Int} {n : Int} (h : HoldsC w b o n) : (loadVar 41 ⟨b, 0, none⟩).run Try.prog w = .ok (cv o n) w :=
  run_loadVar_row w b 41 41 _ (0, 0) _ h Try.underlying41 rfl (by rw [Try.size41, cvA_size])
theorem wpList_load_cls {ops : Array Oper} {rest : List Oper} {op : Oper} {a : Act} {w : World} {Q : Exit → Act → World → Prop} (hgd : op.guard = none) (x : Operand) (ho : op.op = .load 41 x)
    {b : Nat} {o : Nat → Int} {n : Int} (hx : a.eval x = .pointer (some ⟨b, 0, none⟩)) (hB : HoldsC w b o n) (h : wpList Try.prog ops Q rest (a.put op.dst (cv o n)) w) : wpList Try.prog ops Q (op :: rest) a w :=
  wpList_load_row hgd 41 x ho b hx 41 _ (0, 0) _ hB Try.underlying41 rfl (by rw [Try.size41, cvA_size]) h
theorem wpList_store_cls {ops : Array Oper} {rest : List Oper} {op : Oper} {a : Act} {w : World} {Q : Exit → Act → World → Prop} (hgd : op.guard = none) (x y : Operand) (hop : op.op = .store 41 x y)
    {b : Nat} {o0 o : Nat → Int} {n0 n : Int} (hx : a.eval x = .pointer (some ⟨b, 0, none⟩)) (hy : a.eval y = cv o n) (hB : HoldsC w b o0 n0)
    (h : ∀ w', HoldsC w' b o n → w.grownBy w' (some b) → wpList Try.prog ops Q rest (a.put op.dst undef) w') : wpList Try.prog ops Q (op :: rest) a w := by
  refine wpList_plain hgd fun K hK => ?_
  have hrun := run_storeVar_row (P := Try.prog) w b 41 41 (cvA o0 n0) (cvA o n) hB (by rw [Try.size41, cvA_size]) (by rw [cvA_size, cvA_size]) (cvA_one o n)
  unfold Oper.wp execOp
  simp only [hop, hx, hy, Instr.storeAt, Instr.sureAddr, Sem.run_bind, Sem.run_pure, Result.andThen_ok, hrun]
  refine hK _ _ (h _ (setRow_heap w b (cvA o0 n0) _ 41 _ hB) ⟨rfl, rfl, rfl, by simp, fun k _ hk => setRow_other w b k _ (fun e => hk (by rw [e]))⟩)
theorem ret_cls {fn : Func} {p : Tmp} (hf : fn.results = #[.cell p 41]) {R : Ending → World → Prop} {a : Act} {w : World} {b : Nat} {o : Nat → Int} {n : Int} (hp : a.tmps.getD p undef = .pointer (some ⟨b, 0, none⟩)) (hB : HoldsC w b o n) (hd : a.defers = [])
    (hR : R (.returned (cv o n)) w) : bodyPost Try.prog fn R .ret a w :=
  bodyPost_ret_by (results_cell_row hf a.tmps w b 41 _ (0, 0) _ hp hB Try.underlying41 rfl (by rw [Try.size41, cvA_size])) hd hR

/-- How many classes the first k bytes show, if they are right so far. -/
def rt (o : Nat → Int) : Nat → Option Int
  | 0 => some 0
  | k + 1 => match rt o k with
    | none => none
    | some m => if m < o k then none else if o k = m then some (m + 1) else some m
def rightB (o : Nat → Int) (n : Int) : Bool := rt o 256 == some n

theorem rt_none (o : Nat → Int) (k : Nat) (h : rt o k = none) : ∀ d, rt o (k + d) = none
  | 0 => h
  | d + 1 => by rw [← Nat.add_assoc]; simp [rt, rt_none o k h d]
theorem rt_over (o : Nat → Int) (k : Nat) (m n : Int) (hk : k < 256) (h : rt o k = some m) (hlt : m < o k) : rightB o n = false := by
  have h1 : rt o (k + 1) = none := by simp [rt, h, hlt]
  have h2 := rt_none o (k + 1) h1 (255 - k)
  rw [show k + 1 + (255 - k) = 256 from by omega] at h2
  simp [rightB, h2]
theorem rt_new (o : Nat → Int) (k : Nat) (m : Int) (h : rt o k = some m) (he : o k = m) : rt o (k + 1) = some (m + 1) := by
  simp [rt, h, he]
theorem rt_old (o : Nat → Int) (k : Nat) (m : Int) (h : rt o k = some m) (hlt : o k < m) : rt o (k + 1) = some m := by
  have h1 : ¬ m < o k := by omega
  have h2 : ¬ o k = m := by omega
  simp [rt, h, h1, h2]
theorem rt_end (o : Nat → Int) (m n : Int) (h : rt o 256 = some m) : (n == m) = rightB o n := by
  unfold rightB
  rw [h, Bool.eq_iff_iff]
  simp
  exact eq_comm
theorem rt_end' (o : Nat → Int) (m n : Int) (h : rt o 256 = some m) : (m == n) = rightB o n := by
  unfold rightB
  rw [h, Bool.eq_iff_iff]
  simp

set_option maxRecDepth 100000 in
set_option maxHeartbeats 1000000 in
theorem lawRight_any (o : Nat → Int) (n : Int) (w : World) (ho : ∀ i, i < 256 → 0 ≤ o i ∧ o i < 256) :
    Calls Try.prog 27 #[cv o n] w fun e w' => e = .returned (.bool (rightB o n)) ∧ Below w.heap.size w w' := by
  have hA := HoldsC.made w o n rfl
  have hn := hA.n
  have HO := Lib.hid ho
  clear ho
  go_enter Try.func27, Try.ntmps27
  go_wp2_with fail
  go_loop [3, 4, 5, 6] (fun nx _ _ i => ∃ (k : Nat) (m : Int), k ≤ 256 ∧ i = .int .i64 k ∧ nx = .int .i64 m ∧ Hid (rt o k = some m) ∧ 0 ≤ m ∧ m ≤ k) (fun _ _ _ i => (256 - intOf i).toNat)
  case atStart => exact ⟨0, 0, by omega, rfl, rfl, rfl, by omega, by omega⟩
  case round =>
    obtain ⟨k, m, hk, rfl, rfl, hm, hm0, hm1⟩ := hrel
    by_cases hlt : k < 256
    · have hc := hA.of k hlt
      obtain ⟨hx0, hx1⟩ := HO.out k hlt
      have HV := Lib.hid (fun h => rt_over o k m n hlt hm.out h)
      have HW := Lib.hid (rt_new o k m hm.out)
      have HX := Lib.hid (rt_old o k m hm.out)
      clear hm
      generalize o k = x at *
      by_cases h1 : m < x
      · go_wp2_with fail
        go_ret
        exact ⟨ret_bool (HV.out h1).symm, (by repeat (first | exact Below.refl _ _ | assumption | refine Below.drew ?_ | refine below_drewN' ?_ _ | refine Below.setCell ?_ (by first | omega | (simp; done) | (simp; omega)) _ | refine Below.alloc ?_ (by first | omega | (simp; done) | (simp; omega)) _ | refine Below.trans ?_ (Below.mono (by assumption) (by first | omega | (simp; done) | (simp; omega)))))⟩
      · by_cases h2 : x = m
        · have HY := Lib.hid (HW.out h2)
          have h3 : (x == m) = true := by simp [h2]
          have h4 : decide (m < x) = false := by simp; omega
          clear h2 h1
          go_wp2_with fail
          go_round
          case rel => exact ⟨k + 1, m + 1, by omega, by go_num, rfl, HY, by omega, by omega⟩
          case measure => simp [intOf]; omega
        · have HY := Lib.hid (HX.out (by omega))
          have h3 : (x == m) = false := by simp [h2]
          have h4 : decide (m < x) = false := by simp; omega
          clear h2
          go_wp2_with fail
          go_round
          case rel => exact ⟨k + 1, m, by omega, by go_num, rfl, HY, by omega, by omega⟩
          case measure => simp [intOf]; omega
    · obtain rfl : k = 256 := by omega
      have HE := Lib.hid (rt_end o m n hm.out)
      clear hm
      go_wp2_with fail
      go_ret
      exact ⟨ret_bool HE.out, (by repeat (first | exact Below.refl _ _ | assumption | refine Below.drew ?_ | refine below_drewN' ?_ _ | refine Below.setCell ?_ (by first | omega | (simp; done) | (simp; omega)) _ | refine Below.alloc ?_ (by first | omega | (simp; done) | (simp; omega)) _ | refine Below.trans ?_ (Below.mono (by assumption) (by first | omega | (simp; done) | (simp; omega)))))⟩

set_option maxRecDepth 100000 in
set_option maxHeartbeats 1000000 in
theorem clsRight_any (o : Nat → Int) (n : Int) (w : World) (ho : ∀ i, i < 256 → 0 ≤ o i ∧ o i < 256) :
    Calls Try.prog 28 #[cv o n] w fun e w' => e = .returned (.bool (rightB o n)) ∧ Below w.heap.size w w' := by
  have hA := HoldsC.made w o n rfl
  have hn := hA.n
  have HO := Lib.hid ho
  clear ho
  go_enter Try.func28, Try.ntmps28
  go_wp2_with fail
  go_loop [3, 4, 5, 6] (fun nx _ _ i => ∃ (k : Nat) (m : Int), k ≤ 256 ∧ i = .int .i64 k ∧ nx = .int .i64 m ∧ Hid (rt o k = some m) ∧ 0 ≤ m ∧ m ≤ k) (fun _ _ _ i => (256 - intOf i).toNat)
  case atStart => exact ⟨0, 0, by omega, rfl, rfl, rfl, by omega, by omega⟩
  case round =>
    obtain ⟨k, m, hk, rfl, rfl, hm, hm0, hm1⟩ := hrel
    by_cases hlt : k < 256
    · have hc := hA.of k hlt
      obtain ⟨hx0, hx1⟩ := HO.out k hlt
      have HV := Lib.hid (fun h => rt_over o k m n hlt hm.out h)
      have HW := Lib.hid (rt_new o k m hm.out)
      have HX := Lib.hid (rt_old o k m hm.out)
      clear hm
      generalize o k = x at *
      by_cases h1 : m < x
      · go_wp2_with fail
        go_ret
        exact ⟨ret_bool (HV.out h1).symm, (by repeat (first | exact Below.refl _ _ | assumption | refine Below.drew ?_ | refine below_drewN' ?_ _ | refine Below.setCell ?_ (by first | omega | (simp; done) | (simp; omega)) _ | refine Below.alloc ?_ (by first | omega | (simp; done) | (simp; omega)) _ | refine Below.trans ?_ (Below.mono (by assumption) (by first | omega | (simp; done) | (simp; omega)))))⟩
      · by_cases h2 : x = m
        · have HY := Lib.hid (HW.out h2)
          have h3 : (x == m) = true := by simp [h2]
          have h4 : decide (m < x) = false := by simp; omega
          clear h2 h1
          go_wp2_with fail
          go_round
          case rel => exact ⟨k + 1, m + 1, by omega, by go_num, rfl, HY, by omega, by omega⟩
          case measure => simp [intOf]; omega
        · have HY := Lib.hid (HX.out (by omega))
          have h3 : (x == m) = false := by simp [h2]
          have h4 : decide (m < x) = false := by simp; omega
          clear h2
          go_wp2_with fail
          go_round
          case rel => exact ⟨k + 1, m, by omega, by go_num, rfl, HY, by omega, by omega⟩
          case measure => simp [intOf]; omega
    · obtain rfl : k = 256 := by omega
      have HE := Lib.hid (rt_end' o m n hm.out)
      clear hm
      go_wp2_with fail
      go_ret
      exact ⟨ret_bool HE.out, (by repeat (first | exact Below.refl _ _ | assumption | refine Below.drew ?_ | refine below_drewN' ?_ _ | refine Below.setCell ?_ (by first | omega | (simp; done) | (simp; omega)) _ | refine Below.alloc ?_ (by first | omega | (simp; done) | (simp; omega)) _ | refine Below.trans ?_ (Below.mono (by assumption) (by first | omega | (simp; done) | (simp; omega)))))⟩

end Go.Proofs.Ytbmejpghoafapaa
