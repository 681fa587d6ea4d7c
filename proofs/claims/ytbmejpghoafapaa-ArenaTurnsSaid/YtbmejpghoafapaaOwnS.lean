/-
  Own slices of sets; '==' on classes; more single operations.
-/
import Derived.Test.YtbmejpghoafapaaInvOps
import Derived.Test.YtbmejpghoafapaaLaw6
import Derived.Test.YtbmejpghoafapaaArena
import Derived.Deep.AppendSrc
import Derived.Deep.Upon
import Derived.Maps.AppendAt
namespace Go.Proofs.Ytbmejpghoafapaa
open Go.RowKit Go.Maps

theorem run_eq_cls (d : Nat) (o : Nat → Int) (n : Int) (w : World) : (Op.equalIn (d + 3) 41 (cv o n) (cv o n)).run Try.prog w = .ok true w := by
  have hs : Try.prog.stoodInHeld 41 = false := by kernel_rfl
  obtain ⟨i5, hi5⟩ := info_of Try.underlying5
  obtain ⟨i39, hi39⟩ := info_of Try.underlying39
  have hi : ∀ (m n : Int) w, (Op.equalIn (d + 2) 3 (.int .i64 m) (.int .i64 n)).run Try.prog w = .ok (m == n) w := fun m n w => run_equalIn_int w (d + 1) 3 .i64 .i64 m n Try.underlying3
  have h39 : (Try.prog.info? 39).map (·.size) = some 256 := by kernel_rfl
  have hsz : i39.size = 256 := by rw [hi39] at h39; simpa using h39
  have hw : ∀ w, (Op.equalIn (d + 2) 39 (.agg ((cvA o n).extract 0 256)) (.agg ((cvA o n).extract 0 256))).run Try.prog w = .ok true w := fun w => by
    rw [run_equalIn_array w (d + 1) _ _ Try.underlying39 hi5, Try.cells5]
    rw [run_eqItems_ints Try.underlying5 _ _ o o w (List.range 256) (fun i hi => by
      have : i < 256 := by simpa using hi
      have h1 : ((cvA o n).extract 0 256)[i]? = some (.int .u8 (o i)) := by
        rw [Array.getElem?_extract, if_pos (by simp [cvA_size]; omega), Nat.zero_add, cvA_of o n i this]
      exact ⟨h1, h1⟩)]
    simp
  rw [run_equalIn_agg w (d + 2) 41 _ _ (by simp [Program.fieldsOf, Try.underlying41]) hs]
  simp [Program.fieldsOf, Try.underlying41, Op.eqFields, part, isAgg, run_underlying Try.underlying3, run_underlying Try.underlying39, hi, hw, sizeOf, typeInfo, hi39, hsz, cvA_n]
@[go_sem ↓] theorem run_eql_cls (o : Nat → Int) (n : Int) (w : World) : (binOp .eql 41 (cv o n) (cv o n)).run Try.prog w = .ok (.bool true) w := by
  rw [run_eql_struct, run_eq_cls 9997]
  rfl
@[go_sem ↓] theorem run_neq_cls (o : Nat → Int) (n : Int) (w : World) : (binOp .neq 41 (cv o n) (cv o n)).run Try.prog w = .ok (.bool false) w := by
  rw [run_neq_struct, run_eq_cls 9997]
  rfl

/-- The four cells of a set. -/
abbrev scl (f : Nat → Bool) : List Value := [.int .u64 (wd f 0), .int .u64 (wd f 1), .int .u64 (wd f 2), .int .u64 (wd f 3)]
theorem flat4_get : ∀ (L : List (Nat → Bool)) (i j : Nat) (f : Nat → Bool), L[i]? = some f → j < 4 → (L.flatMap scl)[i * 4 + j]? = (scl f)[j]?
  | [], i, j, n, h, _ => by simp at h
  | x :: L, 0, j, n, h, hj => by
    obtain rfl : x = n := by simpa using h
    rw [List.flatMap_cons, List.getElem?_append_left (by simp; omega)]
    simp
  | x :: L, i + 1, j, n, h, hj => by
    have ih := flat4_get L i j n (by simpa using h) hj
    rw [List.flatMap_cons, List.getElem?_append_right (by simp; omega)]
    rw [← ih]
    congr 1
    simp
    omega
theorem flat4_len (L : List (Nat → Bool)) : (L.flatMap scl).length = L.length * 4 := by
  induction L with
  | nil => rfl
  | cons x L ih => simp [List.flatMap_cons, ih]; omega
abbrev OwnS (n0 : Nat) (w : World) (v : Value) (L : List (Nat → Bool)) : Prop := w.ownsRow n0 26 4 v L.length (L.flatMap scl)
variable {n0 : Nat} {w w' : World} {v x : Value} {L M : List (Nat → Bool)}
theorem OwnS.below (h : OwnS n0 w v L) {k : Nat} (hb : Below k w w') (hk : w.heap.size ≤ k) : OwnS n0 w' v L :=
  ownsRow_keep h fun g hg => hb.block g (by have := (own_blk h hg).2.1; omega)
theorem OwnS.row (h : OwnS n0 w v L) {i : Nat} {f : Nat → Bool} (hi : L[i]? = some f) : ∃ g cap, v = .slice (some ⟨g, 0, none⟩) L.length cap ∧ n0 ≤ g ∧ g < w.heap.size ∧ ∀ j, j < 4 → w.cell? ⟨g, i * 4 + j, none⟩ = (scl f)[j]? := by
  rcases h.2 with ⟨_, h0⟩ | ⟨g, cap, cur, rfl, hg, hb, hc, _, hs, ht⟩
  · rw [List.eq_nil_of_length_eq_zero h0] at hi; simp at hi
  · refine ⟨g, cap, rfl, hg, lt_of_heap hb, fun j hj => ?_⟩
    rw [cell_of_row w g _ _ _ _ hb, ← flat4_get L i j f hi hj, ← ht]
    have hil := (List.getElem?_eq_some_iff.1 hi).1
    rw [List.getElem?_take, if_pos (by omega)]
    simp
theorem OwnS.shape (h : OwnS n0 w v L) : ∃ sv cap, v = .slice sv L.length cap ∧ L.length ≤ cap := by
  rcases h.2 with ⟨rfl, h0⟩ | ⟨g, cap, cur, rfl, _, _, hc, _⟩
  · exact ⟨none, 0, by rw [h0], by omega⟩
  · exact ⟨_, _, rfl, hc⟩
theorem OwnS.sets (h : OwnS n0 w v L) : SetsAt w v L := by
  obtain ⟨sv, cap, rfl, _⟩ := h.shape
  refine ⟨sv, cap, rfl, fun hne => ?_⟩
  obtain ⟨f, hf⟩ : ∃ f, L[0]? = some f := by
    cases L with
    | nil => exact absurd rfl hne
    | cons f L => exact ⟨f, rfl⟩
  obtain ⟨g, cap', hv, _⟩ := h.row hf
  cases hv
  refine ⟨g, 0, rfl, fun i f hi => ?_⟩
  obtain ⟨g', cap', hv, _, _, hc⟩ := h.row hi
  cases hv
  rw [Nat.zero_add]
  exact ⟨hc 0 (by omega), hc 1 (by omega), hc 2 (by omega), hc 3 (by omega)⟩
theorem Try.info26 : (Try.prog.info? 26).map (fun i => (i.zero, i.size, i.bytes)) = some (some (sv fun _ => false), 4, 32) := by kernel_rfl
/-- append of sets to an own slice of sets. -/
theorem app_sets (h : OwnS n0 w v L) (hs : SetsAt w x M) (hb : n0 ≤ w.heap.size) (hlen : L.length + M.length ≤ 1000000) (ty : TypeId) :
    ∃ v' w', (Builtin.append_ #[38, 38] ty #[v, x]).run Try.prog w = .ok v' w' ∧ OwnS n0 w' v' (L ++ M) ∧ w.grownBy w' v.ownBlock ∧ (v'.ownBlock = v.ownBlock ∨ v'.ownBlock = some w.heap.size) := by
  obtain ⟨i0, hi, hz0, hz1, hz2⟩ := info_parts Try.info26
  obtain ⟨a, cap, rfl, hc⟩ := hs
  by_cases hM : M = []
  · subst hM
    obtain ⟨sv, scap, rfl, hle⟩ := h.shape
    refine ⟨_, w, ?_, by simpa using h, ⟨rfl, rfl, rfl, Nat.le_refl _, fun _ _ _ => rfl⟩, .inl rfl⟩
    cases a with
    | none => exact run_append_nothing w 38 38 ty 26 i0 Try.underlying38 hi sv _ _ hle _ (Src.ofNil w Try.underlying38 cap)
    | some ad => exact run_append_nothing w 38 38 ty 26 i0 Try.underlying38 hi sv _ _ hle _ (Src.ofSlice w Try.underlying38 ad 0 cap [] (by simp) (by simp) (by simp))
  · obtain ⟨b, off, rfl, hcell⟩ := hc hM
    obtain ⟨v', w', hr, h2, h3, _, h5⟩ := run_append_own_at (P := Try.prog) w n0 38 ty 26 i0 (sv fun _ => false) 4 32 Try.underlying38 hi hz0 hz1 hz2 rfl (by omega) v L.length (L.flatMap scl) h ⟨b, off, none⟩ M.length cap (M.flatMap scl) (by rw [flat4_len]) (fun j u hu => by
      have hj : j < M.length * 4 := by
        rw [← flat4_len]
        exact (List.getElem?_eq_some_iff.1 hu).1
      have h1 : j / 4 < M.length := by omega
      have h2 := List.getElem?_eq_getElem h1
      have h3 := flat4_get M (j / 4) (j % 4) _ h2 (by omega)
      rw [show j / 4 * 4 + j % 4 = j from by omega, hu] at h3
      obtain ⟨c0, c1, c2, c3⟩ := hcell (j / 4) _ h2
      have h4 : j % 4 = 0 ∨ j % 4 = 1 ∨ j % 4 = 2 ∨ j % 4 = 3 := by omega
      have hadd : (⟨b, off, none⟩ : Addr).add j = ⟨b, off + j, none⟩ := by unfold Addr.add; split <;> simp_all
      rw [hadd, h3]
      rcases h4 with h4 | h4 | h4 | h4
      · rw [h4, show off + j = off + j / 4 * 4 from by omega]; exact c0
      · rw [h4, show off + j = off + j / 4 * 4 + 1 from by omega]; exact c1
      · rw [h4, show off + j = off + j / 4 * 4 + 2 from by omega]; exact c2
      · rw [h4, show off + j = off + j / 4 * 4 + 3 from by omega]; exact c3) (fun u hu => by
      obtain ⟨f, _, hf⟩ := List.mem_flatMap.1 hu
      simp [scl] at hf
      rcases hf with rfl | rfl | rfl | rfl <;> rfl) (by unfold maxLen; omega) (by omega) hb
    refine ⟨v', w', hr, ?_, h3, h5⟩
    have : OwnS n0 w' v' (L ++ M) = w'.ownsRow n0 26 4 v' (L.length + M.length) (L.flatMap scl ++ M.flatMap scl) := by
      unfold OwnS
      rw [List.length_append, List.flatMap_append]
    rw [this]
    exact h2
theorem OwnS.grown_below (h : OwnS n0 w v L) (hn0 : n0 ≤ w.heap.size) (hg : w.grownBy w' v.ownBlock) : Below n0 w w' :=
  (Below.refl n0 w).grown hg hn0 (fun _ hj => (own_blk h hj).1)

section
variable {o : Oper} {a : Act} {w : World} {K : Act → World → Prop} {Q : Exit → Act → World → Prop}
theorem wp_move (x : Operand) (ho : o.op = .move x) {v : Value} (hx : a.eval x = v) (h : K (a.put o.dst v) w) : o.wp Try.prog a w K Q := by
  unfold Oper.wp execOp
  simp only [ho, hx]
  exact h
theorem wp_assign (x : Operand) (ho : o.op = .assign x) {v : Value} (hx : a.eval x = v) (h : K (a.put o.dst v) w) : o.wp Try.prog a w K Q := by
  unfold Oper.wp execOp
  simp only [ho, hx]
  exact h
theorem wp_bs0 (ho : o.op = .buildSlice 38 0 #[]) (h : K (a.put o.dst (.slice (some ⟨w.heap.size, 0, none⟩) 0 0)) (w.alloc (.cells #[] 26))) : o.wp Try.prog a w K Q := by
  have hr : (Instr.buildSlice 38 0 #[]).run Try.prog w = .ok (.slice (some ⟨w.heap.size, 0, none⟩) 0 0) (w.alloc (.cells #[] 26)) := by simp [go_sem]
  unfold Oper.wp execOp
  simp only [ho, List.map_toArray, List.map_nil, Sem.run_bind, hr, Result.andThen_ok]
  exact h
theorem wp_bs1 (x : Operand) (ho : o.op = .buildSlice 38 1 #[(0, x)]) {f : Nat → Bool} (hx : a.eval x = sv f) (h : K (a.put o.dst (.slice (some ⟨w.heap.size, 0, none⟩) 1 1)) (w.alloc (sob f))) : o.wp Try.prog a w K Q := by
  have hr : (Instr.buildSlice 38 1 #[(0, sv f)]).run Try.prog w = .ok (.slice (some ⟨w.heap.size, 0, none⟩) 1 1) (w.alloc (sob f)) := by simp [go_sem]
  unfold Oper.wp execOp
  simp only [ho, List.map_toArray, List.map_cons, List.map_nil, hx, Sem.run_bind, hr, Result.andThen_ok]
  exact h
theorem wp_append (s x : Operand) (t : TypeId) (ho : o.op = .call { callee := .builtin .append, args := #[s, x], argTypes := #[t, t] }) {v y v' : Value} {w' : World} (hs : a.eval s = v) (hx : a.eval x = y)
    (hr : (Builtin.append_ #[t, t] o.type #[v, y]).run Try.prog w = .ok v' w') (h : K (a.put o.dst v') w') : o.wp Try.prog a w K Q := by
  unfold Oper.wp execOp
  simp only [ho, resolve, invoke, builtin, Sem.run_bind, Sem.run_pure, Result.andThen_ok, List.map_toArray, List.map_cons, List.map_nil, hs, hx, hr]
  exact h
theorem wp_eql_cls (x y : Operand) (ho : o.op = .binOp .eql 41 x y 41) {c : Nat → Int} {n : Int} (hx : a.eval x = cv c n) (hy : a.eval y = cv c n) (h : K (a.put o.dst (.bool true)) w) : o.wp Try.prog a w K Q := by
  have hm : Try.prog.eqGuardType Try.prog.depth 41 = false := by kernel_rfl
  unfold Oper.wp execOp
  simp only [ho, hx, hy, Sem.run_bind, run_eqGuard_agg w .eql 41 x y _ _ hm, Result.andThen_ok, run_eql_cls]
  exact h
/-- Classes are loaded, in a quiet walk. -/
theorem quiet_load_cls {C : World → Prop} {K : Act → Prop} (x : Operand) (ho : o.op = .load 41 x) {b : Nat} {c : Nat → Int} {n : Int} (hx : a.eval x = .pointer (some ⟨b, 0, none⟩)) (hB : ∀ w, C w → HoldsC w b c n) (hk : K (a.put o.dst (cv c n))) : o.quiet Try.prog a C K := by
  refine ⟨_, fun w hw => ?_, hk⟩
  unfold Oper.quietAt execOp
  simp only [ho, hx, Instr.loadAt, Instr.sureAddr, Sem.run_bind, Sem.run_pure, Result.andThen_ok, run_load_cls (hB w hw)]
  exact ⟨rfl, rfl⟩
end

end Go.Proofs.Ytbmejpghoafapaa
