/-
  Single operations against a frame that is a variable: loads and stores of sets, allocations, calls.
-/
import Derived.Test.YtbmejpghoafapaaInv
import Derived.Test.YtbmejpghoafapaaCls
import Derived.Test.YtbmejpghoafapaaSets4
namespace Go.Proofs.Ytbmejpghoafapaa
open Go.RowKit

section
variable {o : Oper} {a : Act} {w : World} {K : Act → World → Prop} {Q : Exit → Act → World → Prop}
theorem enter19 (args : Array Value) (w : World) : (callFunc 19 args).run Try.prog w = .ok (.enter 19 args) w := by simp [go_sem]
theorem enter20 (args : Array Value) (w : World) : (callFunc 20 args).run Try.prog w = .ok (.enter 20 args) w := by simp [go_sem]
theorem enter21 (args : Array Value) (w : World) : (callFunc 21 args).run Try.prog w = .ok (.enter 21 args) w := by simp [go_sem]
theorem enter22 (args : Array Value) (w : World) : (callFunc 22 args).run Try.prog w = .ok (.enter 22 args) w := by simp [go_sem]
theorem enter25 (args : Array Value) (w : World) : (callFunc 25 args).run Try.prog w = .ok (.enter 25 args) w := by simp [go_sem]
theorem enter29 (args : Array Value) (w : World) : (callFunc 29 args).run Try.prog w = .ok (.enter 29 args) w := by simp [go_sem]
theorem enter33 (args : Array Value) (w : World) : (callFunc 33 args).run Try.prog w = .ok (.enter 33 args) w := by simp [go_sem]
theorem enter47 (args : Array Value) (w : World) : (callFunc 47 args).run Try.prog w = .ok (.enter 47 args) w := by simp [go_sem]
theorem wp_call (f : FuncId) (hf : ∀ (args : Array Value) (w : World), (callFunc f args).run Try.prog w = .ok (.enter f args) w) (xs : Array Operand) (ts : Array TypeId) (ho : o.op = .call { callee := .value (.func f), args := xs, argTypes := ts })
    (h : Calls Try.prog f (xs.map a.eval) w fun e w' => ∃ v, e = .returned v ∧ K (a.put o.dst v) w') : o.wp Try.prog a w K Q := by
  unfold Oper.wp execOp
  simp only [ho, resolve, Act.eval, Sem.run_bind, Sem.run_pure, Result.andThen_ok, invoke, Deferred.ofValue, Array.empty_append, hf]
  rw [Oper.upon_enter]
  refine h.mono fun e w' ⟨v, he, hk⟩ => ?_
  subst he
  exact hk
theorem Try.size26 : (Try.prog.info? 26).map (·.size) = some 4 := by kernel_rfl
theorem wp_load_set (x : Operand) (ho : o.op = .load 26 x) {b : Nat} {f : Nat → Bool} (hx : a.eval x = .pointer (some ⟨b, 0, none⟩)) (hB : HoldsS w b f) (h : K (a.put o.dst (sv f)) w) : o.wp Try.prog a w K Q :=
  wp_load_row 26 x ho b hx 26 _ (0, 0) _ hB Try.underlying26 rfl (by rw [Try.size26]; rfl) h
theorem wp_store_set (x y : Operand) (ho : o.op = .store 26 x y) {b : Nat} {f g : Nat → Bool} (hx : a.eval x = .pointer (some ⟨b, 0, none⟩)) (hy : a.eval y = sv g) (hB : HoldsS w b f)
    (h : ∀ w', HoldsS w' b g → w.grownBy w' (some b) → K (a.put o.dst undef) w') : o.wp Try.prog a w K Q := by
  have hrun := run_storeVar_row (P := Try.prog) w b 26 26 _ #[.int .u64 (wd g 0), .int .u64 (wd g 1), .int .u64 (wd g 2), .int .u64 (wd g 3)] hB (by rw [Try.size26]; rfl) rfl (by simp [Value.oneCell'])
  unfold Oper.wp execOp
  simp only [ho, hx, hy, Instr.storeAt, Instr.sureAddr, Sem.run_bind, Sem.run_pure, Result.andThen_ok, hrun]
  exact h _ (setRow_heap w b _ _ 26 _ hB) ⟨rfl, rfl, rfl, by simp, fun k _ hk => setRow_other w b k _ (fun e => hk (by rw [e]))⟩
theorem Try.zero26 (w : World) : (zeroValue 26).run Try.prog w = .ok (sv fun _ => false) w := by kernel_rfl
theorem wp_alloc_set (ho : o.op = .alloc 26) (h : K (a.put o.dst (.pointer (some ⟨w.heap.size, 0, none⟩))) (w.alloc (sob fun _ => false))) : o.wp Try.prog a w K Q := by
  unfold Oper.wp execOp
  simp only [ho]
  simp [go_sem]
  exact h
end
end Go.Proofs.Ytbmejpghoafapaa
