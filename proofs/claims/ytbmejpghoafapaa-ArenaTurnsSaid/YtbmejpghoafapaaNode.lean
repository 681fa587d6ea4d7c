/-
  Nodes as values; '==' on nodes; the walk of (*Arena).right.
-/
import Derived.Test.YtbmejpghoafapaaEq
import Derived.Test.YtbmejpghoafapaaSets2
namespace Go.Proofs.Ytbmejpghoafapaa
open Go.RowKit

/-- A node. -/
structure Nd where
  kind : Int
  f : Nat → Bool
  a : Int
  b : Int
  neg : Bool

/-- The eight cells of a node. -/
abbrev nl (k : Int) (f : Nat → Bool) (a b : Int) (g : Bool) : List Value :=
  [.int .i64 k, .int .u64 (wd f 0), .int .u64 (wd f 1), .int .u64 (wd f 2), .int .u64 (wd f 3), .int .i64 a, .int .i64 b, .bool g]
abbrev nv (k : Int) (f : Nat → Bool) (a b : Int) (g : Bool) : Value :=
  .agg #[.int .i64 k, .int .u64 (wd f 0), .int .u64 (wd f 1), .int .u64 (wd f 2), .int .u64 (wd f 3), .int .i64 a, .int .i64 b, .bool g]

/-- Two nodes' cells are alike. -/
def nq (k x0 x1 x2 x3 a b : Int) (g : Bool) (k' y0 y1 y2 y3 a' b' : Int) (g' : Bool) : Bool :=
  decide (k = k' ∧ x0 = y0 ∧ x1 = y1 ∧ x2 = y2 ∧ x3 = y3 ∧ a = a' ∧ b = b' ∧ g = g')

theorem info_of {P : Program} {t : TypeId} {d : TypeDesc} (h : P.underlying t = some d) : ∃ i, P.info? t = some i := info_of_underlying h

/-- '==' of two rows of integers, item by item. -/
theorem run_eqItems_ints {P : Program} {d : Nat} {e : TypeId} {k : IntKind} (he : P.underlying e = some (.int k)) (xs ys : Array Value) (f g : Nat → Int) (w : World) :
    ∀ is : List Nat, (∀ i, i ∈ is → xs[i]? = some (.int k (f i)) ∧ ys[i]? = some (.int k (g i))) → (Op.eqItems (d + 1) e 1 xs ys is).run P w = .ok (is.all fun i => f i == g i) w
  | [], _ => by simp [Op.eqItems]
  | i :: is, h => by
    have hp : ∀ (zs : Array Value) (v : Value) (w : World), zs[i]? = some v → (part e zs i).run P w = .ok v w := fun zs v w hv => by
      simp [part, isAgg, run_underlying he, hv]
    obtain ⟨h1, h2⟩ := h i (by simp)
    have ih := run_eqItems_ints (d := d) he xs ys f g w is (fun j hj => h j (by simp [hj]))
    simp only [Op.eqItems, Nat.mul_one, Sem.run_bind, hp xs _ w h1, hp ys _ w h2, Result.andThen_ok, run_equalIn_int w d e k k (f i) (g i) he, List.all_cons]
    cases hfg : f i == g i
    · simp
    · simpa using ih

theorem run_eq_words (d : Nat) (x0 x1 x2 x3 y0 y1 y2 y3 : Int) (w : World) :
    (Op.equalIn (d + 2) 26 (.agg #[.int .u64 x0, .int .u64 x1, .int .u64 x2, .int .u64 x3]) (.agg #[.int .u64 y0, .int .u64 y1, .int .u64 y2, .int .u64 y3])).run Try.prog w = .ok (decide (x0 = y0 ∧ x1 = y1 ∧ x2 = y2 ∧ x3 = y3)) w := by
  obtain ⟨i24, hi⟩ := info_of Try.underlying24
  rw [run_equalIn_array w (d + 1) _ _ Try.underlying26 hi, Try.cells24]
  rw [run_eqItems_ints Try.underlying24 _ _ (fun i => [x0, x1, x2, x3].getD i 0) (fun i => [y0, y1, y2, y3].getD i 0) w (List.range 4) (fun i hi => by
    have : i < 4 := by simpa using hi
    match i, this with
    | 0, _ => exact ⟨rfl, rfl⟩
    | 1, _ => exact ⟨rfl, rfl⟩
    | 2, _ => exact ⟨rfl, rfl⟩
    | 3, _ => exact ⟨rfl, rfl⟩)]
  congr 1
  rw [Bool.eq_iff_iff]
  simp [List.range_succ]

/-- '==' of two nodes. -/
theorem run_eq_node (d : Nat) (k x0 x1 x2 x3 a b : Int) (g : Bool) (k' y0 y1 y2 y3 a' b' : Int) (g' : Bool) (w : World) :
    (Op.equalIn (d + 3) 56 (.agg #[.int .i64 k, .int .u64 x0, .int .u64 x1, .int .u64 x2, .int .u64 x3, .int .i64 a, .int .i64 b, .bool g]) (.agg #[.int .i64 k', .int .u64 y0, .int .u64 y1, .int .u64 y2, .int .u64 y3, .int .i64 a', .int .i64 b', .bool g'])).run Try.prog w =
      .ok (nq k x0 x1 x2 x3 a b g k' y0 y1 y2 y3 a' b' g') w := by
  have hw := run_eq_words d x0 x1 x2 x3 y0 y1 y2 y3
  have hb : ∀ w, (Op.equalIn (d + 2) 4 (.bool g) (.bool g')).run Try.prog w = .ok (g == g') w := fun w => run_equalIn_bool' w (d + 1) 4 g g' Try.underlying4
  have hi : ∀ (m n : Int) w, (Op.equalIn (d + 2) 3 (.int .i64 m) (.int .i64 n)).run Try.prog w = .ok (m == n) w := fun m n w => run_equalIn_int w (d + 1) 3 .i64 .i64 m n Try.underlying3
  have hs : Try.prog.stoodInHeld 56 = false := by kernel_rfl
  rw [run_equalIn_agg w (d + 2) 56 _ _ (by simp [Program.fieldsOf, Try.underlying56]) hs]
  simp [Program.fieldsOf, Try.underlying56, Op.eqFields, part, isAgg, run_underlying Try.underlying3, run_underlying Try.underlying26, run_underlying Try.underlying4, hi, hb, hw]
  unfold nq
  by_cases h1 : k = k' <;> by_cases h2 : x0 = y0 → x1 = y1 → x2 = y2 → ¬x3 = y3 <;> by_cases h3 : a = a' <;> by_cases h4 : b = b' <;> by_cases h5 : g = g' <;> simp [h1, h3, h4, h5] <;> simp_all
@[go_sem ↓] theorem run_eql_node (k x0 x1 x2 x3 a b : Int) (g : Bool) (k' y0 y1 y2 y3 a' b' : Int) (g' : Bool) (w : World) :
    (binOp .eql 56 (.agg #[.int .i64 k, .int .u64 x0, .int .u64 x1, .int .u64 x2, .int .u64 x3, .int .i64 a, .int .i64 b, .bool g]) (.agg #[.int .i64 k', .int .u64 y0, .int .u64 y1, .int .u64 y2, .int .u64 y3, .int .i64 a', .int .i64 b', .bool g'])).run Try.prog w =
      .ok (.bool (nq k x0 x1 x2 x3 a b g k' y0 y1 y2 y3 a' b' g')) w := by
  rw [run_eql_struct, run_eq_node 9997]
  rfl
@[go_sem ↓] theorem run_neq_node (k x0 x1 x2 x3 a b : Int) (g : Bool) (k' y0 y1 y2 y3 a' b' : Int) (g' : Bool) (w : World) :
    (binOp .neq 56 (.agg #[.int .i64 k, .int .u64 x0, .int .u64 x1, .int .u64 x2, .int .u64 x3, .int .i64 a, .int .i64 b, .bool g]) (.agg #[.int .i64 k', .int .u64 y0, .int .u64 y1, .int .u64 y2, .int .u64 y3, .int .i64 a', .int .i64 b', .bool g'])).run Try.prog w =
      .ok (.bool (!nq k x0 x1 x2 x3 a b g k' y0 y1 y2 y3 a' b' g')) w := by
  rw [run_neq_struct, run_eq_node 9997]
  rfl

set_option maxRecDepth 100000 in
set_option maxHeartbeats 1000000 in
theorem there_any (id : Int) (p q : Nat) (sv : Option Addr) (len cap : Nat) (w : World) (hp : w.cell? ⟨p, 0, none⟩ = some (.pointer (some ⟨q, 0, none⟩))) (hq : w.cell? ⟨q, 0, none⟩ = some (.slice sv len cap)) :
    Calls Try.prog 57 #[.int .i64 id, .pointer (some ⟨p, 0, none⟩)] w fun e w' => e = .returned (.bool (decide (0 ≤ id) && decide (id < (len : Int)))) ∧ w' = w := by
  by_cases h0 : 0 ≤ id
  · go_enter Try.func57, Try.ntmps57
    go_wp2
    go_ret
    exact ⟨ret_bool (by simp [h0]), rfl⟩
  · have hd : decide (0 ≤ id) = false := by simp; omega
    go_enter Try.func57, Try.ntmps57
    go_wp2
    go_ret
    exact ⟨ret_bool (by simp), rfl⟩

end Go.Proofs.Ytbmejpghoafapaa
