/-
  The walk of (*Arena).right, kind by kind.
-/
import Derived.Test.YtbmejpghoafapaaNode
namespace Go.Proofs.Ytbmejpghoafapaa
open Go.RowKit

/-- The words of the empty set. -/
abbrev Zf (f : Nat → Bool) : Prop := wd f 0 = 0 ∧ wd f 1 = 0 ∧ wd f 2 = 0 ∧ wd f 3 = 0
instance (f : Nat → Bool) : Decidable (Zf f) := inferInstance
/-- May the node be put behind m others? -/
def okN (m : Nat) (k : Int) (f : Nat → Bool) (a b : Int) (g : Bool) : Bool :=
  decide ((k = 0 ∨ k = 1) ∧ Zf f ∧ a = 0 ∧ b = 0 ∧ g = false) || decide (k = 2 ∧ a = 0 ∧ b = 0 ∧ g = false) ||
  decide ((3 ≤ k ∧ k ≤ 5) ∧ Zf f ∧ g = false ∧ (0 ≤ a ∧ a < m) ∧ (0 ≤ b ∧ b < m)) || decide ((k = 6 ∨ k = 7) ∧ Zf f ∧ b = 0 ∧ g = false ∧ (0 ≤ a ∧ a < m)) ||
  decide (k = 8 ∧ Zf f ∧ b = 0 ∧ (0 ≤ a ∧ a < 4))

theorem cell3 (w : World) (v : Value) (t : TypeId) (B C : Obj) : (((w.alloc (.cells #[v] t)).alloc B).alloc C).cell? ⟨w.heap.size, 0, none⟩ = some v := by
  rw [World.cell?_alloc_past _ _ _ (by simp; omega), World.cell?_alloc_past _ _ _ (by simp), World.cell?_alloc_at _ _ _ _ rfl]
  rfl
theorem cell3' {q : Nat} (w : World) (A B C : Obj) (h : q < w.heap.size) : (((w.alloc A).alloc B).alloc C).cell? ⟨q, 0, none⟩ = w.cell? ⟨q, 0, none⟩ := by
  rw [World.cell?_alloc_past _ _ _ (by simp; omega), World.cell?_alloc_past _ _ _ (by simp; omega), World.cell?_alloc_past _ _ _ h]

theorem there_val {id : Int} {p q : Nat} {sv : Option Addr} {len cap : Nat} {w : World} {v : Bool} (hv : (decide (0 ≤ id) && decide (id < (len : Int))) = v) (hp : w.cell? ⟨p, 0, none⟩ = some (.pointer (some ⟨q, 0, none⟩))) (hq : w.cell? ⟨q, 0, none⟩ = some (.slice sv len cap)) :
    Calls Try.prog 57 #[.int .i64 id, .pointer (some ⟨p, 0, none⟩)] w fun e w' => e = .returned (.bool v) ∧ w = w' :=
  (there_any id p q sv len cap w hp hq).mono fun _ _ ⟨h1, h2⟩ => ⟨by rw [h1, hv], h2.symm⟩

set_option maxRecDepth 100000 in
set_option maxHeartbeats 1000000 in
theorem right_0 (f : Nat → Bool) (a b : Int) (g : Bool) (q : Nat) (sv : Option Addr) (len cap : Nat) (w : World) (_hq : w.cell? ⟨q, 0, none⟩ = some (.slice sv len cap)) :
    Calls Try.prog 46 #[.pointer (some ⟨q, 0, none⟩), nv 0 f a b g] w fun e w' => e = .returned (.bool (okN len 0 f a b g)) ∧ Below w.heap.size w w' := by
  go_enter Try.func46, Try.ntmps46
  go_wp2_with fail
  go_ret
  exact ⟨ret_bool (by unfold nq okN Zf; rw [Bool.eq_iff_iff]; cases g <;> simp <;> omega), (by repeat (first | exact Below.refl _ _ | assumption | refine Below.drew ?_ | refine below_drewN' ?_ _ | refine Below.setCell ?_ (by first | omega | (simp; done) | (simp; omega)) _ | refine Below.alloc ?_ (by first | omega | (simp; done) | (simp; omega)) _ | refine Below.trans ?_ (Below.mono (by assumption) (by first | omega | (simp; done) | (simp; omega)))))⟩

set_option maxRecDepth 100000 in
set_option maxHeartbeats 1000000 in
theorem right_1 (f : Nat → Bool) (a b : Int) (g : Bool) (q : Nat) (sv : Option Addr) (len cap : Nat) (w : World) (_hq : w.cell? ⟨q, 0, none⟩ = some (.slice sv len cap)) :
    Calls Try.prog 46 #[.pointer (some ⟨q, 0, none⟩), nv 1 f a b g] w fun e w' => e = .returned (.bool (okN len 1 f a b g)) ∧ Below w.heap.size w w' := by
  go_enter Try.func46, Try.ntmps46
  go_wp2_with fail
  go_ret
  exact ⟨ret_bool (by unfold nq okN Zf; rw [Bool.eq_iff_iff]; cases g <;> simp <;> omega), (by repeat (first | exact Below.refl _ _ | assumption | refine Below.drew ?_ | refine below_drewN' ?_ _ | refine Below.setCell ?_ (by first | omega | (simp; done) | (simp; omega)) _ | refine Below.alloc ?_ (by first | omega | (simp; done) | (simp; omega)) _ | refine Below.trans ?_ (Below.mono (by assumption) (by first | omega | (simp; done) | (simp; omega)))))⟩

set_option maxRecDepth 100000 in
set_option maxHeartbeats 1000000 in
theorem right_2 (f : Nat → Bool) (a b : Int) (g : Bool) (q : Nat) (sv : Option Addr) (len cap : Nat) (w : World) (_hq : w.cell? ⟨q, 0, none⟩ = some (.slice sv len cap)) :
    Calls Try.prog 46 #[.pointer (some ⟨q, 0, none⟩), nv 2 f a b g] w fun e w' => e = .returned (.bool (okN len 2 f a b g)) ∧ Below w.heap.size w w' := by
  go_enter Try.func46, Try.ntmps46
  go_wp2_with fail
  go_ret
  exact ⟨ret_bool (by unfold nq okN Zf; rw [Bool.eq_iff_iff]; simp; constructor <;> (rintro ⟨h1, h2, h3⟩; simp_all)), (by repeat (first | exact Below.refl _ _ | assumption | refine Below.drew ?_ | refine below_drewN' ?_ _ | refine Below.setCell ?_ (by first | omega | (simp; done) | (simp; omega)) _ | refine Below.alloc ?_ (by first | omega | (simp; done) | (simp; omega)) _ | refine Below.trans ?_ (Below.mono (by assumption) (by first | omega | (simp; done) | (simp; omega)))))⟩

set_option maxRecDepth 100000 in
set_option maxHeartbeats 1000000 in
theorem right_3 (f : Nat → Bool) (a b : Int) (g : Bool) (q : Nat) (sv : Option Addr) (len cap : Nat) (w : World) (hq : w.cell? ⟨q, 0, none⟩ = some (.slice sv len cap)) :
    Calls Try.prog 46 #[.pointer (some ⟨q, 0, none⟩), nv 3 f a b g] w fun e w' => e = .returned (.bool (okN len 3 f a b g)) ∧ Below w.heap.size w w' := by
  have hql := World.block_lt_of_cell? _ _ hq
  cases ha : (decide (0 ≤ a) && decide (a < (len : Int)))
  · have HA := Lib.hid ha
    clear ha
    go_enter Try.func46, Try.ntmps46
    go_wp2_with fail
    refine (there_val (q := q) (sv := sv) (cap := cap) HA.out ?_ ?_).mono ?_
    · exact cell3 _ _ _ _ _
    · exact (cell3' _ _ _ _ hql).trans hq
    rintro e w1 ⟨rfl, rfl⟩
    go_wp2_with fail
    go_ret
    exact ⟨ret_bool (by have := HA.out; unfold okN Zf; symm; simp at this ⊢; omega), (by repeat (first | exact Below.refl _ _ | assumption | refine Below.drew ?_ | refine below_drewN' ?_ _ | refine Below.setCell ?_ (by first | omega | (simp; done) | (simp; omega)) _ | refine Below.alloc ?_ (by first | omega | (simp; done) | (simp; omega)) _ | refine Below.trans ?_ (Below.mono (by assumption) (by first | omega | (simp; done) | (simp; omega)))))⟩
  · have HA := Lib.hid ha
    clear ha
    cases hb : (decide (0 ≤ b) && decide (b < (len : Int)))
    · have HB := Lib.hid hb
      clear hb
      go_enter Try.func46, Try.ntmps46
      go_wp2_with fail
      refine (there_val (q := q) (sv := sv) (cap := cap) HA.out ?_ ?_).mono ?_
      · exact cell3 _ _ _ _ _
      · exact (cell3' _ _ _ _ hql).trans hq
      rintro e w1 ⟨rfl, rfl⟩
      go_wp2_with fail
      refine (there_val (q := q) (sv := sv) (cap := cap) HB.out ?_ ?_).mono ?_
      · exact cell3 _ _ _ _ _
      · exact (cell3' _ _ _ _ hql).trans hq
      rintro e w1 ⟨rfl, rfl⟩
      go_wp2_with fail
      go_ret
      exact ⟨ret_bool (by have := HB.out; unfold okN Zf; symm; simp at this ⊢; omega), (by repeat (first | exact Below.refl _ _ | assumption | refine Below.drew ?_ | refine below_drewN' ?_ _ | refine Below.setCell ?_ (by first | omega | (simp; done) | (simp; omega)) _ | refine Below.alloc ?_ (by first | omega | (simp; done) | (simp; omega)) _ | refine Below.trans ?_ (Below.mono (by assumption) (by first | omega | (simp; done) | (simp; omega)))))⟩
    · have HB := Lib.hid hb
      clear hb
      go_enter Try.func46, Try.ntmps46
      go_wp2_with fail
      refine (there_val (q := q) (sv := sv) (cap := cap) HA.out ?_ ?_).mono ?_
      · exact cell3 _ _ _ _ _
      · exact (cell3' _ _ _ _ hql).trans hq
      rintro e w1 ⟨rfl, rfl⟩
      go_wp2_with fail
      refine (there_val (q := q) (sv := sv) (cap := cap) HB.out ?_ ?_).mono ?_
      · exact cell3 _ _ _ _ _
      · exact (cell3' _ _ _ _ hql).trans hq
      rintro e w1 ⟨rfl, rfl⟩
      go_wp2_with fail
      go_ret
      exact ⟨ret_bool (by have h1 := HA.out; have h2 := HB.out; unfold nq okN Zf; rw [Bool.eq_iff_iff]; simp at h1 h2 ⊢; cases g <;> simp <;> omega), (by repeat (first | exact Below.refl _ _ | assumption | refine Below.drew ?_ | refine below_drewN' ?_ _ | refine Below.setCell ?_ (by first | omega | (simp; done) | (simp; omega)) _ | refine Below.alloc ?_ (by first | omega | (simp; done) | (simp; omega)) _ | refine Below.trans ?_ (Below.mono (by assumption) (by first | omega | (simp; done) | (simp; omega)))))⟩

set_option maxRecDepth 100000 in
set_option maxHeartbeats 1000000 in
theorem right_4 (f : Nat → Bool) (a b : Int) (g : Bool) (q : Nat) (sv : Option Addr) (len cap : Nat) (w : World) (hq : w.cell? ⟨q, 0, none⟩ = some (.slice sv len cap)) :
    Calls Try.prog 46 #[.pointer (some ⟨q, 0, none⟩), nv 4 f a b g] w fun e w' => e = .returned (.bool (okN len 4 f a b g)) ∧ Below w.heap.size w w' := by
  have hql := World.block_lt_of_cell? _ _ hq
  cases ha : (decide (0 ≤ a) && decide (a < (len : Int)))
  · have HA := Lib.hid ha
    clear ha
    go_enter Try.func46, Try.ntmps46
    go_wp2_with fail
    refine (there_val (q := q) (sv := sv) (cap := cap) HA.out ?_ ?_).mono ?_
    · exact cell3 _ _ _ _ _
    · exact (cell3' _ _ _ _ hql).trans hq
    rintro e w1 ⟨rfl, rfl⟩
    go_wp2_with fail
    go_ret
    exact ⟨ret_bool (by have := HA.out; unfold okN Zf; symm; simp at this ⊢; omega), (by repeat (first | exact Below.refl _ _ | assumption | refine Below.drew ?_ | refine below_drewN' ?_ _ | refine Below.setCell ?_ (by first | omega | (simp; done) | (simp; omega)) _ | refine Below.alloc ?_ (by first | omega | (simp; done) | (simp; omega)) _ | refine Below.trans ?_ (Below.mono (by assumption) (by first | omega | (simp; done) | (simp; omega)))))⟩
  · have HA := Lib.hid ha
    clear ha
    cases hb : (decide (0 ≤ b) && decide (b < (len : Int)))
    · have HB := Lib.hid hb
      clear hb
      go_enter Try.func46, Try.ntmps46
      go_wp2_with fail
      refine (there_val (q := q) (sv := sv) (cap := cap) HA.out ?_ ?_).mono ?_
      · exact cell3 _ _ _ _ _
      · exact (cell3' _ _ _ _ hql).trans hq
      rintro e w1 ⟨rfl, rfl⟩
      go_wp2_with fail
      refine (there_val (q := q) (sv := sv) (cap := cap) HB.out ?_ ?_).mono ?_
      · exact cell3 _ _ _ _ _
      · exact (cell3' _ _ _ _ hql).trans hq
      rintro e w1 ⟨rfl, rfl⟩
      go_wp2_with fail
      go_ret
      exact ⟨ret_bool (by have := HB.out; unfold okN Zf; symm; simp at this ⊢; omega), (by repeat (first | exact Below.refl _ _ | assumption | refine Below.drew ?_ | refine below_drewN' ?_ _ | refine Below.setCell ?_ (by first | omega | (simp; done) | (simp; omega)) _ | refine Below.alloc ?_ (by first | omega | (simp; done) | (simp; omega)) _ | refine Below.trans ?_ (Below.mono (by assumption) (by first | omega | (simp; done) | (simp; omega)))))⟩
    · have HB := Lib.hid hb
      clear hb
      go_enter Try.func46, Try.ntmps46
      go_wp2_with fail
      refine (there_val (q := q) (sv := sv) (cap := cap) HA.out ?_ ?_).mono ?_
      · exact cell3 _ _ _ _ _
      · exact (cell3' _ _ _ _ hql).trans hq
      rintro e w1 ⟨rfl, rfl⟩
      go_wp2_with fail
      refine (there_val (q := q) (sv := sv) (cap := cap) HB.out ?_ ?_).mono ?_
      · exact cell3 _ _ _ _ _
      · exact (cell3' _ _ _ _ hql).trans hq
      rintro e w1 ⟨rfl, rfl⟩
      go_wp2_with fail
      go_ret
      exact ⟨ret_bool (by have h1 := HA.out; have h2 := HB.out; unfold nq okN Zf; rw [Bool.eq_iff_iff]; simp at h1 h2 ⊢; cases g <;> simp <;> omega), (by repeat (first | exact Below.refl _ _ | assumption | refine Below.drew ?_ | refine below_drewN' ?_ _ | refine Below.setCell ?_ (by first | omega | (simp; done) | (simp; omega)) _ | refine Below.alloc ?_ (by first | omega | (simp; done) | (simp; omega)) _ | refine Below.trans ?_ (Below.mono (by assumption) (by first | omega | (simp; done) | (simp; omega)))))⟩

set_option maxRecDepth 100000 in
set_option maxHeartbeats 1000000 in
theorem right_5 (f : Nat → Bool) (a b : Int) (g : Bool) (q : Nat) (sv : Option Addr) (len cap : Nat) (w : World) (hq : w.cell? ⟨q, 0, none⟩ = some (.slice sv len cap)) :
    Calls Try.prog 46 #[.pointer (some ⟨q, 0, none⟩), nv 5 f a b g] w fun e w' => e = .returned (.bool (okN len 5 f a b g)) ∧ Below w.heap.size w w' := by
  have hql := World.block_lt_of_cell? _ _ hq
  cases ha : (decide (0 ≤ a) && decide (a < (len : Int)))
  · have HA := Lib.hid ha
    clear ha
    go_enter Try.func46, Try.ntmps46
    go_wp2_with fail
    refine (there_val (q := q) (sv := sv) (cap := cap) HA.out ?_ ?_).mono ?_
    · exact cell3 _ _ _ _ _
    · exact (cell3' _ _ _ _ hql).trans hq
    rintro e w1 ⟨rfl, rfl⟩
    go_wp2_with fail
    go_ret
    exact ⟨ret_bool (by have := HA.out; unfold okN Zf; symm; simp at this ⊢; omega), (by repeat (first | exact Below.refl _ _ | assumption | refine Below.drew ?_ | refine below_drewN' ?_ _ | refine Below.setCell ?_ (by first | omega | (simp; done) | (simp; omega)) _ | refine Below.alloc ?_ (by first | omega | (simp; done) | (simp; omega)) _ | refine Below.trans ?_ (Below.mono (by assumption) (by first | omega | (simp; done) | (simp; omega)))))⟩
  · have HA := Lib.hid ha
    clear ha
    cases hb : (decide (0 ≤ b) && decide (b < (len : Int)))
    · have HB := Lib.hid hb
      clear hb
      go_enter Try.func46, Try.ntmps46
      go_wp2_with fail
      refine (there_val (q := q) (sv := sv) (cap := cap) HA.out ?_ ?_).mono ?_
      · exact cell3 _ _ _ _ _
      · exact (cell3' _ _ _ _ hql).trans hq
      rintro e w1 ⟨rfl, rfl⟩
      go_wp2_with fail
      refine (there_val (q := q) (sv := sv) (cap := cap) HB.out ?_ ?_).mono ?_
      · exact cell3 _ _ _ _ _
      · exact (cell3' _ _ _ _ hql).trans hq
      rintro e w1 ⟨rfl, rfl⟩
      go_wp2_with fail
      go_ret
      exact ⟨ret_bool (by have := HB.out; unfold okN Zf; symm; simp at this ⊢; omega), (by repeat (first | exact Below.refl _ _ | assumption | refine Below.drew ?_ | refine below_drewN' ?_ _ | refine Below.setCell ?_ (by first | omega | (simp; done) | (simp; omega)) _ | refine Below.alloc ?_ (by first | omega | (simp; done) | (simp; omega)) _ | refine Below.trans ?_ (Below.mono (by assumption) (by first | omega | (simp; done) | (simp; omega)))))⟩
    · have HB := Lib.hid hb
      clear hb
      go_enter Try.func46, Try.ntmps46
      go_wp2_with fail
      refine (there_val (q := q) (sv := sv) (cap := cap) HA.out ?_ ?_).mono ?_
      · exact cell3 _ _ _ _ _
      · exact (cell3' _ _ _ _ hql).trans hq
      rintro e w1 ⟨rfl, rfl⟩
      go_wp2_with fail
      refine (there_val (q := q) (sv := sv) (cap := cap) HB.out ?_ ?_).mono ?_
      · exact cell3 _ _ _ _ _
      · exact (cell3' _ _ _ _ hql).trans hq
      rintro e w1 ⟨rfl, rfl⟩
      go_wp2_with fail
      go_ret
      exact ⟨ret_bool (by have h1 := HA.out; have h2 := HB.out; unfold nq okN Zf; rw [Bool.eq_iff_iff]; simp at h1 h2 ⊢; cases g <;> simp <;> omega), (by repeat (first | exact Below.refl _ _ | assumption | refine Below.drew ?_ | refine below_drewN' ?_ _ | refine Below.setCell ?_ (by first | omega | (simp; done) | (simp; omega)) _ | refine Below.alloc ?_ (by first | omega | (simp; done) | (simp; omega)) _ | refine Below.trans ?_ (Below.mono (by assumption) (by first | omega | (simp; done) | (simp; omega)))))⟩

set_option maxRecDepth 100000 in
set_option maxHeartbeats 1000000 in
theorem right_6 (f : Nat → Bool) (a b : Int) (g : Bool) (q : Nat) (sv : Option Addr) (len cap : Nat) (w : World) (hq : w.cell? ⟨q, 0, none⟩ = some (.slice sv len cap)) :
    Calls Try.prog 46 #[.pointer (some ⟨q, 0, none⟩), nv 6 f a b g] w fun e w' => e = .returned (.bool (okN len 6 f a b g)) ∧ Below w.heap.size w w' := by
  have hql := World.block_lt_of_cell? _ _ hq
  cases ha : (decide (0 ≤ a) && decide (a < (len : Int)))
  · have HA := Lib.hid ha
    clear ha
    go_enter Try.func46, Try.ntmps46
    go_wp2_with fail
    refine (there_val (q := q) (sv := sv) (cap := cap) HA.out ?_ ?_).mono ?_
    · exact cell3 _ _ _ _ _
    · exact (cell3' _ _ _ _ hql).trans hq
    rintro e w1 ⟨rfl, rfl⟩
    go_wp2_with fail
    go_ret
    exact ⟨ret_bool (by have := HA.out; unfold okN Zf; symm; simp at this ⊢; omega), (by repeat (first | exact Below.refl _ _ | assumption | refine Below.drew ?_ | refine below_drewN' ?_ _ | refine Below.setCell ?_ (by first | omega | (simp; done) | (simp; omega)) _ | refine Below.alloc ?_ (by first | omega | (simp; done) | (simp; omega)) _ | refine Below.trans ?_ (Below.mono (by assumption) (by first | omega | (simp; done) | (simp; omega)))))⟩
  · have HA := Lib.hid ha
    clear ha
    go_enter Try.func46, Try.ntmps46
    go_wp2_with fail
    refine (there_val (q := q) (sv := sv) (cap := cap) HA.out ?_ ?_).mono ?_
    · exact cell3 _ _ _ _ _
    · exact (cell3' _ _ _ _ hql).trans hq
    rintro e w1 ⟨rfl, rfl⟩
    go_wp2_with fail
    go_ret
    exact ⟨ret_bool (by have h1 := HA.out; unfold nq okN Zf; rw [Bool.eq_iff_iff]; simp at h1 ⊢; cases g <;> simp <;> omega), (by repeat (first | exact Below.refl _ _ | assumption | refine Below.drew ?_ | refine below_drewN' ?_ _ | refine Below.setCell ?_ (by first | omega | (simp; done) | (simp; omega)) _ | refine Below.alloc ?_ (by first | omega | (simp; done) | (simp; omega)) _ | refine Below.trans ?_ (Below.mono (by assumption) (by first | omega | (simp; done) | (simp; omega)))))⟩

set_option maxRecDepth 100000 in
set_option maxHeartbeats 1000000 in
theorem right_7 (f : Nat → Bool) (a b : Int) (g : Bool) (q : Nat) (sv : Option Addr) (len cap : Nat) (w : World) (hq : w.cell? ⟨q, 0, none⟩ = some (.slice sv len cap)) :
    Calls Try.prog 46 #[.pointer (some ⟨q, 0, none⟩), nv 7 f a b g] w fun e w' => e = .returned (.bool (okN len 7 f a b g)) ∧ Below w.heap.size w w' := by
  have hql := World.block_lt_of_cell? _ _ hq
  cases ha : (decide (0 ≤ a) && decide (a < (len : Int)))
  · have HA := Lib.hid ha
    clear ha
    go_enter Try.func46, Try.ntmps46
    go_wp2_with fail
    refine (there_val (q := q) (sv := sv) (cap := cap) HA.out ?_ ?_).mono ?_
    · exact cell3 _ _ _ _ _
    · exact (cell3' _ _ _ _ hql).trans hq
    rintro e w1 ⟨rfl, rfl⟩
    go_wp2_with fail
    go_ret
    exact ⟨ret_bool (by have := HA.out; unfold okN Zf; symm; simp at this ⊢; omega), (by repeat (first | exact Below.refl _ _ | assumption | refine Below.drew ?_ | refine below_drewN' ?_ _ | refine Below.setCell ?_ (by first | omega | (simp; done) | (simp; omega)) _ | refine Below.alloc ?_ (by first | omega | (simp; done) | (simp; omega)) _ | refine Below.trans ?_ (Below.mono (by assumption) (by first | omega | (simp; done) | (simp; omega)))))⟩
  · have HA := Lib.hid ha
    clear ha
    go_enter Try.func46, Try.ntmps46
    go_wp2_with fail
    refine (there_val (q := q) (sv := sv) (cap := cap) HA.out ?_ ?_).mono ?_
    · exact cell3 _ _ _ _ _
    · exact (cell3' _ _ _ _ hql).trans hq
    rintro e w1 ⟨rfl, rfl⟩
    go_wp2_with fail
    go_ret
    exact ⟨ret_bool (by have h1 := HA.out; unfold nq okN Zf; rw [Bool.eq_iff_iff]; simp at h1 ⊢; cases g <;> simp <;> omega), (by repeat (first | exact Below.refl _ _ | assumption | refine Below.drew ?_ | refine below_drewN' ?_ _ | refine Below.setCell ?_ (by first | omega | (simp; done) | (simp; omega)) _ | refine Below.alloc ?_ (by first | omega | (simp; done) | (simp; omega)) _ | refine Below.trans ?_ (Below.mono (by assumption) (by first | omega | (simp; done) | (simp; omega)))))⟩

set_option maxRecDepth 100000 in
set_option maxHeartbeats 1000000 in
theorem right_8 (f : Nat → Bool) (a b : Int) (g : Bool) (q : Nat) (sv : Option Addr) (len cap : Nat) (w : World) (_hq : w.cell? ⟨q, 0, none⟩ = some (.slice sv len cap)) :
    Calls Try.prog 46 #[.pointer (some ⟨q, 0, none⟩), nv 8 f a b g] w fun e w' => e = .returned (.bool (okN len 8 f a b g)) ∧ Below w.heap.size w w' := by
  by_cases h0 : a < 0
  · have hd : decide (a < 0) = true := by simp; omega
    go_enter Try.func46, Try.ntmps46
    go_wp2_with fail
    go_ret
    exact ⟨ret_bool (by unfold okN Zf; symm; simp; omega), (by repeat (first | exact Below.refl _ _ | assumption | refine Below.drew ?_ | refine below_drewN' ?_ _ | refine Below.setCell ?_ (by first | omega | (simp; done) | (simp; omega)) _ | refine Below.alloc ?_ (by first | omega | (simp; done) | (simp; omega)) _ | refine Below.trans ?_ (Below.mono (by assumption) (by first | omega | (simp; done) | (simp; omega)))))⟩
  · have hd : decide (a < 0) = false := by simp; omega
    by_cases h4 : 4 ≤ a
    · have hd4 : decide (4 ≤ a) = true := by simp; omega
      go_enter Try.func46, Try.ntmps46
      go_wp2_with fail
      go_ret
      exact ⟨ret_bool (by unfold okN Zf; symm; simp; omega), (by repeat (first | exact Below.refl _ _ | assumption | refine Below.drew ?_ | refine below_drewN' ?_ _ | refine Below.setCell ?_ (by first | omega | (simp; done) | (simp; omega)) _ | refine Below.alloc ?_ (by first | omega | (simp; done) | (simp; omega)) _ | refine Below.trans ?_ (Below.mono (by assumption) (by first | omega | (simp; done) | (simp; omega)))))⟩
    · have hd4 : decide (4 ≤ a) = false := by simp; omega
      go_enter Try.func46, Try.ntmps46
      go_wp2_with fail
      go_ret
      exact ⟨ret_bool (by unfold nq okN Zf; rw [Bool.eq_iff_iff]; cases g <;> simp <;> omega), (by repeat (first | exact Below.refl _ _ | assumption | refine Below.drew ?_ | refine below_drewN' ?_ _ | refine Below.setCell ?_ (by first | omega | (simp; done) | (simp; omega)) _ | refine Below.alloc ?_ (by first | omega | (simp; done) | (simp; omega)) _ | refine Below.trans ?_ (Below.mono (by assumption) (by first | omega | (simp; done) | (simp; omega)))))⟩

set_option maxRecDepth 100000 in
set_option maxHeartbeats 1000000 in
theorem right_else (k : Int) (hk : k < 0 ∨ 8 < k) (f : Nat → Bool) (a b : Int) (g : Bool) (q : Nat) (w : World) (len : Nat) :
    Calls Try.prog 46 #[.pointer (some ⟨q, 0, none⟩), nv k f a b g] w fun e w' => e = .returned (.bool (okN len k f a b g)) ∧ Below w.heap.size w w' := by
  have HE : Hid (false = okN len k f a b g) := Lib.hid (by unfold okN Zf; symm; simp; omega)
  have h0 : (k == 0) = false := by simp; omega
  have h1 : (k == 1) = false := by simp; omega
  have h2 : (k == 2) = false := by simp; omega
  have h3 : (k == 3) = false := by simp; omega
  have h4 : (k == 4) = false := by simp; omega
  have h5 : (k == 5) = false := by simp; omega
  have h6 : (k == 6) = false := by simp; omega
  have h7 : (k == 7) = false := by simp; omega
  have h8 : (k == 8) = false := by simp; omega
  clear hk
  go_enter Try.func46, Try.ntmps46
  go_wp2_with fail
  go_ret
  exact ⟨ret_bool HE.out, (by repeat (first | exact Below.refl _ _ | assumption | refine Below.drew ?_ | refine below_drewN' ?_ _ | refine Below.setCell ?_ (by first | omega | (simp; done) | (simp; omega)) _ | refine Below.alloc ?_ (by first | omega | (simp; done) | (simp; omega)) _ | refine Below.trans ?_ (Below.mono (by assumption) (by first | omega | (simp; done) | (simp; omega)))))⟩

theorem right_any (k : Int) (f : Nat → Bool) (a b : Int) (g : Bool) (q : Nat) (sv : Option Addr) (len cap : Nat) (w : World) (hq : w.cell? ⟨q, 0, none⟩ = some (.slice sv len cap)) :
    Calls Try.prog 46 #[.pointer (some ⟨q, 0, none⟩), nv k f a b g] w fun e w' => e = .returned (.bool (okN len k f a b g)) ∧ Below w.heap.size w w' := by
  by_cases hk : k < 0 ∨ 8 < k
  · exact right_else k hk f a b g q w len
  · have : k = 0 ∨ k = 1 ∨ k = 2 ∨ k = 3 ∨ k = 4 ∨ k = 5 ∨ k = 6 ∨ k = 7 ∨ k = 8 := by omega
    rcases this with rfl | rfl | rfl | rfl | rfl | rfl | rfl | rfl | rfl
    · exact right_0 f a b g q sv len cap w hq
    · exact right_1 f a b g q sv len cap w hq
    · exact right_2 f a b g q sv len cap w hq
    · exact right_3 f a b g q sv len cap w hq
    · exact right_4 f a b g q sv len cap w hq
    · exact right_5 f a b g q sv len cap w hq
    · exact right_6 f a b g q sv len cap w hq
    · exact right_7 f a b g q sv len cap w hq
    · exact right_8 f a b g q sv len cap w hq

end Go.Proofs.Ytbmejpghoafapaa
