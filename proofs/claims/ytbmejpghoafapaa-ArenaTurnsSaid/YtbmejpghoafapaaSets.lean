/-
  Walks: package set and bolterref01, byte by byte.
-/
import Derived.Test.YtbmejpghoafapaaRows
import Derived.Test.YtbmejpghoafapaaBits
import Derived.Lib.Hide
import Derived.Deep.RegionHeld3
import Derived.BigQuiet
import Derived.RegionTactic
namespace Go.Proofs.Ytbmejpghoafapaa
open Go.RowKit

/-- A set as the value that the program hands round. -/
abbrev sv (f : Nat → Bool) : Value := .agg #[.int .u64 (wd f 0), .int .u64 (wd f 1), .int .u64 (wd f 2), .int .u64 (wd f 3)]

theorem ret_bool {a b : Bool} (h : a = b) : Ending.returned (.bool a) = .returned (.bool b) := by rw [h]

theorem idx_split (b : Int) (h0 : 0 ≤ b) (h1 : b < 256) : b / 64 = 0 ∨ b / 64 = 1 ∨ b / 64 = 2 ∨ b / 64 = 3 := by omega

theorem has_bit (f : Nat → Bool) (i : Nat) (b : Int) (h0 : 0 ≤ b) (h1 : b / 64 = (i : Int)) : (bits .and .u64 (wd f i / 2 ^ (b % 64).toNat) 1 == 1) = f b.toNat := by
  rw [wd_bit f i _ (by omega), show 64 * i + (b % 64).toNat = b.toNat from by omega]

set_option maxHeartbeats 400000 in
theorem has_any (f : Nat → Bool) (b : Int) (w : World) (h0 : 0 ≤ b) (h1 : b < 256) :
    Calls Try.prog 23 #[sv f, .int .u8 b] w fun e w' => e = .returned (.bool (f b.toNat)) ∧ Below w.heap.size w w' := by
  rcases idx_split b h0 h1 with h2 | h2 | h2 | h2
  · have hb := has_bit f 0 b h0 h2
    go_enter Try.func23, Try.ntmps23
    go_wp2
    go_ret
    exact ⟨rfl, (Below.refl _ _).alloc (Nat.le_refl _) _⟩
  · have hb := has_bit f 1 b h0 h2
    go_enter Try.func23, Try.ntmps23
    go_wp2
    go_ret
    exact ⟨rfl, (Below.refl _ _).alloc (Nat.le_refl _) _⟩
  · have hb := has_bit f 2 b h0 h2
    go_enter Try.func23, Try.ntmps23
    go_wp2
    go_ret
    exact ⟨rfl, (Below.refl _ _).alloc (Nat.le_refl _) _⟩
  · have hb := has_bit f 3 b h0 h2
    go_enter Try.func23, Try.ntmps23
    go_wp2
    go_ret
    exact ⟨rfl, (Below.refl _ _).alloc (Nat.le_refl _) _⟩

theorem sh_end (f : Nat → Bool) (i k : Nat) (b : Int) (h0 : 0 ≤ b) (h1 : b / 64 = (i : Int)) (hk : (k : Int) = b % 64) : (sh f i k % 2 == 1) = f b.toNat := by
  rw [sh_bit f i k (by omega), show 64 * i + k = b.toNat from by omega]

theorem int_u64 {a b : Int} (h : a = b) : (Value.int .u64 a) = .int .u64 b := by rw [h]

set_option maxHeartbeats 800000 in
theorem refHas_any (f : Nat → Bool) (b : Int) (w : World) (h0 : 0 ≤ b) (h1 : b < 256) :
    Calls Try.prog 17 #[sv f, .int .i64 b] w fun e w' => e = .returned (.bool (f b.toNat)) ∧ Below w.heap.size w w' := by
  rcases idx_split b h0 h1 with h2 | h2 | h2 | h2
  · go_enter Try.func17, Try.ntmps17
    go_wp2
    go_loop [5, 12] (fun x i => ∃ k : Nat, (k : Int) ≤ b % 64 ∧ i = .int .i64 k ∧ x = .int .u64 (sh f 0 k)) (fun _ i => (64 - intOf i).toNat)
    case atStart => exact ⟨0, by omega, rfl, int_u64 (sh_zero f 0).symm⟩
    case round =>
      obtain ⟨k, hk, rfl, rfl⟩ := hrel
      have hs := sh_lo f 0 k
      have hs2 := sh_half f 0 k
      by_cases hlt : (k : Int) < b % 64
      · go_wp2
        go_round
        case rel => exact ⟨k + 1, by omega, by go_num, rfl⟩
        case measure => simp [intOf]; omega
      · have hb := sh_end f 0 k b h0 h2 (by omega)
        go_wp2
        go_ret
        exact ⟨rfl, (Below.refl _ _).alloc (Nat.le_refl _) _⟩
  · go_enter Try.func17, Try.ntmps17
    go_wp2
    go_loop [5, 12] (fun x i => ∃ k : Nat, (k : Int) ≤ b % 64 ∧ i = .int .i64 k ∧ x = .int .u64 (sh f 1 k)) (fun _ i => (64 - intOf i).toNat)
    case atStart => exact ⟨0, by omega, rfl, int_u64 (sh_zero f 1).symm⟩
    case round =>
      obtain ⟨k, hk, rfl, rfl⟩ := hrel
      have hs := sh_lo f 1 k
      have hs2 := sh_half f 1 k
      by_cases hlt : (k : Int) < b % 64
      · go_wp2
        go_round
        case rel => exact ⟨k + 1, by omega, by go_num, rfl⟩
        case measure => simp [intOf]; omega
      · have hb := sh_end f 1 k b h0 h2 (by omega)
        go_wp2
        go_ret
        exact ⟨rfl, (Below.refl _ _).alloc (Nat.le_refl _) _⟩
  · go_enter Try.func17, Try.ntmps17
    go_wp2
    go_loop [5, 12] (fun x i => ∃ k : Nat, (k : Int) ≤ b % 64 ∧ i = .int .i64 k ∧ x = .int .u64 (sh f 2 k)) (fun _ i => (64 - intOf i).toNat)
    case atStart => exact ⟨0, by omega, rfl, int_u64 (sh_zero f 2).symm⟩
    case round =>
      obtain ⟨k, hk, rfl, rfl⟩ := hrel
      have hs := sh_lo f 2 k
      have hs2 := sh_half f 2 k
      by_cases hlt : (k : Int) < b % 64
      · go_wp2
        go_round
        case rel => exact ⟨k + 1, by omega, by go_num, rfl⟩
        case measure => simp [intOf]; omega
      · have hb := sh_end f 2 k b h0 h2 (by omega)
        go_wp2
        go_ret
        exact ⟨rfl, (Below.refl _ _).alloc (Nat.le_refl _) _⟩
  · go_enter Try.func17, Try.ntmps17
    go_wp2
    go_loop [5, 12] (fun x i => ∃ k : Nat, (k : Int) ≤ b % 64 ∧ i = .int .i64 k ∧ x = .int .u64 (sh f 3 k)) (fun _ i => (64 - intOf i).toNat)
    case atStart => exact ⟨0, by omega, rfl, int_u64 (sh_zero f 3).symm⟩
    case round =>
      obtain ⟨k, hk, rfl, rfl⟩ := hrel
      have hs := sh_lo f 3 k
      have hs2 := sh_half f 3 k
      by_cases hlt : (k : Int) < b % 64
      · go_wp2
        go_round
        case rel => exact ⟨k + 1, by omega, by go_num, rfl⟩
        case measure => simp [intOf]; omega
      · have hb := sh_end f 3 k b h0 h2 (by omega)
        go_wp2
        go_ret
        exact ⟨rfl, (Below.refl _ _).alloc (Nat.le_refl _) _⟩

/-- A slice of bytes that reads as a list. -/
def BytesAt (w : World) (v : Value) (l : List Int) : Prop :=
  (∀ x ∈ l, 0 ≤ x ∧ x < 256) ∧ ∃ a cap, v = .slice a l.length cap ∧ (l ≠ [] → ∃ b off, a = some ⟨b, off, none⟩ ∧ ∀ i, i < l.length → w.cell? ⟨b, off + i, none⟩ = some (.int .u8 (l.getD i 0)))

abbrev zeros : Obj := .cells #[.int .u64 0, .int .u64 0, .int .u64 0, .int .u64 0] 26
abbrev sob (f : Nat → Bool) : Obj := .cells #[.int .u64 (wd f 0), .int .u64 (wd f 1), .int .u64 (wd f 2), .int .u64 (wd f 3)] 26

theorem zeros_eq : zeros = sob (fun _ => false) := by simp only [sob, wd_zero]
theorem sob_zero (w : World) : w.alloc zeros = w.alloc (sob (inl [])) := by rw [inl_nil, zeros_eq]
theorem sob_eq {f g : Nat → Bool} {a0 a1 a2 a3 : Int} (h0 : a0 = wd g 0) (h1 : a1 = wd g 1) (h2 : a2 = wd g 2) (h3 : a3 = wd g 3) (w : World) (hg : g = f) :
    w.alloc (.cells #[.int .u64 a0, .int .u64 a1, .int .u64 a2, .int .u64 a3] 26) = w.alloc (sob f) := by rw [h0, h1, h2, h3, hg]

set_option maxHeartbeats 1000000 in
theorem of_some (l : List Int) (b off cap : Nat) (w : World) (hx : ∀ x ∈ l, 0 ≤ x ∧ x < 256) (hlen : l.length ≤ 1000000)
   (hc : ∀ i, i < l.length → w.cell? ⟨b, off + i, none⟩ = some (.int .u8 (l.getD i 0))) :
    Calls Try.prog 14 #[.slice (some ⟨b, off, none⟩) l.length cap] w fun e w' => e = .returned (sv (inl l)) ∧ Below w.heap.size w w' := by
  go_enter Try.func14, Try.ntmps14
  go_wp2
  go_loopw [5, 8] (fun x i wr => ∃ k : Nat, k ≤ l.length ∧ i = .int .i64 k ∧ wr = ((w.alloc zeros).alloc (sob (inl (l.take k))))) (fun _ i _ => (l.length - intOf i).toNat)
  case atStart => exact ⟨0, by omega, rfl, sob_zero _⟩
  case round =>
    obtain ⟨k, hk, rfl, rfl⟩ := hrel
    by_cases hlt : k < l.length
    · have hck := hc k hlt
      have ⟨hx0, hx1⟩ : 0 ≤ l.getD k 0 ∧ l.getD k 0 < 256 := hx _ (by simp [hlt])
      have HT := Lib.hid (inl_take l k hlt)
      generalize l.getD k 0 = x at *
      have hcl := cell_later (((Below.refl w.heap.size w).alloc (Nat.le_refl _) zeros).alloc (by simp) (sob (inl (l.take k)))) hck
      clear hck hc hx
      generalize inl (l.take k) = f at *
      rcases idx_split x hx0 hx1 with h2 | h2 | h2 | h2
      · have hb := addb_in f 0 x hx0 h2
        go_wp2
        go_round
        case rel => exact ⟨k + 1, by omega, by go_num, sob_eq rfl (addb_out f 1 x hx0 (by omega)) (addb_out f 2 x hx0 (by omega)) (addb_out f 3 x hx0 (by omega)) _ HT.out.symm⟩
        case measure => simp [intOf]; omega
      · have hb := addb_in f 1 x hx0 h2
        go_wp2
        go_round
        case rel => exact ⟨k + 1, by omega, by go_num, sob_eq (addb_out f 0 x hx0 (by omega)) rfl (addb_out f 2 x hx0 (by omega)) (addb_out f 3 x hx0 (by omega)) _ HT.out.symm⟩
        case measure => simp [intOf]; omega
      · have hb := addb_in f 2 x hx0 h2
        go_wp2
        go_round
        case rel => exact ⟨k + 1, by omega, by go_num, sob_eq (addb_out f 0 x hx0 (by omega)) (addb_out f 1 x hx0 (by omega)) rfl (addb_out f 3 x hx0 (by omega)) _ HT.out.symm⟩
        case measure => simp [intOf]; omega
      · have hb := addb_in f 3 x hx0 h2
        go_wp2
        go_round
        case rel => exact ⟨k + 1, by omega, by go_num, sob_eq (addb_out f 0 x hx0 (by omega)) (addb_out f 1 x hx0 (by omega)) (addb_out f 2 x hx0 (by omega)) rfl _ HT.out.symm⟩
        case measure => simp [intOf]; omega
    · have HT : Hid (inl (l.take k) = inl l) := by rw [List.take_of_length_le (by omega)]; exact rfl
      clear hc hx
      generalize inl (l.take k) = f at *
      go_wp2
      exact bodyPost_ret (v := sv f) (by simp [results, Try.results14, go_sem]) rfl ⟨by rw [HT.out], ((Below.refl _ _).alloc (Nat.le_refl _) _).alloc (by simp) _⟩

theorem of_none (a : Option Addr) (cap : Nat) (w : World) :
    Calls Try.prog 14 #[.slice a 0 cap] w fun e w' => e = .returned (sv (inl [])) ∧ Below w.heap.size w w' := by
  have HT : Hid (sv (inl []) = .agg #[.int .u64 0, .int .u64 0, .int .u64 0, .int .u64 0]) := Lib.hid (by rw [inl_nil]; simp only [sv, wd_zero])
  go_enter Try.func14, Try.ntmps14
  go_wp2
  refine wp_loop_rounds 1 ?_
  rw [rounds_succ]
  go_wp2
  exact bodyPost_ret (v := .agg #[.int .u64 0, .int .u64 0, .int .u64 0, .int .u64 0]) (by simp [results, Try.results14, go_sem]) rfl ⟨by rw [HT.out], ((Below.refl _ _).alloc (Nat.le_refl _) _).alloc (by simp) _⟩

theorem of_any (l : List Int) (v : Value) (w : World) (hv : BytesAt w v l) (hlen : l.length ≤ 1000000) :
    Calls Try.prog 14 #[v] w fun e w' => e = .returned (sv (inl l)) ∧ Below w.heap.size w w' := by
  obtain ⟨hx, a, cap, rfl, hs⟩ := hv
  by_cases hl : l = []
  · subst hl
    exact of_none a cap w
  · obtain ⟨b, off, rfl, hc⟩ := hs hl
    exact of_some l b off cap w hx hlen hc

/-- Block b of w holds the set f. -/
def HoldsS (w : World) (b : Nat) (f : Nat → Bool) : Prop := w.heap[b]? = some (sob f)
theorem HoldsS.cells {w : World} {b : Nat} {f : Nat → Bool} (h : HoldsS w b f) :
    w.cell? ⟨b, 0, none⟩ = some (.int .u64 (wd f 0)) ∧ w.cell? ⟨b, 1, none⟩ = some (.int .u64 (wd f 1)) ∧ w.cell? ⟨b, 2, none⟩ = some (.int .u64 (wd f 2)) ∧ w.cell? ⟨b, 3, none⟩ = some (.int .u64 (wd f 3)) := by
  refine ⟨?_, ?_, ?_, ?_⟩ <;> rw [cell_of_row w b _ _ 26 (0, 0) h] <;> rfl
theorem HoldsS.free {w : World} {b : Nat} {f : Nat → Bool} (h : HoldsS w b f) : ∀ o, w.frozen? ⟨b, o, none⟩ = false := fun o => by
  have : w.heap[b]? = some (sob f) := h
  simp [World.frozen?, this]
theorem HoldsS.below {w w' : World} {n b : Nat} {f : Nat → Bool} (h : HoldsS w b f) (hb : Below n w w') (hlt : b < n) : HoldsS w' b f := (hb.block b hlt).trans h
theorem HoldsS.made (w : World) (f : Nat → Bool) : HoldsS (w.alloc (sob f)) w.heap.size f := heap_alloc_new w _
theorem HoldsS.alloc {w : World} {b : Nat} {f : Nat → Bool} (h : HoldsS w b f) (o : Obj) : HoldsS (w.alloc o) b f :=
  (Below.heap_alloc w o b (Array.getElem?_eq_some_iff.1 h).1).trans h
theorem HoldsS.drew {w : World} {b : Nat} {f : Nat → Bool} (h : HoldsS w b f) : HoldsS w.drew b f := h
theorem HoldsS.lt {w : World} {b : Nat} {f : Nat → Bool} (h : HoldsS w b f) : b < w.heap.size := (Array.getElem?_eq_some_iff.1 h).1
theorem HoldsS.zeros (w : World) {b : Nat} (hb : b = w.heap.size) : HoldsS (w.alloc zeros) b (fun _ => false) := by rw [zeros_eq, hb]; exact HoldsS.made w _
theorem bcell {W w1 : World} {n : Nat} (hb : Below n W w1) : (∀ b o, b < n → w1.cell? ⟨b, o, none⟩ = W.cell? ⟨b, o, none⟩) ∧ (∀ b o, b < n → w1.frozen? ⟨b, o, none⟩ = W.frozen? ⟨b, o, none⟩) :=
  ⟨fun b o h => hb.cell (p := ⟨b, o, none⟩) h, fun b o h => hb.frozen (p := ⟨b, o, none⟩) h⟩


set_option maxHeartbeats 400000 in
theorem put_yes (f : Nat → Bool) (b : Int) (w : World) (h0 : 0 ≤ b) (h1 : b < 256) (hf : f b.toNat = true) :
    Calls Try.prog 13 #[sv f, .int .i64 b] w fun e w' => e = .returned (sv f) ∧ Below w.heap.size w w' := by
  have hA := ((HoldsS.made w f).alloc zeros)
  have hB := HoldsS.zeros (w.alloc (sob f)) (b := w.heap.size + 1) (by simp)
  go_enter Try.func13, Try.ntmps13
  go_wp2_with fail
  refine (refHas_any f b _ h0 h1).mono ?_
  rintro e w1 ⟨rfl, hb1⟩
  have hz1 : w.heap.size + 1 < w1.heap.size := by have := hb1.size; simp at this; omega
  have hA1 := hA.below hb1 (by simp only [World.size_alloc]; omega)
  have hB1 := hB.below hb1 (by simp only [World.size_alloc]; omega)
  obtain ⟨c0, c1, c2, c3⟩ := hA1.cells
  obtain ⟨d0, d1, d2, d3⟩ := hB1.cells
  have fz := hB1.free
  go_wp2_with fail
  exact bodyPost_ret (v := sv f) (by simp [results, Try.results13, go_sem, d0, d1, d2, d3]) rfl ⟨rfl, (by repeat (first | exact Below.refl _ _ | refine Below.setCell ?_ (by simp) _ | refine Below.alloc ?_ (by simp) _ | refine Below.trans ?_ (Below.mono hb1 (by simp; omega))))⟩

set_option maxHeartbeats 400000 in
theorem put_no0 (f : Nat → Bool) (b : Int) (w : World) (h0 : 0 ≤ b) (h1 : b < 256) (hf : f b.toNat = false) (h2 : b / 64 = 0) :
    Calls Try.prog 13 #[sv f, .int .i64 b] w fun e w' => e = .returned (sv (addb f b)) ∧ Below w.heap.size w w' := by
  have hA := ((HoldsS.made w f).alloc zeros)
  have hB := HoldsS.zeros (w.alloc (sob f)) (b := w.heap.size + 1) (by simp)
  have HF := Lib.hid hf
  go_enter Try.func13, Try.ntmps13
  go_wp2_with fail
  refine (refHas_any f b _ h0 h1).mono ?_
  rintro e w1 ⟨rfl, hb1⟩
  have hz1 : w.heap.size + 1 < w1.heap.size := by have := hb1.size; simp at this; omega
  have hA1 := hA.below hb1 (by simp only [World.size_alloc]; omega)
  have hB1 := hB.below hb1 (by simp only [World.size_alloc]; omega)
  go_wp2_with fail
  go_loop [5, 12] (fun x i => ∃ k : Nat, (k : Int) ≤ b % 64 ∧ i = .int .i64 k ∧ x = .int .u64 (pw k)) (fun _ i => (64 - intOf i).toNat)
  case atStart => exact ⟨0, by omega, rfl, rfl⟩
  case round =>
    obtain ⟨k, hk, rfl, rfl⟩ := hrel
    by_cases hlt : (k : Int) < b % 64
    · have hp := pw_twice k (by omega)
      go_wp2
      go_round
      case rel => exact ⟨k + 1, by omega, by go_num, rfl⟩
      case measure => simp [intOf]; omega
    · have hp := addb_plus f 0 k b h0 h2 (by omega) HF.out
      obtain ⟨c0, c1, c2, c3⟩ := hA1.cells
      obtain ⟨d0, d1, d2, d3⟩ := hB1.cells
      have fa := hA1.free
      have fz := hB1.free
      have HE : Hid (sv (addb f b) = .agg #[.int .u64 (wd (addb f b) 0), .int .u64 (wd f 1), .int .u64 (wd f 2), .int .u64 (wd f 3)]) := Lib.hid (by simp only [sv, ← addb_out f 1 b h0 (by omega), ← addb_out f 2 b h0 (by omega), ← addb_out f 3 b h0 (by omega)])
      go_wp2_with fail
      exact bodyPost_ret (v := .agg #[.int .u64 (wd (addb f b) 0), .int .u64 (wd f 1), .int .u64 (wd f 2), .int .u64 (wd f 3)]) (by simp [results, Try.results13, go_sem, d0, d1, d2, d3]) rfl ⟨by rw [HE.out], (by repeat (first | exact Below.refl _ _ | refine Below.setCell ?_ (by simp) _ | refine Below.alloc ?_ (by simp) _ | refine Below.trans ?_ (Below.mono hb1 (by simp; omega))))⟩

set_option maxHeartbeats 400000 in
theorem put_no1 (f : Nat → Bool) (b : Int) (w : World) (h0 : 0 ≤ b) (h1 : b < 256) (hf : f b.toNat = false) (h2 : b / 64 = 1) :
    Calls Try.prog 13 #[sv f, .int .i64 b] w fun e w' => e = .returned (sv (addb f b)) ∧ Below w.heap.size w w' := by
  have hA := ((HoldsS.made w f).alloc zeros)
  have hB := HoldsS.zeros (w.alloc (sob f)) (b := w.heap.size + 1) (by simp)
  have HF := Lib.hid hf
  go_enter Try.func13, Try.ntmps13
  go_wp2_with fail
  refine (refHas_any f b _ h0 h1).mono ?_
  rintro e w1 ⟨rfl, hb1⟩
  have hz1 : w.heap.size + 1 < w1.heap.size := by have := hb1.size; simp at this; omega
  have hA1 := hA.below hb1 (by simp only [World.size_alloc]; omega)
  have hB1 := hB.below hb1 (by simp only [World.size_alloc]; omega)
  go_wp2_with fail
  go_loop [5, 12] (fun x i => ∃ k : Nat, (k : Int) ≤ b % 64 ∧ i = .int .i64 k ∧ x = .int .u64 (pw k)) (fun _ i => (64 - intOf i).toNat)
  case atStart => exact ⟨0, by omega, rfl, rfl⟩
  case round =>
    obtain ⟨k, hk, rfl, rfl⟩ := hrel
    by_cases hlt : (k : Int) < b % 64
    · have hp := pw_twice k (by omega)
      go_wp2
      go_round
      case rel => exact ⟨k + 1, by omega, by go_num, rfl⟩
      case measure => simp [intOf]; omega
    · have hp := addb_plus f 1 k b h0 h2 (by omega) HF.out
      obtain ⟨c0, c1, c2, c3⟩ := hA1.cells
      obtain ⟨d0, d1, d2, d3⟩ := hB1.cells
      have fa := hA1.free
      have fz := hB1.free
      have HE : Hid (sv (addb f b) = .agg #[.int .u64 (wd f 0), .int .u64 (wd (addb f b) 1), .int .u64 (wd f 2), .int .u64 (wd f 3)]) := Lib.hid (by simp only [sv, ← addb_out f 0 b h0 (by omega), ← addb_out f 2 b h0 (by omega), ← addb_out f 3 b h0 (by omega)])
      go_wp2_with fail
      exact bodyPost_ret (v := .agg #[.int .u64 (wd f 0), .int .u64 (wd (addb f b) 1), .int .u64 (wd f 2), .int .u64 (wd f 3)]) (by simp [results, Try.results13, go_sem, d0, d1, d2, d3]) rfl ⟨by rw [HE.out], (by repeat (first | exact Below.refl _ _ | refine Below.setCell ?_ (by simp) _ | refine Below.alloc ?_ (by simp) _ | refine Below.trans ?_ (Below.mono hb1 (by simp; omega))))⟩

set_option maxHeartbeats 400000 in
theorem put_no2 (f : Nat → Bool) (b : Int) (w : World) (h0 : 0 ≤ b) (h1 : b < 256) (hf : f b.toNat = false) (h2 : b / 64 = 2) :
    Calls Try.prog 13 #[sv f, .int .i64 b] w fun e w' => e = .returned (sv (addb f b)) ∧ Below w.heap.size w w' := by
  have hA := ((HoldsS.made w f).alloc zeros)
  have hB := HoldsS.zeros (w.alloc (sob f)) (b := w.heap.size + 1) (by simp)
  have HF := Lib.hid hf
  go_enter Try.func13, Try.ntmps13
  go_wp2_with fail
  refine (refHas_any f b _ h0 h1).mono ?_
  rintro e w1 ⟨rfl, hb1⟩
  have hz1 : w.heap.size + 1 < w1.heap.size := by have := hb1.size; simp at this; omega
  have hA1 := hA.below hb1 (by simp only [World.size_alloc]; omega)
  have hB1 := hB.below hb1 (by simp only [World.size_alloc]; omega)
  go_wp2_with fail
  go_loop [5, 12] (fun x i => ∃ k : Nat, (k : Int) ≤ b % 64 ∧ i = .int .i64 k ∧ x = .int .u64 (pw k)) (fun _ i => (64 - intOf i).toNat)
  case atStart => exact ⟨0, by omega, rfl, rfl⟩
  case round =>
    obtain ⟨k, hk, rfl, rfl⟩ := hrel
    by_cases hlt : (k : Int) < b % 64
    · have hp := pw_twice k (by omega)
      go_wp2
      go_round
      case rel => exact ⟨k + 1, by omega, by go_num, rfl⟩
      case measure => simp [intOf]; omega
    · have hp := addb_plus f 2 k b h0 h2 (by omega) HF.out
      obtain ⟨c0, c1, c2, c3⟩ := hA1.cells
      obtain ⟨d0, d1, d2, d3⟩ := hB1.cells
      have fa := hA1.free
      have fz := hB1.free
      have HE : Hid (sv (addb f b) = .agg #[.int .u64 (wd f 0), .int .u64 (wd f 1), .int .u64 (wd (addb f b) 2), .int .u64 (wd f 3)]) := Lib.hid (by simp only [sv, ← addb_out f 0 b h0 (by omega), ← addb_out f 1 b h0 (by omega), ← addb_out f 3 b h0 (by omega)])
      go_wp2_with fail
      exact bodyPost_ret (v := .agg #[.int .u64 (wd f 0), .int .u64 (wd f 1), .int .u64 (wd (addb f b) 2), .int .u64 (wd f 3)]) (by simp [results, Try.results13, go_sem, d0, d1, d2, d3]) rfl ⟨by rw [HE.out], (by repeat (first | exact Below.refl _ _ | refine Below.setCell ?_ (by simp) _ | refine Below.alloc ?_ (by simp) _ | refine Below.trans ?_ (Below.mono hb1 (by simp; omega))))⟩

set_option maxHeartbeats 400000 in
theorem put_no3 (f : Nat → Bool) (b : Int) (w : World) (h0 : 0 ≤ b) (h1 : b < 256) (hf : f b.toNat = false) (h2 : b / 64 = 3) :
    Calls Try.prog 13 #[sv f, .int .i64 b] w fun e w' => e = .returned (sv (addb f b)) ∧ Below w.heap.size w w' := by
  have hA := ((HoldsS.made w f).alloc zeros)
  have hB := HoldsS.zeros (w.alloc (sob f)) (b := w.heap.size + 1) (by simp)
  have HF := Lib.hid hf
  go_enter Try.func13, Try.ntmps13
  go_wp2_with fail
  refine (refHas_any f b _ h0 h1).mono ?_
  rintro e w1 ⟨rfl, hb1⟩
  have hz1 : w.heap.size + 1 < w1.heap.size := by have := hb1.size; simp at this; omega
  have hA1 := hA.below hb1 (by simp only [World.size_alloc]; omega)
  have hB1 := hB.below hb1 (by simp only [World.size_alloc]; omega)
  go_wp2_with fail
  go_loop [5, 12] (fun x i => ∃ k : Nat, (k : Int) ≤ b % 64 ∧ i = .int .i64 k ∧ x = .int .u64 (pw k)) (fun _ i => (64 - intOf i).toNat)
  case atStart => exact ⟨0, by omega, rfl, rfl⟩
  case round =>
    obtain ⟨k, hk, rfl, rfl⟩ := hrel
    by_cases hlt : (k : Int) < b % 64
    · have hp := pw_twice k (by omega)
      go_wp2
      go_round
      case rel => exact ⟨k + 1, by omega, by go_num, rfl⟩
      case measure => simp [intOf]; omega
    · have hp := addb_plus f 3 k b h0 h2 (by omega) HF.out
      obtain ⟨c0, c1, c2, c3⟩ := hA1.cells
      obtain ⟨d0, d1, d2, d3⟩ := hB1.cells
      have fa := hA1.free
      have fz := hB1.free
      have HE : Hid (sv (addb f b) = .agg #[.int .u64 (wd f 0), .int .u64 (wd f 1), .int .u64 (wd f 2), .int .u64 (wd (addb f b) 3)]) := Lib.hid (by simp only [sv, ← addb_out f 0 b h0 (by omega), ← addb_out f 1 b h0 (by omega), ← addb_out f 2 b h0 (by omega)])
      go_wp2_with fail
      exact bodyPost_ret (v := .agg #[.int .u64 (wd f 0), .int .u64 (wd f 1), .int .u64 (wd f 2), .int .u64 (wd (addb f b) 3)]) (by simp [results, Try.results13, go_sem, d0, d1, d2, d3]) rfl ⟨by rw [HE.out], (by repeat (first | exact Below.refl _ _ | refine Below.setCell ?_ (by simp) _ | refine Below.alloc ?_ (by simp) _ | refine Below.trans ?_ (Below.mono hb1 (by simp; omega))))⟩

theorem addb_same (f : Nat → Bool) (b : Int) (hf : f b.toNat = true) : addb f b = f := by
  funext x
  unfold addb
  by_cases h : x = b.toNat
  · subst h; simp [hf]
  · simp [h]

theorem put_any (f : Nat → Bool) (b : Int) (w : World) (h0 : 0 ≤ b) (h1 : b < 256) :
    Calls Try.prog 13 #[sv f, .int .i64 b] w fun e w' => e = .returned (sv (addb f b)) ∧ Below w.heap.size w w' := by
  cases hf : f b.toNat
  · rcases idx_split b h0 h1 with h2 | h2 | h2 | h2
    · exact put_no0 f b w h0 h1 hf h2
    · exact put_no1 f b w h0 h1 hf h2
    · exact put_no2 f b w h0 h1 hf h2
    · exact put_no3 f b w h0 h1 hf h2
  · rw [addb_same f b hf]
    exact put_yes f b w h0 h1 hf

end Go.Proofs.Ytbmejpghoafapaa
