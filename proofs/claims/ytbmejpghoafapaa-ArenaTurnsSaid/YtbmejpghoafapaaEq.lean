/-
  '==' on two sets: as they are, byte by byte.
-/
import Derived.Test.YtbmejpghoafapaaSets
import Derived.DeepKeys4
namespace Go.Proofs.Ytbmejpghoafapaa
open Go.RowKit

/-- Two sets have the same bytes. -/
def eqS (f g : Nat → Bool) : Bool := (List.range 256).all fun b => f b == g b
theorem eqS_iff {f g : Nat → Bool} : eqS f g = true ↔ ∀ b, b < 256 → f b = g b := by
  simp [eqS]
@[go_sem] theorem eqS_self (f : Nat → Bool) : eqS f f = true := by simp [eqS]
theorem eqS_words {f g : Nat → Bool} : eqS f g = true ↔ wd f 0 = wd g 0 ∧ wd f 1 = wd g 1 ∧ wd f 2 = wd g 2 ∧ wd f 3 = wd g 3 := by
  rw [eqS_iff]
  constructor
  · intro h
    exact ⟨wd_ext fun k hk => h _ (by omega), wd_ext fun k hk => h _ (by omega), wd_ext fun k hk => h _ (by omega), wd_ext fun k hk => h _ (by omega)⟩
  · intro ⟨h0, h1, h2, h3⟩ b hb
    have key : ∀ i, wd f i = wd g i → b / 64 = i → f b = g b := fun i h hi => by
      have := wd_inj h (b % 64) (by omega)
      rwa [show 64 * i + b % 64 = b from by omega] at this
    have : b / 64 = 0 ∨ b / 64 = 1 ∨ b / 64 = 2 ∨ b / 64 = 3 := by omega
    rcases this with h | h | h | h
    · exact key 0 h0 h
    · exact key 1 h1 h
    · exact key 2 h2 h
    · exact key 3 h3 h

theorem Try.cells24 : Try.prog.cellsOf 24 = 1 := by kernel_rfl
theorem Try.cells26 : Try.prog.cellsOf 26 = 4 := by kernel_rfl
theorem Try.key26 : Try.prog.keyTypeAt 2 26 = true := by kernel_rfl
theorem keyLits_word (d : Nat) (f : Nat → Bool) (i : Nat) : Try.prog.keyLits (d + 1) 24 [.int .u64 (wd f i)] = some [.int .u64 (wd f i)] := by
  simp [Program.keyLits, Try.underlying24, wd_wf]
theorem keyLits_set (f : Nat → Bool) : Try.prog.keyLits 2 26 [.int .u64 (wd f 0), .int .u64 (wd f 1), .int .u64 (wd f 2), .int .u64 (wd f 3)] = some [.int .u64 (wd f 0), .int .u64 (wd f 1), .int .u64 (wd f 2), .int .u64 (wd f 3)] := by
  unfold Program.keyLits
  simp [Try.underlying26, Try.cells24, Try.cells26, List.range_succ, keyLits_word]

@[go_sem] theorem run_eq_set (d : Nat) (f g : Nat → Bool) (w : World) :
    (Op.equalIn (d + 2) 26 (.agg #[.int .u64 (wd f 0), .int .u64 (wd f 1), .int .u64 (wd f 2), .int .u64 (wd f 3)]) (.agg #[.int .u64 (wd g 0), .int .u64 (wd g 1), .int .u64 (wd g 2), .int .u64 (wd g 3)])).run Try.prog w = .ok (eqS f g) w := by
  obtain ⟨r, hr, hiff⟩ := run_equalIn_deep d 2 26 Try.key26 w 2 2 (sv f) (sv g) _ _ (by simp [Value.formed, Try.underlying26, Try.cells26]) (by simp [Value.formed, Try.underlying26, Try.cells26]) (keyLits_set f) (keyLits_set g)
  rw [hr]
  congr 1
  rw [Bool.eq_iff_iff, hiff, eqS_words]
  simp
@[go_sem] theorem run_eq_set10000 (f g : Nat → Bool) (w : World) :
    (Op.equalIn 10000 26 (.agg #[.int .u64 (wd f 0), .int .u64 (wd f 1), .int .u64 (wd f 2), .int .u64 (wd f 3)]) (.agg #[.int .u64 (wd g 0), .int .u64 (wd g 1), .int .u64 (wd g 2), .int .u64 (wd g 3)])).run Try.prog w = .ok (eqS f g) w := run_eq_set 9998 f g w

end Go.Proofs.Ytbmejpghoafapaa
