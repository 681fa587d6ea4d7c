/-
  What the laws' arguments read as: bytes, slices of bytes, sets.
-/
import Derived.Test.YtbmejpghoafapaaSets
import Derived.ProofKit
import Derived.OpenShut
import Derived.ChangeOld
namespace Go.Proofs.Ytbmejpghoafapaa
open Go.ChangeShapes Go.WideShapes Go.ChangeAt Go.RowKit

theorem Try.own : ownKnob Try.prog.godebug = none := by kernel_rfl
theorem Try.laidOut : laidOutB Try.prog = true := by kernel_rfl
theorem Try.cellsOf24 : Try.prog.cellsOf 24 = 1 := by kernel_rfl
theorem Try.cellsOf26 : Try.prog.cellsOf 26 = 4 := by kernel_rfl
theorem Try.rec26 : Try.prog.readableRec 26 = true := by kernel_rfl
theorem Try.row26 : (26 : TypeId) < Try.prog.types.size := of_decide_eq_true (by kernel_rfl)

/-- Four cells that read as a set are one. -/
theorem set_cells {W : World} {H : Type} {enc : TypeId × Value → H} {base fuel : Nat} {sp : Nat → Bool} {held : Bool} {cs : List Value} {x : DataW H × List MemPlace} (h : DataW.trod enc Try.prog W base sp held fuel 26 cs = some x) :
    ∃ f : Nat → Bool, cs = [.int .u64 (wd f 0), .int .u64 (wd f 1), .int .u64 (wd f 2), .int .u64 (wd f 3)] := by
  obtain ⟨xs, m, _, _, hlen, hxl, hxs⟩ := DataW.trod_array Try.underlying26 h
  rw [Try.cellsOf26] at hlen
  rw [Try.cellsOf24] at hxs
  match cs, hlen with
  | [c0, c1, c2, c3], _ =>
    have g : ∀ (i : Nat) (c : Value), i < 4 → (([c0, c1, c2, c3].drop (i * 1)).take 1) = [c] → ∃ a, c = .int .u64 a ∧ 0 ≤ a ∧ a < 18446744073709551616 := by
      intro i c hi hc
      have h1 := hxs i hi
      rw [hc] at h1
      have hi' : i < xs.length := by omega
      rw [List.getElem?_eq_getElem hi'] at h1
      obtain ⟨a, e0, _, wa⟩ := DataW.trod_int Try.underlying24 h1
      simp at e0
      refine ⟨a, e0, ?_⟩
      simp [Lit.wf, IntKind.min, IntKind.max, IntKind.signed, IntKind.bits] at wa
      omega
    obtain ⟨a0, rfl, w0⟩ := g 0 c0 (by omega) rfl
    obtain ⟨a1, rfl, w1⟩ := g 1 c1 (by omega) rfl
    obtain ⟨a2, rfl, w2⟩ := g 2 c2 (by omega) rfl
    obtain ⟨a3, rfl, w3⟩ := g 3 c3 (by omega) rfl
    obtain ⟨f, rfl, rfl, rfl, rfl⟩ := words_of a0 a1 a2 a3 w0 w1 w2 w3
    exact ⟨f, rfl⟩

theorem okWide_agg26 {W : World} {base : Nat} {v : Value} (h : Value.okWide Try.prog W .any base 26 v) : ∃ cs, v = .agg cs := by
  simp only [Value.okWide, Try.underlying26] at h
  obtain ⟨cs, h1, _⟩ := h
  exact ⟨cs, h1⟩

/-- A set that came in. -/
theorem set_in {W : World} {H : Type} {enc : TypeId × Value → H} {base : Nat} {v : Value} {d : DataW H} {p : List MemPlace} (hok : Value.okWide Try.prog W .any base 26 v) (h : DataW.Trod enc Try.prog W 0 (fun _ => true) true 26 v d p) : ∃ f : Nat → Bool, v = sv f := by
  obtain ⟨cs, rfl⟩ := okWide_agg26 hok
  obtain ⟨fuel, hf⟩ := h
  obtain ⟨f, hf⟩ := set_cells hf
  refine ⟨f, ?_⟩
  have : cs = #[.int .u64 (wd f 0), .int .u64 (wd f 1), .int .u64 (wd f 2), .int .u64 (wd f 3)] := by
    apply Array.toList_inj.1
    simpa [Value.cells] using hf
  rw [this]

end Go.Proofs.Ytbmejpghoafapaa
