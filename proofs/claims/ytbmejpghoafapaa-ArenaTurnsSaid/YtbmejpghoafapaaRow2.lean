/-
  What the laws' arguments read as: slices of sets, classes.
-/
import Derived.Test.YtbmejpghoafapaaRow
import Derived.Test.YtbmejpghoafapaaMake
import Derived.Deep.Slices
namespace Go.Proofs.Ytbmejpghoafapaa
open Go.ChangeShapes Go.WideShapes Go.ChangeAt Go.RowKit Go.Deep

theorem addr_add (b off i : Nat) : (⟨b, off, none⟩ : Addr).add i = ⟨b, off + i, none⟩ := by unfold Addr.add; split <;> simp_all

/-- A slice of sets that came in reads as a list of sets. -/
theorem sets_in {W : World} {H : Type} {enc : TypeId × Value → H} {a : Option Addr} {len cap : Nat} {d : DataW H} {p : List MemPlace} (h : DataW.Trod enc Try.prog W 0 (fun _ => true) true 38 (.slice a len cap) d p) :
    ∃ l : List (Nat → Bool), l.length = len ∧ len ≤ maxLen ∧ SetsAt W (.slice a len cap) l := by
  obtain ⟨fuel, hf⟩ := h
  rcases open_slice Try.underlying38 hf with ⟨hcs, _⟩ | ⟨x, len', cap', m, n, D, Pl, hcs, _, hl, hm, hmm, _, hx⟩
  · simp [Value.cells] at hcs
    obtain ⟨rfl, rfl, rfl⟩ := hcs
    exact ⟨[], rfl, Nat.zero_le _, none, 0, rfl, fun h => (h rfl).elim⟩
  · simp [Value.cells] at hcs
    obtain ⟨rfl, rfl, rfl⟩ := hcs
    rw [Try.cellsOf26] at hx
    simp at hmm
    subst hmm
    have hf : ∃ F : Nat → (Nat → Bool), ∀ i, i < m → ∀ j, j < 4 → W.cell? (x.add (i * 4 + j)) = ([Value.int .u64 (wd (F i) 0), .int .u64 (wd (F i) 1), .int .u64 (wd (F i) 2), .int .u64 (wd (F i) 3)])[j]? := by
      refine choose_lt (α := Nat → Bool) (p := fun i f => ∀ j, j < 4 → W.cell? (x.add (i * 4 + j)) = ([Value.int .u64 (wd f 0), .int .u64 (wd f 1), .int .u64 (wd f 2), .int .u64 (wd f 3)])[j]?) fun i hi => ?_
      obtain ⟨cs', h1, h2⟩ := hx i hi
      obtain ⟨f, rfl⟩ := set_cells h2
      refine ⟨f, fun j hj => ?_⟩
      obtain ⟨_, hlen, hcell⟩ := World.cells?_some h1
      have := hcell j hj
      rwa [Go.Deep.add_add] at this
    obtain ⟨F, hF⟩ := hf
    refine ⟨(List.range len).map F, by simp, Nat.le_trans hl hm, some x, m, by simp, fun hne => ?_⟩
    have hlen0 : 0 < len := by
      rcases Nat.eq_zero_or_pos len with h | h
      · subst h; simp at hne
      · exact h
    obtain ⟨b, off, spot⟩ := x
    have hc := hF 0 (by omega) 0 (by omega)
    have hspot : spot = none := by
      have hc' : W.cell? ((⟨b, off, spot⟩ : Addr).add 0) = some (.int .u64 (wd (F 0) 0)) := hc
      simpa [Addr.add] using World.cell?_spot hc'
    subst hspot
    refine ⟨b, off, rfl, fun i f hi => ?_⟩
    have hil : i < len := by
      have := (List.getElem?_eq_some_iff.1 hi).1
      simpa using this
    have hfe : f = F i := by simp [hil] at hi; exact hi.symm
    subst hfe
    have key : ∀ j, j < 4 → W.cell? ⟨b, off + i * 4 + j, none⟩ = ([Value.int .u64 (wd (F i) 0), .int .u64 (wd (F i) 1), .int .u64 (wd (F i) 2), .int .u64 (wd (F i) 3)])[j]? := fun j hj => by
      have := hF i (by omega) j hj
      rwa [addr_add, show off + (i * 4 + j) = off + i * 4 + j from by omega] at this
    exact ⟨key 0 (by omega), key 1 (by omega), key 2 (by omega), key 3 (by omega)⟩

/-! ### Classes -/
theorem Try.cellsOf39 : Try.prog.cellsOf 39 = 256 := by kernel_rfl
theorem Try.cellsOf41 : Try.prog.cellsOf 41 = 257 := by kernel_rfl
theorem Try.cellsOf3 : Try.prog.cellsOf 3 = 1 := by kernel_rfl

theorem cls_cells {W : World} {H : Type} {enc : TypeId × Value → H} {base fuel : Nat} {sp : Nat → Bool} {held : Bool} {cs : List Value} {x : DataW H × List MemPlace} (h : DataW.trod enc Try.prog W base sp held fuel 41 cs = some x) :
    ∃ (o : Nat → Int) (n : Int), cs = cvL o n ∧ ∀ i, i < 256 → 0 ≤ o i ∧ o i < 256 := by
  obtain ⟨xs, m, _, _, hlen, hxl, hxs⟩ := DataW.trod_struct Try.underlying41 h
  rw [Try.cellsOf41] at hlen
  have h0 : DataW.trod enc Try.prog W base sp held m 39 ((cs.drop 0).take (Try.prog.cellsOf 39)) = xs[0]? := hxs 0 _ rfl
  have h1 : DataW.trod enc Try.prog W base sp held m 3 ((cs.drop 256).take (Try.prog.cellsOf 3)) = xs[1]? := hxs 1 _ rfl
  rw [Try.cellsOf39, List.drop_zero] at h0
  rw [Try.cellsOf3] at h1
  have hxl' : xs.length = 2 := by simpa using hxl
  rw [List.getElem?_eq_getElem (by omega)] at h0 h1
  obtain ⟨n, hn, _, _⟩ := DataW.trod_int Try.underlying3 h1
  obtain ⟨ys, m', _, _, hlen2, hyl, hys⟩ := DataW.trod_array Try.underlying39 h0
  rw [Try.cells5] at hys
  have ho : ∃ o : Nat → Int, ∀ i, i < 256 → cs[i]? = some (.int .u8 (o i)) ∧ 0 ≤ o i ∧ o i < 256 := by
    refine choose_lt (α := Int) (p := fun i c => cs[i]? = some (.int .u8 c) ∧ 0 ≤ c ∧ c < 256) fun i hi => ?_
    have h2 := hys i hi
    rw [List.getElem?_eq_getElem (by omega)] at h2
    obtain ⟨c, hc, _, wc⟩ := DataW.trod_int Try.underlying5 h2
    refine ⟨c, ?_, ?_⟩
    · have h3 := congrArg (fun l => l[0]?) hc
      simp [List.getElem?_drop, hi] at h3
      exact h3
    · simp [Lit.wf, IntKind.min, IntKind.max, IntKind.signed, IntKind.bits] at wc
      omega
  obtain ⟨o, ho⟩ := ho
  refine ⟨o, n, ?_, fun i hi => (ho i hi).2⟩
  apply List.ext_getElem?
  intro i
  rcases Nat.lt_trichotomy i 256 with h2 | h2 | h2
  · rw [(ho i h2).1, cvL_of o n i h2]
  · subst h2
    rw [cvL_n]
    have h3 := congrArg (fun l => l[0]?) hn
    simpa [List.getElem?_take, List.getElem?_drop] using h3
  · rw [List.getElem?_eq_none (by omega), List.getElem?_eq_none (by rw [cvL_length]; omega)]

theorem okWide_agg41 {W : World} {base : Nat} {v : Value} (h : Value.okWide Try.prog W .any base 41 v) : ∃ cs, v = .agg cs := by
  simp only [Value.okWide, Try.underlying41] at h
  obtain ⟨cs, h1, _⟩ := h
  exact ⟨cs, h1⟩
/-- Classes that came in. -/
theorem cls_in {W : World} {H : Type} {enc : TypeId × Value → H} {base : Nat} {v : Value} {d : DataW H} {p : List MemPlace} (hok : Value.okWide Try.prog W .any base 41 v) (h : DataW.Trod enc Try.prog W 0 (fun _ => true) true 41 v d p) :
    ∃ (o : Nat → Int) (n : Int), v = cv o n ∧ ∀ i, i < 256 → 0 ≤ o i ∧ o i < 256 := by
  obtain ⟨cs, rfl⟩ := okWide_agg41 hok
  obtain ⟨fuel, hf⟩ := h
  obtain ⟨o, n, hcs, hr⟩ := cls_cells hf
  refine ⟨o, n, ?_, hr⟩
  have : cs = cvA o n := by
    apply Array.toList_inj.1
    simpa [Value.cells, cvA] using hcs
  rw [this]

end Go.Proofs.Ytbmejpghoafapaa
