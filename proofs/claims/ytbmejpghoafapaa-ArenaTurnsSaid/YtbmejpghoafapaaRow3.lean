/-
  What nodes and slices of nodes among the arguments read as.
-/
import Derived.Test.YtbmejpghoafapaaRow2
import Derived.Test.YtbmejpghoafapaaArena2
namespace Go.Proofs.Ytbmejpghoafapaa
open Go.ChangeShapes Go.WideShapes Go.ChangeAt Go.RowKit Go.Deep

theorem node_cells {W : World} {H : Type} {enc : TypeId × Value → H} {base fuel : Nat} {sp : Nat → Bool} {held : Bool} {cs : List Value} {x : DataW H × List MemPlace} (h : DataW.trod enc Try.prog W base sp held fuel 56 cs = some x) :
    ∃ n : Nd, n.ok ∧ cs = n.cells := by
  obtain ⟨xs, m, _, _, hlen, hxl, hxs⟩ := DataW.trod_struct Try.underlying56 h
  rw [Try.cells56] at hlen
  have hxl' : xs.length = 5 := by simpa using hxl
  have h0 : DataW.trod enc Try.prog W base sp held m 3 ((cs.drop 0).take (Try.prog.cellsOf 3)) = xs[0]? := hxs 0 _ rfl
  have h1 : DataW.trod enc Try.prog W base sp held m 26 ((cs.drop 1).take (Try.prog.cellsOf 26)) = xs[1]? := hxs 1 _ rfl
  have h2 : DataW.trod enc Try.prog W base sp held m 3 ((cs.drop 5).take (Try.prog.cellsOf 3)) = xs[2]? := hxs 2 _ rfl
  have h3 : DataW.trod enc Try.prog W base sp held m 3 ((cs.drop 6).take (Try.prog.cellsOf 3)) = xs[3]? := hxs 3 _ rfl
  have h4 : DataW.trod enc Try.prog W base sp held m 4 ((cs.drop 7).take (Try.prog.cellsOf 4)) = xs[4]? := hxs 4 _ rfl
  rw [Try.cells3] at h0 h2 h3
  rw [Try.cells26n] at h1
  rw [Try.cells4] at h4
  rw [List.getElem?_eq_getElem (by omega)] at h0 h1 h2 h3 h4
  match cs, hlen with
  | [c0, c1, c2, c3, c4, c5, c6, c7], _ =>
    obtain ⟨k, e0, _, wk⟩ := DataW.trod_int Try.underlying3 h0
    obtain ⟨f, e1⟩ := set_cells h1
    obtain ⟨a, e2, _, wa⟩ := DataW.trod_int Try.underlying3 h2
    obtain ⟨b, e3, _, wb⟩ := DataW.trod_int Try.underlying3 h3
    obtain ⟨g, e4, _⟩ := DataW.trod_bool Try.underlying4 h4
    simp at e0 e1 e2 e3 e4
    obtain ⟨rfl, rfl, rfl, rfl⟩ := e1
    subst e0 e2 e3 e4
    exact ⟨⟨k, f, a, b, g⟩, ⟨wk, wa, wb⟩, rfl⟩
theorem okWide_agg56 {W : World} {base : Nat} {v : Value} (h : Value.okWide Try.prog W .any base 56 v) : ∃ cs, v = .agg cs := by
  simp only [Value.okWide, Try.underlying56] at h
  obtain ⟨cs, h1, _⟩ := h
  exact ⟨cs, h1⟩
theorem node_arg {W : World} {H : Type} {enc : TypeId × Value → H} {base : Nat} {v : Value} {d : DataW H} {p : List MemPlace} (hok : Value.okWide Try.prog W .any base 56 v) (h : DataW.Trod enc Try.prog W 0 (fun _ => true) true 56 v d p) :
    ∃ n : Nd, n.ok ∧ v = n.v := by
  obtain ⟨cs, rfl⟩ := okWide_agg56 hok
  obtain ⟨fuel, hf⟩ := h
  obtain ⟨n, hn, hcs⟩ := node_cells hf
  refine ⟨n, hn, ?_⟩
  have : cs = n.cells.toArray := by
    apply Array.toList_inj.1
    simpa [Value.cells] using hcs
  rw [this]

instance : Inhabited Nd := ⟨⟨0, fun _ => false, 0, 0, false⟩⟩
/-- A slice of nodes that reads as a list. -/
def NodesAt (w : World) (v : Value) (l : List Nd) : Prop :=
  ∃ a cap, v = .slice a l.length cap ∧ (l ≠ [] → ∃ b off, a = some ⟨b, off, none⟩ ∧ ∀ i n, l[i]? = some n → ∀ j, j < 8 → w.cell? ⟨b, off + (i * 8 + j), none⟩ = n.cells[j]?)
theorem NodesAt.below {w w' : World} {n : Nat} {v : Value} {l : List Nd} (h : NodesAt w v l) (hb : Below n w w') (hn : w.heap.size ≤ n) : NodesAt w' v l := by
  obtain ⟨a, cap, rfl, hs⟩ := h
  refine ⟨a, cap, rfl, fun hl => ?_⟩
  obtain ⟨b, off, rfl, hc⟩ := hs hl
  refine ⟨b, off, rfl, fun i f hi j hj => ?_⟩
  have h0 := hc i f hi j hj
  obtain ⟨v, hv⟩ : ∃ v, f.cells[j]? = some v := ⟨f.cells[j]'(by simpa using hj), List.getElem?_eq_getElem _⟩
  rw [hv] at h0 ⊢
  exact cell_later (hb.mono hn) h0
theorem nodes_in {W : World} {H : Type} {enc : TypeId × Value → H} {a : Option Addr} {len cap : Nat} {d : DataW H} {p : List MemPlace} (h : DataW.Trod enc Try.prog W 0 (fun _ => true) true 48 (.slice a len cap) d p) :
    ∃ l : List Nd, l.length = len ∧ len ≤ maxLen ∧ (∀ n ∈ l, n.ok) ∧ NodesAt W (.slice a len cap) l := by
  obtain ⟨fuel, hf⟩ := h
  rcases open_slice Try.underlying48 hf with ⟨hcs, _⟩ | ⟨x, len', cap', m, n, D, Pl, hcs, _, hl, hm, hmm, _, hx⟩
  · simp [Value.cells] at hcs
    obtain ⟨rfl, rfl, rfl⟩ := hcs
    exact ⟨[], rfl, Nat.zero_le _, by simp, none, 0, rfl, fun h => (h rfl).elim⟩
  · simp [Value.cells] at hcs
    obtain ⟨rfl, rfl, rfl⟩ := hcs
    rw [Try.cells56] at hx
    simp at hmm
    subst hmm
    have hf : ∃ F : Nat → Nd, ∀ i, i < m → (F i).ok ∧ ∀ j, j < 8 → W.cell? (x.add (i * 8 + j)) = (F i).cells[j]? := by
      refine choose_lt (α := Nd) (p := fun i n => n.ok ∧ ∀ j, j < 8 → W.cell? (x.add (i * 8 + j)) = n.cells[j]?) fun i hi => ?_
      obtain ⟨cs', h1, h2⟩ := hx i hi
      obtain ⟨n, hn, rfl⟩ := node_cells h2
      refine ⟨n, hn, fun j hj => ?_⟩
      obtain ⟨_, hlen, hcell⟩ := World.cells?_some h1
      have := hcell j hj
      rwa [Go.Deep.add_add] at this
    obtain ⟨F, hF⟩ := hf
    refine ⟨(List.range len).map F, by simp, Nat.le_trans hl hm, ?_, some x, m, by simp, fun hne => ?_⟩
    · intro n hn
      obtain ⟨i, hi, rfl⟩ := List.mem_map.1 hn
      exact (hF i (by have := List.mem_range.1 hi; omega)).1
    have hlen0 : 0 < len := by
      rcases Nat.eq_zero_or_pos len with h | h
      · subst h; simp at hne
      · exact h
    obtain ⟨b, off, spot⟩ := x
    have hc := (hF 0 (by omega)).2 0 (by omega)
    have hspot : spot = none := by
      have hc' : W.cell? ((⟨b, off, spot⟩ : Addr).add 0) = some (.int .i64 (F 0).kind) := hc
      simpa [Addr.add] using World.cell?_spot hc'
    subst hspot
    refine ⟨b, off, rfl, fun i n hi j hj => ?_⟩
    have hil : i < len := by
      rcases Nat.lt_or_ge i len with h1 | h1
      · exact h1
      · rw [List.getElem?_eq_none (by simp; omega)] at hi; cases hi
    have hn : n = F i := by
      rw [List.getElem?_map, List.getElem?_range hil] at hi
      simpa using hi.symm
    subst hn
    have := (hF i (by omega)).2 j hj
    rwa [addr_add] at this

end Go.Proofs.Ytbmejpghoafapaa
