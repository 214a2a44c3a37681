/-
  The events as they come in: a slice of a struct of three fields, opened.
-/
import Derived.Test.YtjlhipnlacfekaaTe
import Derived.WalkKit
import Derived.ProofKit
import Derived.OpenShut
import Derived.ShutString
import Derived.ChangeOld
import Derived.ChangeSame
namespace Go.Proofs.Ytjlhipnlacfekaa.Tm
open Go.ChangeShapes Go.WideShapes Go.ChangeAt Go.RowKit Go
set_option linter.unusedSimpArgs false
set_option linter.unusedVariables false

theorem cells_at {w : World} {base : Nat} {a : Addr} {k : Nat} {cs : List Value} (h : w.cells? base a k = some cs) : cs.length = k ∧ ∀ j, j < k → w.cell? (a.add j) = cs[j]? := by
  unfold World.cells? at h
  split at h
  · refine ⟨by simpa using mapM_some_length h, fun j hj => ?_⟩
    have := mapM_some_get h j j (by rw [List.getElem?_range hj])
    exact this
  · cases h

theorem evs_of {H : Type} {enc : TypeId × Value → H} {W : World} {b0 : Nat} {sp : Nat → Bool} {held : Bool} {ao : Option Addr} {len cap : Nat} {d : DataW H} {p : List MemPlace} (h : DataW.Trod enc Try.prog W b0 sp held 22 (.slice ao len cap) d p) :
    len ≤ maxLen ∧ ∀ i, i < len → ∃ x k m s, ao = some x ∧ W.cell? (x.add (i * 3)) = some (.int .i64 k) ∧ W.cell? ⟨(x.add (i * 3)).block, (x.add (i * 3)).off + 1, none⟩ = some (.int .i64 m) ∧ W.cell? ⟨(x.add (i * 3)).block, (x.add (i * 3)).off + 2, none⟩ = some (.string s) := by
  obtain ⟨fuel, hf⟩ := h
  simp only [Value.cells] at hf
  rcases DataW.trod_slice Try.underlying22 hf with ⟨hcs, _⟩ | ⟨a, l, c, elems, rest, n, _, hcs, _, _, hl, hm, hlen, hel, _⟩
  · simp at hcs
    obtain ⟨rfl, rfl, rfl⟩ := hcs
    exact ⟨Nat.zero_le _, fun i hi => absurd hi (Nat.not_lt_zero _)⟩
  · simp at hcs
    obtain ⟨rfl, rfl, rfl⟩ := hcs
    refine ⟨Nat.le_trans hl hm, fun i hi => ?_⟩
    have h1 := hel i hi
    have c26 : Try.prog.cellsOf 26 = 3 := by kernel_rfl
    rw [c26, List.getElem?_eq_getElem (by omega), Option.bind_eq_some_iff] at h1
    obtain ⟨cs, hc, ht⟩ := h1
    obtain ⟨hcl, hca⟩ := cells_at hc
    obtain ⟨xs, m', _, _, hl3, hxl, hfs⟩ := DataW.trod_struct Try.underlying26 ht
    match xs, hxl with
    | [y0, y1, y2], _ =>
      have f0 := hfs 0 _ rfl
      have f1 := hfs 1 _ rfl
      have f2 := hfs 2 _ rfl
      have c3 : Try.prog.cellsOf 3 = 1 := by kernel_rfl
      have c9 : Try.prog.cellsOf 9 = 1 := by kernel_rfl
      match cs, hcl with
      | [v0, v1, v2], _ =>
        simp [c3, c9] at f0 f1 f2
        obtain ⟨k, e0, _⟩ := DataW.trod_int Try.underlying3 f0
        obtain ⟨m, e1, _⟩ := DataW.trod_int Try.underlying3 f1
        obtain ⟨s, e2, _⟩ := DataW.trod_string Try.underlying9 f2
        simp at e0 e1 e2
        subst e0 e1 e2
        refine ⟨a, k, m, s, rfl, ?_, ?_, ?_⟩
        · have := hca 0 (by decide)
          simpa [Addr.add] using this
        · have := hca 1 (by decide)
          simpa [Addr.add] using this
        · have := hca 2 (by decide)
          simpa [Addr.add] using this

end Go.Proofs.Ytjlhipnlacfekaa.Tm
