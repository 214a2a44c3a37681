/-
  The calls as they come in: a slice of a struct with a datagram in it, opened.
-/
import Derived.Test.YtjlhipnlacfekaaEv
namespace Go.Proofs.Ytjlhipnlacfekaa.Tm
open Go.ChangeShapes Go.WideShapes Go.ChangeAt Go.RowKit Go
set_option linter.unusedSimpArgs false
set_option linter.unusedVariables false

/-- The eight cells of a call. -/
def acells (k : Int) (s : ByteArray) (c : Int) (u : Bool) (ep sq ak : Int) (b : ByteArray) : List Value := [.int .i64 k, .string s, .int .i64 c, .bool u, .int .i64 ep, .int .i64 sq, .int .i64 ak, .string b]

theorem gram_of {H : Type} {enc : TypeId × Value → H} {W : World} {b0 : Nat} {sp : Nat → Bool} {held : Bool} {fuel : Nat} {cs : List Value} {x : DataW H × List MemPlace} (hl : cs.length = 6) (h : DataW.trod enc Try.prog W b0 sp held fuel 41 cs = some x) :
    ∃ c u ep sq ak b, cs = [.int .i64 c, .bool u, .int .i64 ep, .int .i64 sq, .int .i64 ak, .string b] := by
  obtain ⟨xs, m', _, _, _, hxl, hfs⟩ := DataW.trod_struct Try.underlying41 h
  have c3 : Try.prog.cellsOf 3 = 1 := by kernel_rfl
  have c4 : Try.prog.cellsOf 4 = 1 := by kernel_rfl
  have c9 : Try.prog.cellsOf 9 = 1 := by kernel_rfl
  match xs, hxl with
  | [y0, y1, y2, y3, y4, y5], _ =>
    have f0 := hfs 0 _ rfl
    have f1 := hfs 1 _ rfl
    have f2 := hfs 2 _ rfl
    have f3 := hfs 3 _ rfl
    have f4 := hfs 4 _ rfl
    have f5 := hfs 5 _ rfl
    match cs, hl with
    | [v0, v1, v2, v3, v4, v5], _ =>
      simp [c3, c4, c9] at f0 f1 f2 f3 f4 f5
      obtain ⟨k0, e0, _⟩ := DataW.trod_int Try.underlying3 f0
      obtain ⟨k1, e1, _⟩ := DataW.trod_bool Try.underlying4 f1
      obtain ⟨k2, e2, _⟩ := DataW.trod_int Try.underlying3 f2
      obtain ⟨k3, e3, _⟩ := DataW.trod_int Try.underlying3 f3
      obtain ⟨k4, e4, _⟩ := DataW.trod_int Try.underlying3 f4
      obtain ⟨k5, e5, _⟩ := DataW.trod_string Try.underlying9 f5
      simp at e0 e1 e2 e3 e4 e5
      subst e0 e1 e2 e3 e4 e5
      exact ⟨_, _, _, _, _, _, rfl⟩

theorem acts_of {H : Type} {enc : TypeId × Value → H} {W : World} {b0 : Nat} {sp : Nat → Bool} {held : Bool} {ao : Option Addr} {len cap : Nat} {d : DataW H} {p : List MemPlace} (h : DataW.Trod enc Try.prog W b0 sp held 50 (.slice ao len cap) d p) :
    len ≤ maxLen ∧ ∀ i, i < len → ∃ x k s c u ep sq ak b, ao = some x ∧ ∀ f v, f < 8 → (acells k s c u ep sq ak b)[f]? = some v → W.cell? ((x.add (i * 8)).add f) = some v := by
  obtain ⟨fuel, hf⟩ := h
  simp only [Value.cells] at hf
  rcases DataW.trod_slice Try.underlying50 hf with ⟨hcs, _⟩ | ⟨a, l, c, elems, rest, n, _, hcs, _, _, hl, hm, hlen, hel, _⟩
  · simp at hcs
    obtain ⟨rfl, rfl, rfl⟩ := hcs
    exact ⟨Nat.zero_le _, fun i hi => absurd hi (Nat.not_lt_zero _)⟩
  · simp at hcs
    obtain ⟨rfl, rfl, rfl⟩ := hcs
    refine ⟨Nat.le_trans hl hm, fun i hi => ?_⟩
    have h1 := hel i hi
    have c54 : Try.prog.cellsOf 54 = 8 := by kernel_rfl
    rw [c54, List.getElem?_eq_getElem (by omega), Option.bind_eq_some_iff] at h1
    obtain ⟨cs, hc, ht⟩ := h1
    obtain ⟨hcl, hca⟩ := cells_at hc
    obtain ⟨xs, m', _, _, hl3, hxl, hfs⟩ := DataW.trod_struct Try.underlying54 ht
    match xs, hxl with
    | [y0, y1, y2], _ =>
      have f0 := hfs 0 _ rfl
      have f1 := hfs 1 _ rfl
      have f2 := hfs 2 _ rfl
      have c3 : Try.prog.cellsOf 3 = 1 := by kernel_rfl
      have c9 : Try.prog.cellsOf 9 = 1 := by kernel_rfl
      have c41 : Try.prog.cellsOf 41 = 6 := by kernel_rfl
      match cs, hcl with
      | [v0, v1, v2, v3, v4, v5, v6, v7], _ =>
        simp [c3, c9, c41] at f0 f1 f2
        obtain ⟨k, e0, _⟩ := DataW.trod_int Try.underlying3 f0
        obtain ⟨s, e1, _⟩ := DataW.trod_string Try.underlying9 f1
        obtain ⟨c, u, ep, sq, ak, b, e2⟩ := gram_of rfl f2
        simp at e0 e1 e2
        obtain ⟨rfl, rfl, rfl, rfl, rfl, rfl⟩ := e2
        subst e0 e1
        exact ⟨a, k, s, c, u, ep, sq, ak, b, rfl, fun f v hf hv => (hca f hf).trans hv⟩

end Go.Proofs.Ytjlhipnlacfekaa.Tm
