/-
  Whose a block is: labels, so that several owners' memory lies apart.
-/
import Derived.Test.YtjlhipnlacfekaaRp
namespace Go.Proofs.Ytjlhipnlacfekaa.Lbl
open Go.RowKit Go.Proofs.Ytjlhipnlacfekaa.Md Go.Proofs.Ytjlhipnlacfekaa.Hp Go.Proofs.Ytjlhipnlacfekaa.Rp
set_option linter.unusedSimpArgs false
set_option linter.unusedVariables false

/-- The blocks of label i. -/
def Lb (L : Nat → Nat) (w : World) (i : Nat) : Nat → Prop := fun b => L b = i ∧ b < w.heap.size
/-- What is new bears label r. -/
def rel (L : Nat → Nat) (w : World) (r : Nat) : Nat → Nat := fun b => if b < w.heap.size then L b else r

theorem lb_lt {L : Nat → Nat} {w : World} {i : Nat} : ∀ b, Lb L w i b → b < w.heap.size := fun _ h => h.2
theorem lb_old {L : Nat → Nat} {w w' : World} {j r : Nat} (hs : w.heap.size ≤ w'.heap.size) : ∀ b, Lb L w j b → Lb (rel L w r) w' j b :=
  fun b h => ⟨by unfold rel; rw [if_pos h.2]; exact h.1, Nat.lt_of_lt_of_le h.2 hs⟩
theorem lb_new {L : Nat → Nat} {w w' : World} {r : Nat} : ∀ b, New w w' b → Lb (rel L w r) w' r b :=
  fun b h => ⟨by unfold rel; rw [if_neg (Nat.not_lt.2 h.1)], h.2⟩
theorem lb_grow {L : Nat → Nat} {w w' : World} {i : Nat} (hs : w.heap.size ≤ w'.heap.size) : ∀ b, Grow (Lb L w i) w w' b → Lb (rel L w i) w' i b := by
  intro b h
  rcases h with ⟨a, c⟩ | h
  · exact lb_old hs b a
  · exact lb_new b h

/-- The state of a law's walk: what was there is as it was, and bears label 0. -/
structure Lab (w0 : World) (L : Nat → Nat) (w : World) : Prop where
  bel : Below w0.heap.size w0 w
  zero : ∀ b, b < w0.heap.size → L b = 0
theorem Lab.start (w : World) : Lab w (fun _ => 0) w := ⟨Below.refl _ _, fun _ _ => rfl⟩
theorem Lab.step {w0 w w' : World} {L : Nat → Nat} (h : Lab w0 L w) {i : Nat} (hi : i ≠ 0) (hc : Chg (Lb L w i) w w') (r : Nat) : Lab w0 (rel L w r) w' := by
  have hs := h.bel.size
  refine ⟨h.bel.trans ⟨hc.os, hc.tape, hc.output, hc.size, fun k hk => hc.block k (by omega) fun x => hi (by rw [← x.1]; exact h.zero k hk)⟩, fun b hb => ?_⟩
  unfold rel
  rw [if_pos (by omega)]
  exact h.zero b hb
theorem Lab.stay {w0 w w' : World} {L : Nat → Nat} (h : Lab w0 L w) (hb : Below w.heap.size w w') (r : Nat) : Lab w0 (rel L w r) w' := h.step (i := 1) (by decide) (Chg.ofBelow hb) r

section
variable {L : Nat → Nat} {w w' : World} {i j r : Nat}
theorem rep_other {p : Nat} {E : En} {N : Nat} (h : Rep w p E (Lb L w j) N) (hc : Chg (Lb L w i) w w') (hij : j ≠ i) : Rep w' p E (Lb (rel L w r) w' j) N :=
  (h.chg hc fun b _ hf hg => hij (by rw [← hf.1, ← hg.1])).mono (fun b _ hf => lb_old hc.size b hf) (Nat.le_refl _)
theorem rep_stay {p : Nat} {E : En} {N : Nat} (h : Rep w p E (Lb L w j) N) (hb : Below w.heap.size w w') : Rep w' p E (Lb (rel L w r) w' j) N :=
  (h.keep hb.size fun b hlt _ => hb.block b hlt).mono (fun b _ hf => lb_old hb.size b hf) (Nat.le_refl _)
theorem rep_same {p : Nat} {E : En} {N : Nat} (h : Rep w' p E (Lb L w j) N) (hs : w.heap.size ≤ w'.heap.size) : Rep w' p E (Lb (rel L w r) w' j) N :=
  h.mono (fun b _ hf => lb_old hs b hf) (Nat.le_refl _)
theorem rep_grown {p : Nat} {E : En} {N : Nat} (h : Rep w' p E (Grow (Lb L w j) w w') N) (hs : w.heap.size ≤ w'.heap.size) : Rep w' p E (Lb (rel L w j) w' j) N :=
  h.mono (fun b _ hf => lb_grow hs b hf) (Nat.le_refl _)
theorem rep_new {p : Nat} {E : En} {N : Nat} (h : Rep w' p E (New w w') N) : Rep w' p E (Lb (rel L w r) w' r) N :=
  h.mono (fun b _ hf => lb_new b hf) (Nat.le_refl _)
theorem sl_other {size n : Nat} {v : Value} {xs : List Value} (h : Sl w size v n xs (Lb L w j)) (hc : Chg (Lb L w i) w w') (hij : j ≠ i) : Sl w' size v n xs (Lb (rel L w r) w' j) :=
  (h.chg hc fun b _ hf hg => hij (by rw [← hf.1, ← hg.1])).mono fun b _ hf => lb_old hc.size b hf
theorem sl_stay {size n : Nat} {v : Value} {xs : List Value} (h : Sl w size v n xs (Lb L w j)) (hb : Below w.heap.size w w') : Sl w' size v n xs (Lb (rel L w r) w' j) :=
  (h.keep hb.size fun b hlt _ => hb.block b hlt).mono fun b _ hf => lb_old hb.size b hf
theorem sl_grown {size n : Nat} {v : Value} {xs : List Value} (h : Sl w' size v n xs (Grow (Lb L w j) w w')) (hs : w.heap.size ≤ w'.heap.size) : Sl w' size v n xs (Lb (rel L w j) w' j) :=
  h.mono fun b _ hf => lb_grow hs b hf
theorem sl_new {size n : Nat} {v : Value} {xs : List Value} (h : Sl w' size v n xs (New w w')) : Sl w' size v n xs (Lb (rel L w r) w' r) :=
  h.mono fun b _ hf => lb_new b hf
end

end Go.Proofs.Ytjlhipnlacfekaa.Lbl
