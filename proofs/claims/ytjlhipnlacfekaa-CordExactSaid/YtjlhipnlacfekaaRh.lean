/-
  The memory that the reference's 'Take' walks over.
-/
import Derived.Test.YtjlhipnlacfekaaRg
namespace Go.Proofs.Ytjlhipnlacfekaa.Rf
open Go.RowKit Go.Maps Go.Proofs.Ytjlhipnlacfekaa.Md Go.Proofs.Ytjlhipnlacfekaa.Hp Go.Proofs.Ytjlhipnlacfekaa.Rp Go.Proofs.Ytjlhipnlacfekaa.Lbl Go.Proofs.Ytjlhipnlacfekaa.Wa Go.Proofs.Ytjlhipnlacfekaa.Tm
set_option linter.unusedSimpArgs false
set_option linter.unusedVariables false

/-- Within the call: the End, what it kept, the datagram's box, the texts that came out so far (label 15, new behind B). -/
structure Pr (w0 : World) (L0 : Nat → Nat) (w : World) (bx : Nat) (g : Gr) (L : Nat → Nat) (W : World) (p : Nat) (R : Re) (v1 v4 v6 : Value) (out : List ByteArray) : Prop where
  rep : RepR w0 L W p R v1 v4
  kept : KeptR L0 w L W
  box : W.heap[bx]? = some (.cells (Gr.cells g).toArray 41)
  lbx : L bx = 9
  sl : Sl W 1 v6 out.length (out.map .string) (Own w.heap.size L W 15)

section
variable {w0 : World} {L0 : Nat → Nat} {w : World} {bx : Nat} {g : Gr} {L : Nat → Nat} {W W' W2 : World} {p : Nat} {R : Re} {v1 v4 v6 v' : Value} {out : List ByteArray}
theorem Pr.start (h : RepR w0 L0 w p R v1 v4) (g : Gr) : Pr w0 L0 w w.heap.size g (rel L0 w 9) (w.alloc (.cells (Gr.cells g).toArray 41)) p R v1 v4 (.slice none 0 0) [] := by
  have hb : Below w.heap.size w (w.alloc (.cells (Gr.cells g).toArray 41)) := (Below.refl _ _).alloc (Nat.le_refl _) _
  exact ⟨h.stay hb 9, KeptR.stay hb 9, heap_alloc_new _ _, rel_fresh _ _ _, Sl.nil _ _ _⟩
theorem Pr.blt (h : Pr w0 L0 w bx g L W p R v1 v4 v6 out) : bx < W.heap.size := (Array.getElem?_eq_some_iff.1 h.box).1
theorem Pr.ne (h : Pr w0 L0 w bx g L W p R v1 v4 v6 out) : bx ≠ p := fun e => by have := h.lbx; rw [e, h.rep.lp] at this; cases this
theorem Pr.x (h : Pr w0 L0 w bx g L W p R v1 v4 v6 out) (f : Nat) (v : Value) (hv : (Gr.cells g)[f]? = some v) : W.cell? ⟨bx, f, none⟩ = some v := blk_cell h.box f v (by simpa using hv)
theorem Pr.stay (h : Pr w0 L0 w bx g L W p R v1 v4 v6 out) (hb : Below W.heap.size W W') (r : Nat) : Pr w0 L0 w bx g (rel L W r) W' p R v1 v4 v6 out :=
  ⟨h.rep.stay hb r, h.kept.trans (KeptR.stay hb r), by rw [hb.block bx h.blt]; exact h.box, by unfold Lbl.rel; rw [if_pos h.blt]; exact h.lbx, sl_own_stay h.sl hb⟩
theorem below_drewN (W : World) (n : Nat) : Below W.heap.size W (W.drewN n) := ⟨rfl, rfl, rfl, Nat.le_refl _, fun _ _ => rfl⟩
theorem own_set {B i n f : Nat} {u : Value} {xs : List Value} {L : Nat → Nat} {W : World} {p : Nat} {v : Value} (h : Sl W 1 v n xs (Own B L W i)) (hi : i ≠ 12) (hp : L p = 12) : Sl (W.setCell ⟨p, f, none⟩ u) 1 v n xs (Own B L (W.setCell ⟨p, f, none⟩ u) i) :=
  (h.keep (by rw [size_set]; exact Nat.le_refl _) fun b _ hf => Below.heap_setCell _ _ _ _ fun x => by subst x; have := hf.1.1; omega).mono fun b _ x => ⟨⟨x.1.1, by rw [size_set]; exact x.1.2⟩, x.2⟩
theorem box_set (h : Pr w0 L0 w bx g L W p R v1 v4 v6 out) (f : Nat) (u : Value) : (W.setCell ⟨p, f, none⟩ u).heap[bx]? = some (.cells (Gr.cells g).toArray 41) := by
  rw [Below.heap_setCell _ _ _ _ h.ne]
  exact h.box
theorem Pr.owed (h : Pr w0 L0 w bx g L W p R v1 v4 v6 out) (x : Bool) : Pr w0 L0 w bx g L (W.setCell ⟨p, 5, none⟩ (.bool x)) p { R with owed := x } v1 v4 v6 out :=
  ⟨⟨h.rep.toCore.set5 x, sl_set12 h.rep.s1 (by decide) h.rep.lp, sl_set12 h.rep.s4 (by decide) h.rep.lp⟩, h.kept.trans (KeptR.set h.rep.lp _), box_set h 5 _, h.lbx, own_set h.sl (by decide) h.rep.lp⟩
theorem Pr.got (h : Pr w0 L0 w bx g L W p R v1 v4 v6 out) (n : Nat) (u : Value) (hu : u = .int .i64 (n : Int)) : Pr w0 L0 w bx g L (W.setCell ⟨p, 3, none⟩ u) p { R with got := n } v1 v4 v6 out :=
  ⟨⟨h.rep.toCore.set3 n u hu, sl_set12 h.rep.s1 (by decide) h.rep.lp, sl_set12 h.rep.s4 (by decide) h.rep.lp⟩, h.kept.trans (KeptR.set h.rep.lp _), box_set h 3 _, h.lbx, own_set h.sl (by decide) h.rep.lp⟩
/-- A new list in field 1, in field 4. -/
theorem Pr.setL (h : Pr w0 L0 w bx g L W p R v1 v4 v6 out) (hb : Below W.heap.size W W') {l : List Tx} (hs : Sl W' 2 v' l.length (tcells l) (New W W')) : Pr w0 L0 w bx g (rel L W 13) (W'.setCell ⟨p, 1, none⟩ v') p { R with l := l } v' v4 v6 out := by
  have H := h.stay hb 13
  exact ⟨⟨H.rep.toCore.set1 v' l, sl_set12 (sl_new hs) (by decide) H.rep.lp, sl_set12 H.rep.s4 (by decide) H.rep.lp⟩, H.kept.trans (KeptR.set H.rep.lp _), box_set H 1 _, H.lbx, own_set H.sl (by decide) H.rep.lp⟩
theorem Pr.setE (h : Pr w0 L0 w bx g L W p R v1 v4 v6 out) (hb : Below W.heap.size W W') {l : List Tx} (hs : Sl W' 2 v' l.length (tcells l) (New W W')) : Pr w0 L0 w bx g (rel L W 14) (W'.setCell ⟨p, 4, none⟩ v') p { R with early := l } v1 v' v6 out := by
  have H := h.stay hb 14
  exact ⟨⟨H.rep.toCore.set4 v' l, sl_set12 H.rep.s1 (by decide) H.rep.lp, sl_set12 (sl_new hs) (by decide) H.rep.lp⟩, H.kept.trans (KeptR.set H.rep.lp _), box_set H 4 _, H.lbx, own_set H.sl (by decide) H.rep.lp⟩
/-- The early list, one longer, ahead of its store. -/
theorem Pr.app (h : Pr w0 L0 w bx g L W p R v1 v4 v6 out) (hc : Chg (Lb L W 14) W W2) : Core w0 (rel L W 14) W2 p R v1 v4 := h.rep.toCore.step (by decide) (by decide) hc 14
theorem Pr.setApp (h : Pr w0 L0 w bx g L W p R v1 v4 v6 out) (hc : Chg (Lb L W 14) W W2) {k : Int} {s : ByteArray} (hs : Sl W2 2 v' (R.early.length + 1) (tcells R.early ++ (#[.int .i64 k, .string s] : Array Value).toList) (Grow (Lb L W 14) W W2)) :
    Pr w0 L0 w bx g (rel L W 14) (W2.setCell ⟨p, 4, none⟩ v') p { R with early := R.early ++ [(k, s)] } v1 v' v6 out := by
  have H := h.app hc
  have hp := H.lp
  have e1 : (R.early ++ [(k, s)]).length = R.early.length + 1 := by simp
  have e2 : tcells (R.early ++ [(k, s)]) = tcells R.early ++ (#[.int .i64 k, .string s] : Array Value).toList := by rw [tcells_append]; rfl
  have hs' := sl_grown hs hc.size
  rw [← e1, ← e2] at hs'
  have hbx : W2.heap[bx]? = some (.cells (Gr.cells g).toArray 41) := by
    rw [hc.block bx h.blt fun x => by have := x.1; rw [h.lbx] at this; cases this]
    exact h.box
  refine ⟨⟨H.set4 v' _, sl_set12 (sl_other h.rep.s1 hc (by decide)) (by decide) hp, sl_set12 hs' (by decide) hp⟩, (h.kept.trans (KeptR.rel (by decide) (by decide) hc 14)).trans (KeptR.set hp _), ?_, ?_, ?_⟩
  · rw [Below.heap_setCell _ _ _ _ h.ne]; exact hbx
  · unfold Lbl.rel; rw [if_pos h.blt]; exact h.lbx
  · refine own_set ?_ (by decide) hp
    refine (h.sl.keep hc.size fun b hb hf => hc.block b hb fun x => ?_).mono fun b hb x => ⟨lb_old hc.size b x.1, x.2⟩
    have h1 := x.1
    have h2 := hf.1.1
    omega
/-- A text more comes out. -/
theorem Pr.more (h : Pr w0 L0 w bx g L W p R v1 v4 v6 out) (hc : Chg (Own w.heap.size L W 15) W W2) {s : ByteArray} (hs : Sl W2 1 v' (out.length + 1) (out.map Value.string ++ [.string s]) (Grow (Own w.heap.size L W 15) W W2)) :
    Pr w0 L0 w bx g (rel L W 15) W2 p R v1 v4 v' (out ++ [s]) := by
  have hc' := own_chg hc
  have hz := h.kept.size
  refine ⟨⟨h.rep.toCore.step (by decide) (by decide) hc' 15, sl_other h.rep.s1 hc' (by decide), sl_other h.rep.s4 hc' (by decide)⟩, ?_, ?_, ?_, ?_⟩
  · refine ⟨Nat.le_trans hz hc.size, fun b hb => ?_, fun b hb hl => ?_⟩
    · unfold Lbl.rel
      rw [if_pos (by omega)]
      exact h.kept.lab b hb
    · rw [hc.block b (by omega) fun x => by have := x.2; omega]
      exact h.kept.block b hb hl
  · rw [hc.block bx h.blt fun x => by have := x.1.1; rw [h.lbx] at this; cases this]
    exact h.box
  · unfold Lbl.rel; rw [if_pos h.blt]; exact h.lbx
  · have e1 : (out ++ [s]).length = out.length + 1 := by simp
    have e2 : (out ++ [s]).map Value.string = out.map Value.string ++ [.string s] := by simp
    rw [e1, e2]
    exact sl_own_grown hz hs hc.size
/-- What a call of 'Take' leaves. -/
def RTakePost (w0 : World) (L : Nat → Nat) (w : World) (p : Nat) (E : En) (N : Nat) (g : Gr) (e : Ending) (w' : World) : Prop :=
  ∃ v L' R' F, e = .returned (.tuple #[v, .int .i64 (takeErr E g)]) ∧ RR w0 L' w' p R' ∧ Sim (takeE E g) R' ∧ R'.early.length ≤ N + 1 ∧ Sl w' 1 v (takeL E g).length ((takeL E g).map .string) F ∧ KeptR L w L' w'
theorem Pr.post (h : Pr w0 L0 w bx g L W p R v1 v4 v6 out) {E : En} {N : Nat} (he : rightErr E g = 0) (hs : Sim (takeE E g) R) (hn : R.early.length ≤ N + 1) (ho : takeL E g = out) : RTakePost w0 L0 w p E N g (.returned (.tuple #[v6, .int .i64 0])) W :=
  ⟨v6, L, R, _, by unfold takeErr; rw [he], ⟨v1, v4, h.rep⟩, hs, hn, by rw [ho]; exact h.sl, h.kept⟩
end

end Go.Proofs.Ytjlhipnlacfekaa.Rf
