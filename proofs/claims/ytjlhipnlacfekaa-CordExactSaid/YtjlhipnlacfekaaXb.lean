/-
  The End and the reference's End side by side.
-/
import Derived.Test.YtjlhipnlacfekaaRk
import Derived.Test.YtjlhipnlacfekaaRt
namespace Go.Proofs.Ytjlhipnlacfekaa.Rf
open Go.RowKit Go.Maps Go.Proofs.Ytjlhipnlacfekaa.Md Go.Proofs.Ytjlhipnlacfekaa.Hp Go.Proofs.Ytjlhipnlacfekaa.Rp Go.Proofs.Ytjlhipnlacfekaa.Lbl Go.Proofs.Ytjlhipnlacfekaa.Wa Go.Proofs.Ytjlhipnlacfekaa.Tm
set_option linter.unusedSimpArgs false
set_option linter.unusedVariables false

theorem rtake_any {w0 : World} {L : Nat → Nat} {w : World} {p : Nat} {R : Re} {E : En} {N : Nat} (h : RR w0 L w p R) (hs : Sim E R) (ho : Ok E N) (hN : N ≤ 10000) (hn : R.early.length ≤ N) (g : Gr) :
    Calls Try.prog 22 #[.pointer (some ⟨p, 0, none⟩), Gr.val g] w (RTakePost w0 L w p E N g) := by
  by_cases he : rightErr E g = 0
  · obtain ⟨c, u, ep, sq, ak, b⟩ := g
    by_cases hq : sq = 0
    · exact rtake_zero h hs ho hN hn c u ep sq ak b he hq
    · exact rtake_long h hs ho hN hn c u ep sq ak b he hq
  · exact rtake_err h hs ho hN hn g he
theorem sl_keptR {L L' : Nat → Nat} {w w' : World} {size n : Nat} {v : Value} {xs : List Value} (h : Sl w size v n xs (Lb L w 9)) (hk : KeptR L w L' w') : Sl w' size v n xs (Lb L' w' 9) :=
  (h.keep hk.size fun b hb hf => hk.block b hb (.inl (by have := hf.1; omega))).mono fun b _ hf => ⟨(hk.lab b hf.2).trans hf.1, Nat.lt_of_lt_of_le hf.2 hk.size⟩

/-- Both ends, behind N calls. Labels: 11 the End's, 12 to 14 the reference's, 9 others. -/
structure Both (w0 : World) (L : Nat → Nat) (w : World) (pe pr : Nat) (ep : Int) (E : En) (R : Re) (N : Nat) : Prop where
  re : Rep w pe E (Lb L w 11) N
  rr : RR w0 L w pr R
  sim : Sim E R
  ear : R.early.length ≤ N
  epo : E.epoch = ep
/-- A block that holds what it held. -/
structure Kb (L : Nat → Nat) (w : World) (bx : Nat) (cs : Array Value) (t : TypeId) : Prop where
  blk : w.heap[bx]? = some (.cells cs t)
  lab : L bx = 9

section
variable {w0 : World} {L L' : Nat → Nat} {w w' : World} {pe pr bx : Nat} {ep : Int} {E : En} {R : Re} {N r : Nat} {cs : Array Value} {t : TypeId}
theorem RR.stay (h : RR w0 L w pr R) (hb : Below w.heap.size w w') (r : Nat) : RR w0 (rel L w r) w' pr R := by
  obtain ⟨v1, v4, h⟩ := h
  exact ⟨v1, v4, h.stay hb r⟩
theorem RR.other (h : RR w0 L w pr R) (hc : Chg (Lb L w 11) w w') (r : Nat) : RR w0 (rel L w r) w' pr R := by
  obtain ⟨v1, v4, h⟩ := h
  exact ⟨v1, v4, h.other (by decide) (by decide) hc r⟩
theorem RR.bel (h : RR w0 L w pr R) : Below w0.heap.size w0 w := by
  obtain ⟨v1, v4, h⟩ := h
  exact h.lab.bel
theorem Both.stay (h : Both w0 L w pe pr ep E R N) (hb : Below w.heap.size w w') (r : Nat) : Both w0 (rel L w r) w' pe pr ep E R N :=
  ⟨rep_stay h.re hb, h.rr.stay hb r, h.sim, h.ear, h.epo⟩
theorem Both.mono (h : Both w0 L w pe pr ep E R N) : Both w0 L w pe pr ep E R (N + 1) :=
  ⟨h.re.mono (fun _ _ x => x) (by omega), h.rr, h.sim, by have := h.ear; omega, h.epo⟩
theorem Kb.lt (h : Kb L w bx cs t) : bx < w.heap.size := (Array.getElem?_eq_some_iff.1 h.blk).1
theorem Kb.stay (h : Kb L w bx cs t) (hb : Below w.heap.size w w') (r : Nat) : Kb (rel L w r) w' bx cs t :=
  ⟨by rw [hb.block bx h.lt]; exact h.blk, by unfold Lbl.rel; rw [if_pos h.lt]; exact h.lab⟩
theorem Kb.chg (h : Kb L w bx cs t) (hc : Chg (Lb L w 11) w w') (r : Nat) : Kb (rel L w r) w' bx cs t :=
  ⟨by rw [hc.block bx h.lt fun x => by have := x.1; rw [h.lab] at this; cases this]; exact h.blk, by unfold Lbl.rel; rw [if_pos h.lt]; exact h.lab⟩
theorem Kb.kept (h : Kb L w bx cs t) (hk : KeptR L w L' w') : Kb L' w' bx cs t :=
  ⟨by rw [hk.block bx h.lt (.inl (by rw [h.lab]; decide))]; exact h.blk, (hk.lab bx h.lt).trans h.lab⟩
theorem Kb.c (h : Kb L w bx cs t) (i : Nat) (v : Value) (hv : cs[i]? = some v) : w.cell? ⟨bx, i, none⟩ = some v := blk_cell h.blk i v hv
theorem Kb.new (L : Nat → Nat) (w : World) (cs : Array Value) (t : TypeId) : Kb (rel L w 9) (w.alloc (.cells cs t)) w.heap.size cs t := ⟨heap_alloc_new _ _, rel_fresh _ _ _⟩

/-- Send, both. -/
theorem Both.sendE (h : Both w0 L w pe pr ep E R N) {s : ByteArray} (hr : Rep w' pe (sent E s) (Grow (Lb L w 11) w w') (N + 1)) (hc : Chg (Lb L w 11) w w') : Rep w' pe (sent E s) (Lb (rel L w 11) w' 11) (N + 1) ∧ RR w0 (rel L w 11) w' pr R :=
  ⟨rep_grown hr hc.size, h.rr.other hc 11⟩
theorem rsent_early (R : Re) (s : ByteArray) : (rsent R s).early = R.early := by unfold rsent; split <;> rfl
theorem sent_epoch (E : En) (s : ByteArray) : (sent E s).epoch = E.epoch := by unfold Md.sent; split <;> rfl
theorem Both.sendR (h : Both w0 L w pe pr ep E R N) {s : ByteArray} {L5 L6 : Nat → Nat} {w5 w6 : World} (hr : Rep w5 pe (sent E s) (Lb L5 w5 11) (N + 1)) (h6 : RR w0 L6 w6 pr (rsent R s)) (hk : KeptR L5 w5 L6 w6) : Both w0 L6 w6 pe pr ep (sent E s) (rsent R s) (N + 1) :=
  ⟨rep_keptR hr hk, h6, h.sim.send s, by rw [rsent_early]; have := h.ear; omega, by rw [sent_epoch]; exact h.epo⟩
/-- Out, both. -/
theorem Both.outE (h : Both w0 L w pe pr ep E R N) (hr : Rep w' pe (outE E) (Lb L w 11) N) (hc : Chg (Lb L w 11) w w') : Rep w' pe (Md.outE E) (Lb (rel L w 9) w' 11) N ∧ RR w0 (rel L w 9) w' pr R :=
  ⟨rep_same hr hc.size, h.rr.other hc 9⟩
theorem Both.outR (h : Both w0 L w pe pr ep E R N) {L5 L6 : Nat → Nat} {w5 w6 : World} (hr : Rep w5 pe (Md.outE E) (Lb L5 w5 11) N) (h6 : RR w0 L6 w6 pr (routE R)) (hk : KeptR L5 w5 L6 w6) : Both w0 L6 w6 pe pr ep (Md.outE E) (routE R) (N + 1) :=
  ⟨(rep_keptR hr hk).mono (fun _ _ x => x) (by omega), h6, h.sim.out, by have := h.ear; show R.early.length ≤ N + 1; omega, h.epo⟩
/-- Take, both. -/
theorem drain_epoch : ∀ (k : Nat) (e : En), (drainE k e).epoch = e.epoch
  | 0, e => rfl
  | k + 1, e => by
    unfold drainE
    cases e.early ((e.got : Int) + 1) with
    | none => rfl
    | some s => exact drain_epoch k (Md.step e)
theorem take_epoch (E : En) (g : Gr) : (takeE E g).epoch = E.epoch := by
  unfold takeE
  split
  · rfl
  · split
    · rfl
    · rw [drain_epoch]
      unfold laid
      split <;> rfl
theorem Both.takeE (h : Both w0 L w pe pr ep E R N) {g : Gr} (hr : Rep w' pe (takeE E g) (Lb L w 11) (N + 1)) (hc : Chg (Lb L w 11) w w') : Rep w' pe (Md.takeE E g) (Lb (rel L w 9) w' 11) (N + 1) ∧ RR w0 (rel L w 9) w' pr R :=
  ⟨rep_same hr hc.size, h.rr.other hc 9⟩
theorem Both.takeR (h : Both w0 L w pe pr ep E R N) {g : Gr} {L5 L6 : Nat → Nat} {w5 w6 : World} {R6 : Re} (hr : Rep w5 pe (Md.takeE E g) (Lb L5 w5 11) (N + 1)) (h6 : RR w0 L6 w6 pr R6) (hs : Sim (Md.takeE E g) R6) (he : R6.early.length ≤ N + 1) (hk : KeptR L5 w5 L6 w6) : Both w0 L6 w6 pe pr ep (Md.takeE E g) R6 (N + 1) :=
  ⟨rep_keptR hr hk, h6, hs, he, by rw [take_epoch]; exact h.epo⟩
/-- What the law looks at behind each call. -/
theorem open_q (h : Both w0 L w pe pr ep E R N) (n : Nat) : Calls Try.prog 14 #[.pointer (some ⟨pe, 0, none⟩)] (w.drewN n) fun e w' => e = .returned (.int .i64 (E.opn.length : Int)) ∧ w' = w.drewN n :=
  (open_any (rep_stay (r := 9) h.re (below_drewN w n))).mono fun _ _ x => ⟨x.1, x.2.symm⟩
theorem got_q (h : Both w0 L w pe pr ep E R N) (n : Nat) : Calls Try.prog 13 #[.pointer (some ⟨pe, 0, none⟩)] (w.drewN n) fun e w' => e = .returned (.int .i64 (E.got : Int)) ∧ w' = w.drewN n :=
  (got_any (rep_stay (r := 9) h.re (below_drewN w n))).mono fun _ _ x => ⟨x.1, x.2.symm⟩
theorem epoch_q (h : Both w0 L w pe pr ep E R N) (n : Nat) : Calls Try.prog 16 #[.pointer (some ⟨pe, 0, none⟩)] (w.drewN n) fun e w' => e = .returned (.int .i64 E.epoch) ∧ w' = w.drewN n :=
  (epoch_any (rep_stay (r := 9) h.re (below_drewN w n))).mono fun _ _ x => ⟨x.1, x.2.symm⟩
end
/-- The beginning. -/
theorem both_start {w w1 : World} {ep : Int} (hr : Rep w1 (w.heap.size + 1) (newE ep) (New w w1) 0) (hb : Below w.heap.size w w1) :
    ∃ L, Both w L (w1.alloc (.cells #[.int .i64 ep, .slice none 0 0, .int .i64 0, .int .i64 0, .slice none 0 0, .bool false] 57)) (w.heap.size + 1) w1.heap.size ep (newE ep) (newR ep) 0 := by
  have h1 := rep_new (L := fun _ => 0) (r := 11) hr
  have l1 := (Lab.start w).stay hb 11
  exact ⟨_, rep_stay (r := 12) h1 (below_box _ _), rr_new ep l1, Sim.new ep, Nat.le_refl _, rfl⟩

end Go.Proofs.Ytjlhipnlacfekaa.Rf
