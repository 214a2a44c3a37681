/-
  The reference's 'Take': what it refuses.
-/
import Derived.Test.YtjlhipnlacfekaaRh
import Derived.Laws.Strings
namespace Go.Proofs.Ytjlhipnlacfekaa.Rf
open Go.RowKit Go.Maps Go.Proofs.Ytjlhipnlacfekaa.Md Go.Proofs.Ytjlhipnlacfekaa.Hp Go.Proofs.Ytjlhipnlacfekaa.Rp Go.Proofs.Ytjlhipnlacfekaa.Lbl Go.Proofs.Ytjlhipnlacfekaa.Wa Go.Proofs.Ytjlhipnlacfekaa.Tm
set_option linter.unusedSimpArgs false
set_option linter.unusedVariables false

set_option maxHeartbeats 2000000 in
set_option maxRecDepth 20000 in
theorem rq0 {w : World} {p : Nat} (gv gt : Nat) (ep0 ep : Int) (hq : gv ≤ 1000000) (hq2 : gt ≤ 1000000) (k0 : w.cell? ⟨p, 0, none⟩ = some (.int .i64 ep0)) (k2 : w.cell? ⟨p, 2, none⟩ = some (.int .i64 (gv : Int))) (k3 : w.cell? ⟨p, 3, none⟩ = some (.int .i64 (gt : Int))) (hlt : p < w.heap.size)
    (c : Int) (u : Bool) (sq ak : Int) (b : ByteArray) (hne : (ep != ep0) = true) :
    Calls Try.prog 22 #[.pointer (some ⟨p, 0, none⟩), .agg #[.int .i64 c, .bool u, .int .i64 ep, .int .i64 sq, .int .i64 ak, .string b]] w fun e w' => e = .returned (.tuple #[.slice none 0 0, .int .i64 23]) ∧ Below w.heap.size w w' := by
  go_enter Try.func22, Try.ntmps22
  go_wp2_with fail
  go_quiet (fail)
  go_wp2_with fail
  go_ret2
  exact ⟨rfl, ((Below.refl _ _).alloc (Nat.le_refl _) _).trans ⟨rfl, rfl, rfl, Nat.le_refl _, fun _ _ => rfl⟩⟩
set_option maxHeartbeats 2000000 in
set_option maxRecDepth 20000 in
theorem rq1 {w : World} {p : Nat} (gv gt : Nat) (ep0 ep : Int) (hq : gv ≤ 1000000) (hq2 : gt ≤ 1000000) (k0 : w.cell? ⟨p, 0, none⟩ = some (.int .i64 ep0)) (k2 : w.cell? ⟨p, 2, none⟩ = some (.int .i64 (gv : Int))) (k3 : w.cell? ⟨p, 3, none⟩ = some (.int .i64 (gt : Int))) (hlt : p < w.heap.size)
    (c : Int) (u : Bool) (sq ak : Int) (b : ByteArray) (hne : (ep != ep0) = false) (d1 : decide (sq < 0) = true) :
    Calls Try.prog 22 #[.pointer (some ⟨p, 0, none⟩), .agg #[.int .i64 c, .bool u, .int .i64 ep, .int .i64 sq, .int .i64 ak, .string b]] w fun e w' => e = .returned (.tuple #[.slice none 0 0, .int .i64 4]) ∧ Below w.heap.size w w' := by
  go_enter Try.func22, Try.ntmps22
  go_wp2_with fail
  go_quiet (fail)
  go_wp2_with fail
  go_quiet (fail)
  go_wp2_with fail
  go_ret2
  exact ⟨rfl, ((Below.refl _ _).alloc (Nat.le_refl _) _).trans ⟨rfl, rfl, rfl, Nat.le_refl _, fun _ _ => rfl⟩⟩
set_option maxHeartbeats 2000000 in
set_option maxRecDepth 20000 in
theorem rq2 {w : World} {p : Nat} (gv gt : Nat) (ep0 ep : Int) (hq : gv ≤ 1000000) (hq2 : gt ≤ 1000000) (k0 : w.cell? ⟨p, 0, none⟩ = some (.int .i64 ep0)) (k2 : w.cell? ⟨p, 2, none⟩ = some (.int .i64 (gv : Int))) (k3 : w.cell? ⟨p, 3, none⟩ = some (.int .i64 (gt : Int))) (hlt : p < w.heap.size)
    (c : Int) (u : Bool) (sq ak : Int) (b : ByteArray) (hne : (ep != ep0) = false) (d1 : decide (sq < 0) = false) (d2 : decide (ak < 0) = true) :
    Calls Try.prog 22 #[.pointer (some ⟨p, 0, none⟩), .agg #[.int .i64 c, .bool u, .int .i64 ep, .int .i64 sq, .int .i64 ak, .string b]] w fun e w' => e = .returned (.tuple #[.slice none 0 0, .int .i64 4]) ∧ Below w.heap.size w w' := by
  go_enter Try.func22, Try.ntmps22
  go_wp2_with fail
  go_quiet (fail)
  go_wp2_with fail
  go_quiet (fail)
  go_wp2_with fail
  go_ret2
  exact ⟨rfl, ((Below.refl _ _).alloc (Nat.le_refl _) _).trans ⟨rfl, rfl, rfl, Nat.le_refl _, fun _ _ => rfl⟩⟩
set_option maxHeartbeats 2000000 in
set_option maxRecDepth 20000 in
theorem rq3 {w : World} {p : Nat} (gv gt : Nat) (ep0 ep : Int) (hq : gv ≤ 1000000) (hq2 : gt ≤ 1000000) (k0 : w.cell? ⟨p, 0, none⟩ = some (.int .i64 ep0)) (k2 : w.cell? ⟨p, 2, none⟩ = some (.int .i64 (gv : Int))) (k3 : w.cell? ⟨p, 3, none⟩ = some (.int .i64 (gt : Int))) (hlt : p < w.heap.size)
    (c : Int) (u : Bool) (sq ak : Int) (b : ByteArray) (hne : (ep != ep0) = false) (d1 : decide (sq < 0) = false) (d2 : decide (ak < 0) = false) (d3 : decide ((gv : Int) < ak) = true) :
    Calls Try.prog 22 #[.pointer (some ⟨p, 0, none⟩), .agg #[.int .i64 c, .bool u, .int .i64 ep, .int .i64 sq, .int .i64 ak, .string b]] w fun e w' => e = .returned (.tuple #[.slice none 0 0, .int .i64 4]) ∧ Below w.heap.size w w' := by
  go_enter Try.func22, Try.ntmps22
  go_wp2_with fail
  go_quiet (fail)
  go_wp2_with fail
  go_quiet (fail)
  go_wp2_with fail
  go_ret2
  exact ⟨rfl, ((Below.refl _ _).alloc (Nat.le_refl _) _).trans ⟨rfl, rfl, rfl, Nat.le_refl _, fun _ _ => rfl⟩⟩
set_option maxHeartbeats 2000000 in
set_option maxRecDepth 20000 in
theorem rq4 {w : World} {p : Nat} (gv gt : Nat) (ep0 ep : Int) (hq : gv ≤ 1000000) (hq2 : gt ≤ 1000000) (k0 : w.cell? ⟨p, 0, none⟩ = some (.int .i64 ep0)) (k2 : w.cell? ⟨p, 2, none⟩ = some (.int .i64 (gv : Int))) (k3 : w.cell? ⟨p, 3, none⟩ = some (.int .i64 (gt : Int))) (hlt : p < w.heap.size)
    (c : Int) (u : Bool) (sq ak : Int) (b : ByteArray) (hne : (ep != ep0) = false) (d1 : decide (sq < 0) = false) (d2 : decide (ak < 0) = false) (d3 : decide ((gv : Int) < ak) = false) (d4 : decide ((gt : Int) + 32 < sq) = true) :
    Calls Try.prog 22 #[.pointer (some ⟨p, 0, none⟩), .agg #[.int .i64 c, .bool u, .int .i64 ep, .int .i64 sq, .int .i64 ak, .string b]] w fun e w' => e = .returned (.tuple #[.slice none 0 0, .int .i64 4]) ∧ Below w.heap.size w w' := by
  go_enter Try.func22, Try.ntmps22
  go_wp2_with fail
  go_quiet (fail)
  go_wp2_with fail
  go_quiet (fail)
  go_wp2_with fail
  go_ret2
  exact ⟨rfl, ((Below.refl _ _).alloc (Nat.le_refl _) _).trans ⟨rfl, rfl, rfl, Nat.le_refl _, fun _ _ => rfl⟩⟩
set_option maxHeartbeats 2000000 in
set_option maxRecDepth 20000 in
theorem rq5 {w : World} {p : Nat} (gv gt : Nat) (ep0 ep : Int) (hq : gv ≤ 1000000) (hq2 : gt ≤ 1000000) (k0 : w.cell? ⟨p, 0, none⟩ = some (.int .i64 ep0)) (k2 : w.cell? ⟨p, 2, none⟩ = some (.int .i64 (gv : Int))) (k3 : w.cell? ⟨p, 3, none⟩ = some (.int .i64 (gt : Int))) (hlt : p < w.heap.size)
    (c : Int) (u : Bool) (sq ak : Int) (b : ByteArray) (hne : (ep != ep0) = false) (d1 : decide (sq < 0) = false) (d2 : decide (ak < 0) = false) (d3 : decide ((gv : Int) < ak) = false) (d4 : decide ((gt : Int) + 32 < sq) = false) (d5 : (sq == 0) = true) (d6 : (!b.toList.isEmpty) = true) (d7 : b.toList.isEmpty = false) :
    Calls Try.prog 22 #[.pointer (some ⟨p, 0, none⟩), .agg #[.int .i64 c, .bool u, .int .i64 ep, .int .i64 sq, .int .i64 ak, .string b]] w fun e w' => e = .returned (.tuple #[.slice none 0 0, .int .i64 4]) ∧ Below w.heap.size w w' := by
  go_enter Try.func22, Try.ntmps22
  go_wp2_with fail
  go_quiet (fail)
  go_wp2_with fail
  go_quiet (fail)
  go_wp2_with fail
  go_ret2
  exact ⟨rfl, ((Below.refl _ _).alloc (Nat.le_refl _) _).trans ⟨rfl, rfl, rfl, Nat.le_refl _, fun _ _ => rfl⟩⟩
set_option maxHeartbeats 2000000 in
set_option maxRecDepth 20000 in
theorem rq7 {w : World} {p : Nat} (gv gt : Nat) (ep0 ep : Int) (hq : gv ≤ 1000000) (hq2 : gt ≤ 1000000) (k0 : w.cell? ⟨p, 0, none⟩ = some (.int .i64 ep0)) (k2 : w.cell? ⟨p, 2, none⟩ = some (.int .i64 (gv : Int))) (k3 : w.cell? ⟨p, 3, none⟩ = some (.int .i64 (gt : Int))) (hlt : p < w.heap.size)
    (c : Int) (u : Bool) (sq ak : Int) (b : ByteArray) (hne : (ep != ep0) = false) (d1 : decide (sq < 0) = false) (d2 : decide (ak < 0) = false) (d3 : decide ((gv : Int) < ak) = false) (d4 : decide ((gt : Int) + 32 < sq) = false) (d5 : (sq == 0) = false) (d8 : 16384 < b.size) :
    Calls Try.prog 22 #[.pointer (some ⟨p, 0, none⟩), .agg #[.int .i64 c, .bool u, .int .i64 ep, .int .i64 sq, .int .i64 ak, .string b]] w fun e w' => e = .returned (.tuple #[.slice none 0 0, .int .i64 5]) ∧ Below w.heap.size w w' := by
  go_enter Try.func22, Try.ntmps22
  go_wp2_with fail
  go_quiet (fail)
  go_wp2_with fail
  go_quiet (fail)
  go_wp2_with fail
  go_ret2
  exact ⟨rfl, ((Below.refl _ _).alloc (Nat.le_refl _) _).trans ⟨rfl, rfl, rfl, Nat.le_refl _, fun _ _ => rfl⟩⟩

theorem rtake_err {w0 : World} {L : Nat → Nat} {w : World} {p : Nat} {R : Re} {E : En} {N : Nat} (h : RR w0 L w p R) (hs : Sim E R) (ho : Ok E N) (hN : N ≤ 10000) (hn : R.early.length ≤ N) (g : Gr) (he : rightErr E g ≠ 0) :
    Calls Try.prog 22 #[.pointer (some ⟨p, 0, none⟩), Gr.val g] w (RTakePost w0 L w p E N g) := by
  obtain ⟨v1, v4, hr⟩ := h
  have post : ∀ x : Int, rightErr E g = x → ∀ e w', (e = Ending.returned (.tuple #[.slice none 0 0, .int .i64 x]) ∧ Below w.heap.size w w') → RTakePost w0 L w p E N g e w' := by
    rintro x rfl e w' ⟨rfl, hb⟩
    have h1 : takeE E g = E := by unfold takeE; rw [if_pos he]
    have h2 : takeL E g = [] := by unfold takeL; rw [if_pos he]
    refine ⟨_, rel L w 9, R, fun _ => True, rfl, ⟨v1, v4, hr.stay hb 9⟩, by rw [h1]; exact hs, by omega, by rw [h2]; exact Sl.nil _ _ _, KeptR.stay hb 9⟩
  have k0 := hr.c0
  have k2 := hr.c2
  have k3 := hr.c3
  have hlt := hr.plt
  have hg1 := ho.given
  have hg2 := ho.got
  have hg3 := hs.given
  have hg4 := hs.got
  have b1 : R.given ≤ 1000000 := by omega
  have b2 : R.got ≤ 1000000 := by omega
  obtain ⟨c, u, ep, sq, ak, b⟩ := g
  unfold rightErr at he post
  unfold Gr.val
  rw [hs.epoch] at k0
  have hbad := hs.bad ⟨c, u, ep, sq, ak, b⟩
  unfold rbad at hbad
  simp only at hbad he post
  by_cases e0 : ep ≠ E.epoch
  · exact (rq0 _ _ _ ep b1 b2 k0 k2 k3 hlt c u sq ak b (bne_iff_ne.2 e0)).mono (post 23 (if_pos e0))
  have hne : (ep != E.epoch) = false := by rw [Classical.not_not.1 e0]; simp
  simp only [if_neg e0] at he post
  by_cases a1 : sq < 0
  · exact (rq1 _ _ _ ep b1 b2 k0 k2 k3 hlt c u sq ak b hne (decide_eq_true a1)).mono (post 4 (if_pos (hbad.1 (.inl a1))))
  have d1 := decide_eq_false a1
  by_cases a2 : ak < 0
  · exact (rq2 _ _ _ ep b1 b2 k0 k2 k3 hlt c u sq ak b hne d1 (decide_eq_true a2)).mono (post 4 (if_pos (hbad.1 (.inr (.inl a2)))))
  have d2 := decide_eq_false a2
  by_cases a3 : (R.given : Int) < ak
  · exact (rq3 _ _ _ ep b1 b2 k0 k2 k3 hlt c u sq ak b hne d1 d2 (decide_eq_true a3)).mono (post 4 (if_pos (hbad.1 (.inr (.inr (.inl a3))))))
  have d3 := decide_eq_false a3
  by_cases a4 : (R.got : Int) + 32 < sq
  · exact (rq4 _ _ _ ep b1 b2 k0 k2 k3 hlt c u sq ak b hne d1 d2 d3 (decide_eq_true a4)).mono (post 4 (if_pos (hbad.1 (.inr (.inr (.inr (.inl a4)))))))
  have d4 := decide_eq_false a4
  by_cases a5 : sq = 0 ∧ b.size ≠ 0
  · have e2 : b.toList.isEmpty = false := by rw [Wa.isEmpty_iff]; exact decide_eq_false a5.2
    have e1 : (!b.toList.isEmpty) = true := by rw [e2]; rfl
    exact (rq5 _ _ _ ep b1 b2 k0 k2 k3 hlt c u sq ak b hne d1 d2 d3 d4 (beq_iff_eq.2 a5.1) e1 e2).mono (post 4 (if_pos (hbad.1 (.inr (.inr (.inr (.inr a5)))))))
  have hnb : ¬ bad E ⟨c, u, ep, sq, ak, b⟩ = true := fun x => by
    rcases hbad.2 x with y | y | y | y | y
    · exact a1 y
    · exact a2 y
    · exact a3 y
    · exact a4 y
    · exact a5 y
  rw [if_neg hnb] at he
  by_cases a8 : 16384 < b.size
  · have hsq : sq ≠ 0 := fun x => a5 ⟨x, by omega⟩
    refine (rq7 _ _ _ ep b1 b2 k0 k2 k3 hlt c u sq ak b hne d1 d2 d3 d4 (beq_eq_false_iff_ne.2 hsq) a8).mono (post 5 ?_)
    rw [if_neg hnb, if_pos a8]
  · rw [if_neg a8] at he
    exact absurd rfl he

end Go.Proofs.Ytjlhipnlacfekaa.Rf
