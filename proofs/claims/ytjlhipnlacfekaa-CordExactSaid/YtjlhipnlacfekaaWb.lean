/-
  'right': whether a datagram can be of this session.
-/
import Derived.Test.YtjlhipnlacfekaaWa
import Derived.Laws.Strings
namespace Go.Proofs.Ytjlhipnlacfekaa.Wa
open Go.RowKit Go.Maps Go.Proofs.Ytjlhipnlacfekaa.Md Go.Proofs.Ytjlhipnlacfekaa.Hp Go.Proofs.Ytjlhipnlacfekaa.Rp
set_option linter.unusedSimpArgs false
set_option linter.unusedVariables false

theorem right_nil (c : Int) (u : Bool) (ep sq ak : Int) (b : ByteArray) (w : World) :
    Calls Try.prog 27 #[.pointer none, .agg #[.int .i64 c, .bool u, .int .i64 ep, .int .i64 sq, .int .i64 ak, .string b]] w fun e w' => e = .returned (.int .i64 2) ∧ Below w.heap.size w w' := by
  go_enter Try.func27, Try.ntmps27
  go_wp2_with fail
  go_ret
  exact ⟨rfl, (Below.refl _ _).alloc (Nat.le_refl _) _⟩

set_option maxHeartbeats 1000000 in
theorem right_old {w : World} {p : Nat} {E : En} {F : Nat → Prop} {N : Nat} (h : Rep w p E F N) (c : Int) (u : Bool) (ep sq ak : Int) (b : ByteArray) (he : ep ≠ E.epoch) :
    Calls Try.prog 27 #[.pointer (some ⟨p, 0, none⟩), .agg #[.int .i64 c, .bool u, .int .i64 ep, .int .i64 sq, .int .i64 ak, .string b]] w fun e w' => e = .returned (.int .i64 23) ∧ Below w.heap.size w w' := by
  obtain ⟨sv, m, h⟩ := h
  have k0 := c0 h
  have hlt := h.lt
  have hne : (ep != E.epoch) = true := bne_iff_ne.2 he
  generalize E.epoch = q at k0 hne
  clear h
  go_enter Try.func27, Try.ntmps27
  go_wp2_with fail
  go_quiet (fail)
  go_wp2_with fail
  go_ret
  exact ⟨rfl, ((Below.refl _ _).alloc (Nat.le_refl _) _).trans ⟨rfl, rfl, rfl, Nat.le_refl _, fun _ _ => rfl⟩⟩

set_option maxHeartbeats 2000000 in
theorem rt1 {w : World} {p : Nat} (gv gt : Nat) (ep : Int) (hq : gv ≤ 1000000) (hq2 : gt ≤ 1000000) (k0 : w.cell? ⟨p, 0, none⟩ = some (.int .i64 ep)) (k2 : w.cell? ⟨p, 2, none⟩ = some (.int .i64 (gv : Int))) (k3 : w.cell? ⟨p, 3, none⟩ = some (.int .i64 (gt : Int))) (hlt : p < w.heap.size)
    (c : Int) (u : Bool) (sq ak : Int) (b : ByteArray) (hne : (ep != ep) = false) (d1 : decide (ak < 0) = true) :
    Calls Try.prog 27 #[.pointer (some ⟨p, 0, none⟩), .agg #[.int .i64 c, .bool u, .int .i64 ep, .int .i64 sq, .int .i64 ak, .string b]] w fun e w' => e = .returned (.int .i64 4) ∧ Below w.heap.size w w' := by
  go_enter Try.func27, Try.ntmps27
  go_wp2_with fail
  go_quiet (fail)
  go_wp2_with fail
  go_quiet (fail)
  go_wp2_with fail
  go_ret
  exact ⟨rfl, ((Below.refl _ _).alloc (Nat.le_refl _) _).trans ⟨rfl, rfl, rfl, Nat.le_refl _, fun _ _ => rfl⟩⟩
set_option maxHeartbeats 2000000 in
theorem rt2 {w : World} {p : Nat} (gv gt : Nat) (ep : Int) (hq : gv ≤ 1000000) (hq2 : gt ≤ 1000000) (k0 : w.cell? ⟨p, 0, none⟩ = some (.int .i64 ep)) (k2 : w.cell? ⟨p, 2, none⟩ = some (.int .i64 (gv : Int))) (k3 : w.cell? ⟨p, 3, none⟩ = some (.int .i64 (gt : Int))) (hlt : p < w.heap.size)
    (c : Int) (u : Bool) (sq ak : Int) (b : ByteArray) (hne : (ep != ep) = false) (d1 : decide (ak < 0) = false) (d2 : decide ((gv : Int) < ak) = true) :
    Calls Try.prog 27 #[.pointer (some ⟨p, 0, none⟩), .agg #[.int .i64 c, .bool u, .int .i64 ep, .int .i64 sq, .int .i64 ak, .string b]] w fun e w' => e = .returned (.int .i64 4) ∧ Below w.heap.size w w' := by
  go_enter Try.func27, Try.ntmps27
  go_wp2_with fail
  go_quiet (fail)
  go_wp2_with fail
  go_quiet (fail)
  go_wp2_with fail
  go_ret
  exact ⟨rfl, ((Below.refl _ _).alloc (Nat.le_refl _) _).trans ⟨rfl, rfl, rfl, Nat.le_refl _, fun _ _ => rfl⟩⟩
set_option maxHeartbeats 2000000 in
theorem rt3 {w : World} {p : Nat} (gv gt : Nat) (ep : Int) (hq : gv ≤ 1000000) (hq2 : gt ≤ 1000000) (k0 : w.cell? ⟨p, 0, none⟩ = some (.int .i64 ep)) (k2 : w.cell? ⟨p, 2, none⟩ = some (.int .i64 (gv : Int))) (k3 : w.cell? ⟨p, 3, none⟩ = some (.int .i64 (gt : Int))) (hlt : p < w.heap.size)
    (c : Int) (u : Bool) (sq ak : Int) (b : ByteArray) (hne : (ep != ep) = false) (d1 : decide (ak < 0) = false) (d2 : decide ((gv : Int) < ak) = false) (d3 : decide (sq < 0) = true) :
    Calls Try.prog 27 #[.pointer (some ⟨p, 0, none⟩), .agg #[.int .i64 c, .bool u, .int .i64 ep, .int .i64 sq, .int .i64 ak, .string b]] w fun e w' => e = .returned (.int .i64 4) ∧ Below w.heap.size w w' := by
  go_enter Try.func27, Try.ntmps27
  go_wp2_with fail
  go_quiet (fail)
  go_wp2_with fail
  go_quiet (fail)
  go_wp2_with fail
  go_ret
  exact ⟨rfl, ((Below.refl _ _).alloc (Nat.le_refl _) _).trans ⟨rfl, rfl, rfl, Nat.le_refl _, fun _ _ => rfl⟩⟩
set_option maxHeartbeats 2000000 in
theorem rt4 {w : World} {p : Nat} (gv gt : Nat) (ep : Int) (hq : gv ≤ 1000000) (hq2 : gt ≤ 1000000) (k0 : w.cell? ⟨p, 0, none⟩ = some (.int .i64 ep)) (k2 : w.cell? ⟨p, 2, none⟩ = some (.int .i64 (gv : Int))) (k3 : w.cell? ⟨p, 3, none⟩ = some (.int .i64 (gt : Int))) (hlt : p < w.heap.size)
    (c : Int) (u : Bool) (sq ak : Int) (b : ByteArray) (hne : (ep != ep) = false) (d1 : decide (ak < 0) = false) (d2 : decide ((gv : Int) < ak) = false) (d3 : decide (sq < 0) = false) (d4 : decide ((gt : Int) + 32 < sq) = true) :
    Calls Try.prog 27 #[.pointer (some ⟨p, 0, none⟩), .agg #[.int .i64 c, .bool u, .int .i64 ep, .int .i64 sq, .int .i64 ak, .string b]] w fun e w' => e = .returned (.int .i64 4) ∧ Below w.heap.size w w' := by
  go_enter Try.func27, Try.ntmps27
  go_wp2_with fail
  go_quiet (fail)
  go_wp2_with fail
  go_quiet (fail)
  go_wp2_with fail
  go_ret
  exact ⟨rfl, ((Below.refl _ _).alloc (Nat.le_refl _) _).trans ⟨rfl, rfl, rfl, Nat.le_refl _, fun _ _ => rfl⟩⟩
set_option maxHeartbeats 2000000 in
theorem rt5 {w : World} {p : Nat} (gv gt : Nat) (ep : Int) (hq : gv ≤ 1000000) (hq2 : gt ≤ 1000000) (k0 : w.cell? ⟨p, 0, none⟩ = some (.int .i64 ep)) (k2 : w.cell? ⟨p, 2, none⟩ = some (.int .i64 (gv : Int))) (k3 : w.cell? ⟨p, 3, none⟩ = some (.int .i64 (gt : Int))) (hlt : p < w.heap.size)
    (c : Int) (u : Bool) (sq ak : Int) (b : ByteArray) (hne : (ep != ep) = false) (d1 : decide (ak < 0) = false) (d2 : decide ((gv : Int) < ak) = false) (d3 : decide (sq < 0) = false) (d4 : decide ((gt : Int) + 32 < sq) = false) (d5 : (sq == 0) = true) (d6 : (!b.toList.isEmpty) = true) (d7 : b.toList.isEmpty = false) :
    Calls Try.prog 27 #[.pointer (some ⟨p, 0, none⟩), .agg #[.int .i64 c, .bool u, .int .i64 ep, .int .i64 sq, .int .i64 ak, .string b]] w fun e w' => e = .returned (.int .i64 4) ∧ Below w.heap.size w w' := by
  go_enter Try.func27, Try.ntmps27
  go_wp2_with fail
  go_quiet (fail)
  go_wp2_with fail
  go_quiet (fail)
  go_wp2_with fail
  go_ret
  exact ⟨rfl, ((Below.refl _ _).alloc (Nat.le_refl _) _).trans ⟨rfl, rfl, rfl, Nat.le_refl _, fun _ _ => rfl⟩⟩
set_option maxHeartbeats 2000000 in
theorem rt6 {w : World} {p : Nat} (gv gt : Nat) (ep : Int) (hq : gv ≤ 1000000) (hq2 : gt ≤ 1000000) (k0 : w.cell? ⟨p, 0, none⟩ = some (.int .i64 ep)) (k2 : w.cell? ⟨p, 2, none⟩ = some (.int .i64 (gv : Int))) (k3 : w.cell? ⟨p, 3, none⟩ = some (.int .i64 (gt : Int))) (hlt : p < w.heap.size)
    (c : Int) (u : Bool) (sq ak : Int) (b : ByteArray) (hne : (ep != ep) = false) (d1 : decide (ak < 0) = false) (d2 : decide ((gv : Int) < ak) = false) (d3 : decide (sq < 0) = false) (d4 : decide ((gt : Int) + 32 < sq) = false) (d5 : (sq == 0) = true) (d6 : (!b.toList.isEmpty) = false) (d7 : b.toList.isEmpty = true) (d8 : ¬ 16384 < b.size) :
    Calls Try.prog 27 #[.pointer (some ⟨p, 0, none⟩), .agg #[.int .i64 c, .bool u, .int .i64 ep, .int .i64 sq, .int .i64 ak, .string b]] w fun e w' => e = .returned (.int .i64 0) ∧ Below w.heap.size w w' := by
  go_enter Try.func27, Try.ntmps27
  go_wp2_with fail
  go_quiet (fail)
  go_wp2_with fail
  go_quiet (fail)
  go_wp2_with fail
  go_ret
  exact ⟨rfl, ((Below.refl _ _).alloc (Nat.le_refl _) _).trans ⟨rfl, rfl, rfl, Nat.le_refl _, fun _ _ => rfl⟩⟩
set_option maxHeartbeats 2000000 in
theorem rt7 {w : World} {p : Nat} (gv gt : Nat) (ep : Int) (hq : gv ≤ 1000000) (hq2 : gt ≤ 1000000) (k0 : w.cell? ⟨p, 0, none⟩ = some (.int .i64 ep)) (k2 : w.cell? ⟨p, 2, none⟩ = some (.int .i64 (gv : Int))) (k3 : w.cell? ⟨p, 3, none⟩ = some (.int .i64 (gt : Int))) (hlt : p < w.heap.size)
    (c : Int) (u : Bool) (sq ak : Int) (b : ByteArray) (hne : (ep != ep) = false) (d1 : decide (ak < 0) = false) (d2 : decide ((gv : Int) < ak) = false) (d3 : decide (sq < 0) = false) (d4 : decide ((gt : Int) + 32 < sq) = false) (d5 : (sq == 0) = false) (d8 : 16384 < b.size) :
    Calls Try.prog 27 #[.pointer (some ⟨p, 0, none⟩), .agg #[.int .i64 c, .bool u, .int .i64 ep, .int .i64 sq, .int .i64 ak, .string b]] w fun e w' => e = .returned (.int .i64 5) ∧ Below w.heap.size w w' := by
  go_enter Try.func27, Try.ntmps27
  go_wp2_with fail
  go_quiet (fail)
  go_wp2_with fail
  go_quiet (fail)
  go_wp2_with fail
  go_ret
  exact ⟨rfl, ((Below.refl _ _).alloc (Nat.le_refl _) _).trans ⟨rfl, rfl, rfl, Nat.le_refl _, fun _ _ => rfl⟩⟩
set_option maxHeartbeats 2000000 in
theorem rt8 {w : World} {p : Nat} (gv gt : Nat) (ep : Int) (hq : gv ≤ 1000000) (hq2 : gt ≤ 1000000) (k0 : w.cell? ⟨p, 0, none⟩ = some (.int .i64 ep)) (k2 : w.cell? ⟨p, 2, none⟩ = some (.int .i64 (gv : Int))) (k3 : w.cell? ⟨p, 3, none⟩ = some (.int .i64 (gt : Int))) (hlt : p < w.heap.size)
    (c : Int) (u : Bool) (sq ak : Int) (b : ByteArray) (hne : (ep != ep) = false) (d1 : decide (ak < 0) = false) (d2 : decide ((gv : Int) < ak) = false) (d3 : decide (sq < 0) = false) (d4 : decide ((gt : Int) + 32 < sq) = false) (d5 : (sq == 0) = false) (d8 : ¬ 16384 < b.size) :
    Calls Try.prog 27 #[.pointer (some ⟨p, 0, none⟩), .agg #[.int .i64 c, .bool u, .int .i64 ep, .int .i64 sq, .int .i64 ak, .string b]] w fun e w' => e = .returned (.int .i64 0) ∧ Below w.heap.size w w' := by
  go_enter Try.func27, Try.ntmps27
  go_wp2_with fail
  go_quiet (fail)
  go_wp2_with fail
  go_quiet (fail)
  go_wp2_with fail
  go_ret
  exact ⟨rfl, ((Below.refl _ _).alloc (Nat.le_refl _) _).trans ⟨rfl, rfl, rfl, Nat.le_refl _, fun _ _ => rfl⟩⟩

theorem isEmpty_iff (b : ByteArray) : b.toList.isEmpty = decide (b.size = 0) := by
  rw [ByteArray.toList_eq]
  obtain ⟨⟨l⟩⟩ := b
  cases l <;> simp [ByteArray.size]

theorem right_any {w : World} {p : Nat} {E : En} {F : Nat → Prop} {N : Nat} (h : Rep w p E F N) (hN : N ≤ 10000) (g : Gr) :
    Calls Try.prog 27 #[.pointer (some ⟨p, 0, none⟩), Gr.val g] w fun e w' => e = .returned (.int .i64 (rightErr E g)) ∧ Below w.heap.size w w' := by
  obtain ⟨c, u, ep, sq, ak, b⟩ := g
  unfold Gr.val rightErr
  by_cases he : ep ≠ E.epoch
  · simp only [if_pos he]
    exact right_old h c u ep sq ak b he
  · simp only [if_neg he]
    have he' : ep = E.epoch := Classical.not_not.1 he
    have hok := h.ok
    obtain ⟨sv, m, h⟩ := h
    have k0 := c0 h
    have k2 := c2 h
    have k3 := c3 h
    have hlt := h.lt
    rw [← he'] at k0
    have hg1 := hok.given
    have hg2 := hok.got
    have b1 : E.given ≤ 1000000 := by omega
    have b2 : E.got ≤ 1000000 := by omega
    have hne : (ep != ep) = false := by simp
    by_cases a1 : ak < 0
    · rw [if_pos (show bad E _ = true from decide_eq_true (.inl a1))]
      exact rt1 _ _ ep b1 b2 k0 k2 k3 hlt c u sq ak b hne (decide_eq_true a1)
    have d1 := decide_eq_false a1
    by_cases a2 : (E.given : Int) < ak
    · rw [if_pos (show bad E _ = true from decide_eq_true (.inr (.inl a2)))]
      exact rt2 _ _ ep b1 b2 k0 k2 k3 hlt c u sq ak b hne d1 (decide_eq_true a2)
    have d2 := decide_eq_false a2
    by_cases a3 : sq < 0
    · rw [if_pos (show bad E _ = true from decide_eq_true (.inr (.inr (.inl a3))))]
      exact rt3 _ _ ep b1 b2 k0 k2 k3 hlt c u sq ak b hne d1 d2 (decide_eq_true a3)
    have d3 := decide_eq_false a3
    by_cases a4 : (E.got : Int) + 32 < sq
    · rw [if_pos (show bad E _ = true from decide_eq_true (.inr (.inr (.inr (.inl a4)))))]
      exact rt4 _ _ ep b1 b2 k0 k2 k3 hlt c u sq ak b hne d1 d2 d3 (decide_eq_true a4)
    have d4 := decide_eq_false a4
    by_cases a5 : sq = 0
    · by_cases a6 : b.size = 0
      · have e2 : b.toList.isEmpty = true := by rw [isEmpty_iff]; exact decide_eq_true a6
        have e1 : (!b.toList.isEmpty) = false := by rw [e2]; rfl
        rw [if_neg (by rw [show bad E _ = false from decide_eq_false (by show ¬ (ak < 0 ∨ (E.given : Int) < ak ∨ sq < 0 ∨ (E.got : Int) + 32 < sq ∨ (sq = 0 ∧ b.size ≠ 0)); omega)]; decide), if_neg (by show ¬ 16384 < b.size; omega)]
        exact rt6 _ _ ep b1 b2 k0 k2 k3 hlt c u sq ak b hne d1 d2 d3 d4 (beq_iff_eq.2 a5) e1 e2 (by omega)
      · have e2 : b.toList.isEmpty = false := by rw [isEmpty_iff]; exact decide_eq_false a6
        have e1 : (!b.toList.isEmpty) = true := by rw [e2]; rfl
        rw [if_pos (show bad E _ = true from decide_eq_true (.inr (.inr (.inr (.inr ⟨a5, a6⟩)))))]
        exact rt5 _ _ ep b1 b2 k0 k2 k3 hlt c u sq ak b hne d1 d2 d3 d4 (beq_iff_eq.2 a5) e1 e2
    · rw [if_neg (by rw [show bad E _ = false from decide_eq_false (by show ¬ (ak < 0 ∨ (E.given : Int) < ak ∨ sq < 0 ∨ (E.got : Int) + 32 < sq ∨ (sq = 0 ∧ b.size ≠ 0)); omega)]; decide)]
      by_cases a8 : 16384 < b.size
      · rw [if_pos a8]
        exact rt7 _ _ ep b1 b2 k0 k2 k3 hlt c u sq ak b hne d1 d2 d3 d4 (beq_eq_false_iff_ne.2 a5) a8
      · rw [if_neg a8]
        exact rt8 _ _ ep b1 b2 k0 k2 k3 hlt c u sq ak b hne d1 d2 d3 d4 (beq_eq_false_iff_ne.2 a5) a8

end Go.Proofs.Ytjlhipnlacfekaa.Wa
