/-
  What New, Send, Out's and Take's helpers, and the looks at an end do: by their contracts on plain data.
-/
import Derived.Test.YtjlhipnlacfekaaRp
import Derived.OwnWalk
import Derived.BigQuiet
import Derived.Deep.QuietTactic
import Derived.RegionTactic
import Derived.BigRegion
import Derived.Outline
namespace Go.Proofs.Ytjlhipnlacfekaa.Wa
open Go.RowKit Go.Maps Go.Proofs.Ytjlhipnlacfekaa.Md Go.Proofs.Ytjlhipnlacfekaa.Hp Go.Proofs.Ytjlhipnlacfekaa.Rp
set_option linter.unusedSimpArgs false
set_option linter.unusedVariables false

theorem new_none (ep : Int) (h : ep < 1 ∨ 1073741824 < ep) (w : World) : Calls Try.prog 10 #[.int .i64 ep] w fun e w' => e = .returned (.pointer none) ∧ w = w' := by
  rcases h with h | h
  · go_enter Try.func10, Try.ntmps10
    go_wp2_with fail
    go_ret
    exact ⟨rfl, rfl⟩
  · have h' : ¬ ep < 1 := by omega
    go_enter Try.func10, Try.ntmps10
    go_wp2_with fail
    go_ret
    exact ⟨rfl, rfl⟩

theorem new_some (ep : Int) (h1 : 1 ≤ ep) (h2 : ep ≤ 1073741824) (w : World) :
    Calls Try.prog 10 #[.int .i64 ep] w fun e w' => e = .returned (.pointer (some ⟨w.heap.size + 1, 0, none⟩)) ∧ w' = ((w.alloc (.map #[] 0)).alloc (.cells (fields (newE ep) (.slice none 0 0) w.heap.size) 66)) := by
  have hmm := @run_makeMap Try.prog
  have h3 : ¬ ep < 1 := by omega
  have h4 : ¬ 1073741824 < ep := by omega
  go_enter Try.func10, Try.ntmps10
  go_wp2_with fail
  go_ret
  exact ⟨rfl, rfl⟩

theorem got_nil (w : World) : Calls Try.prog 13 #[.pointer none] w fun e w' => e = .returned (.int .i64 0) ∧ w = w' := by
  go_enter Try.func13, Try.ntmps13
  go_wp2_with fail
  go_ret
  exact ⟨rfl, rfl⟩
theorem open_nil (w : World) : Calls Try.prog 14 #[.pointer none] w fun e w' => e = .returned (.int .i64 0) ∧ w = w' := by
  go_enter Try.func14, Try.ntmps14
  go_wp2_with fail
  go_ret
  exact ⟨rfl, rfl⟩
theorem epoch_nil (w : World) : Calls Try.prog 16 #[.pointer none] w fun e w' => e = .returned (.int .i64 0) ∧ w = w' := by
  go_enter Try.func16, Try.ntmps16
  go_wp2_with fail
  go_ret
  exact ⟨rfl, rfl⟩
theorem owes_nil (w : World) : Calls Try.prog 17 #[.pointer none] w fun e w' => e = .returned (.bool false) ∧ w = w' := by
  go_enter Try.func17, Try.ntmps17
  go_wp2_with fail
  go_ret
  exact ⟨rfl, rfl⟩

section
variable {w : World} {p : Nat} {E : En} {F : Nat → Prop} {N : Nat} {sv : Value} {m : Nat}
theorem c0 (h : RepAt w p E F N sv m) : w.cell? ⟨p, 0, none⟩ = some (.int .i64 E.epoch) := blk_cell h.blk 0 _ rfl
theorem c1 (h : RepAt w p E F N sv m) : w.cell? ⟨p, 1, none⟩ = some sv := blk_cell h.blk 1 _ rfl
theorem c2 (h : RepAt w p E F N sv m) : w.cell? ⟨p, 2, none⟩ = some (.int .i64 (E.given : Int)) := blk_cell h.blk 2 _ rfl
theorem c3 (h : RepAt w p E F N sv m) : w.cell? ⟨p, 3, none⟩ = some (.int .i64 (E.got : Int)) := blk_cell h.blk 3 _ rfl
theorem c4 (h : RepAt w p E F N sv m) : w.cell? ⟨p, 4, none⟩ = some (.map (some m)) := blk_cell h.blk 4 _ rfl
theorem c5 (h : RepAt w p E F N sv m) : w.cell? ⟨p, 5, none⟩ = some (.bool E.owed) := blk_cell h.blk 5 _ rfl
theorem fz (h : RepAt w p E F N sv m) (i : Nat) : w.frozen? ⟨p, i, none⟩ = false := blk_free h.blk i
end

theorem got_any {w : World} {p : Nat} {E : En} {F : Nat → Prop} {N : Nat} (h : Rep w p E F N) : Calls Try.prog 13 #[.pointer (some ⟨p, 0, none⟩)] w fun e w' => e = .returned (.int .i64 (E.got : Int)) ∧ w = w' := by
  obtain ⟨sv, m, h⟩ := h
  have k3 := c3 h
  clear h
  go_enter Try.func13, Try.ntmps13
  go_wp2_with fail
  go_ret
  exact ⟨rfl, rfl⟩
theorem epoch_any {w : World} {p : Nat} {E : En} {F : Nat → Prop} {N : Nat} (h : Rep w p E F N) : Calls Try.prog 16 #[.pointer (some ⟨p, 0, none⟩)] w fun e w' => e = .returned (.int .i64 E.epoch) ∧ w = w' := by
  obtain ⟨sv, m, h⟩ := h
  have k0 := c0 h
  clear h
  go_enter Try.func16, Try.ntmps16
  go_wp2_with fail
  go_ret
  exact ⟨rfl, rfl⟩
theorem open_any {w : World} {p : Nat} {E : En} {F : Nat → Prop} {N : Nat} (h : Rep w p E F N) : Calls Try.prog 14 #[.pointer (some ⟨p, 0, none⟩)] w fun e w' => e = .returned (.int .i64 (E.opn.length : Int)) ∧ w = w' := by
  obtain ⟨sv, m, h⟩ := h
  have k1 := c1 h
  obtain ⟨ao, cap, rfl⟩ := h.sl.slice
  clear h
  go_enter Try.func14, Try.ntmps14
  go_wp2_with fail
  go_ret
  exact ⟨rfl, rfl⟩
theorem owes_any {w : World} {p : Nat} {E : En} {F : Nat → Prop} {N : Nat} (h : Rep w p E F N) : Calls Try.prog 17 #[.pointer (some ⟨p, 0, none⟩)] w fun e w' => e = .returned (.bool (owes E)) ∧ w = w' := by
  obtain ⟨sv, m, h⟩ := h
  have k1 := c1 h
  have k5 := c5 h
  obtain ⟨ao, cap, rfl⟩ := h.sl.slice
  clear h
  by_cases ho : E.owed = true
  · go_enter Try.func17, Try.ntmps17
    go_wp2_with fail
    go_ret
    exact ⟨by simp [owes, ho], rfl⟩
  · go_enter Try.func17, Try.ntmps17
    go_wp2_with fail
    go_ret
    exact ⟨by simp [owes, ho], rfl⟩

def Gr.val (g : Gr) : Value := .agg #[.int .i64 g.client, .bool g.up, .int .i64 g.epoch, .int .i64 g.seq, .int .i64 g.ack, .string g.body]
def Gr.cells (g : Gr) : List Value := [.int .i64 g.client, .bool g.up, .int .i64 g.epoch, .int .i64 g.seq, .int .i64 g.ack, .string g.body]

end Go.Proofs.Ytjlhipnlacfekaa.Wa
