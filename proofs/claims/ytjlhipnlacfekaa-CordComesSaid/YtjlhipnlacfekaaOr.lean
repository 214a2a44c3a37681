/-
  CordOrder: each once, in order: the walk.
-/
import Derived.Test.YtjlhipnlacfekaaTf
import Derived.Test.YtjlhipnlacfekaaAw
namespace Go.Proofs.Ytjlhipnlacfekaa.Tm
open Go.RowKit Go.Maps Go.Proofs.Ytjlhipnlacfekaa.Md Go.Proofs.Ytjlhipnlacfekaa.Hp Go.Proofs.Ytjlhipnlacfekaa.Rp Go.Proofs.Ytjlhipnlacfekaa.Lbl Go.Proofs.Ytjlhipnlacfekaa.Wa
set_option linter.unusedSimpArgs false
set_option linter.unusedVariables false

theorem Evs.keep {w w' : World} {ax : Option Addr} {n : Nat} (h : Evs w ax n) (hb : Below w.heap.size w w') : Evs w' ax n := by
  intro i hi
  obtain ⟨x, k, m, s, e, h0, h1, h2⟩ := h i hi
  exact ⟨x, k, m, s, e, keep_cell hb h0, keep_cell hb h1, keep_cell hb h2⟩
/-- An epoch that there is. -/
theorem epoch_of (c : Int) : ∃ k : Nat, wrap64 (1 + wrap64 ((IntKind.u64.wrap c).tmod 1000)) = (k : Int) ∧ 1 ≤ k ∧ k ≤ 1000 := by
  have hu : 0 ≤ IntKind.u64.wrap c := by simp [IntKind.wrap, IntKind.bits, IntKind.signed]; omega
  rw [Int.tmod_eq_emod_of_nonneg hu]
  refine ⟨1 + (IntKind.u64.wrap c % 1000).toNat, ?_, by omega, by omega⟩
  unfold wrap64; omega

set_option maxHeartbeats 2000000 in
set_option maxRecDepth 20000 in
theorem order_walk (c : Int) (ax : Option Addr) (n cx : Nat) (w : World) (hn : n ≤ maxLen) (hx : Evs w ax n) :
    Calls Try.prog 6 #[.int .i64 c, .slice ax n cx] w fun e w' => e = .returned (.bool true) ∧ Below w.heap.size w w' := by
  have HX := Lib.hid hx
  have hn2 : n ≤ 9223372036854775807 := by have := hn; unfold maxLen at this; omega
  have HN := Lib.hid hn
  clear hx hn
  obtain ⟨ep, hep, e1, e2⟩ := epoch_of c
  have HT := Lib.hid (fun W hx => talked_any (ep : Int) (by omega) (by omega) ax n cx W HN.out hx)
  clear e1 e2
  go_enter Try.func6, Try.ntmps6
  go_wp2_with fail
  refine (awake_any w).mono ?_
  rintro e w1 ⟨rfl, hb1⟩
  have HB1 := Lib.hid hb1
  have HX1 := Lib.hid (HX.out.keep hb1)
  clear hb1
  go_wp2_with fail
  go_loopg [5] 120 (fun kq v5 wr => ∃ i : Nat, v5 = .int .i64 (i : Int) ∧ kq + i ≤ 120 ∧ 120 ≤ kq + i ∧ wr = w1)
  case atStart => exact ⟨0, rfl, by omega, by omega, rfl⟩
  case round =>
    obtain ⟨i, rfl, hk1, hk2, rfl⟩ := hrel
    by_cases hi : i < n
    · obtain ⟨x, k, m, s, rfl, -, -, x2⟩ := HX1.out i hi
      by_cases h120 : i < 120
      · have d1 : decide (i < n) = true := decide_eq_true hi
        have d2 : decide ((i : Int) < 120) = true := decide_eq_true (by omega)
        by_cases hs : 1024 < s.size
        · go_wp2_with fail
          go_ret
          exact ⟨rfl, HB1.out⟩
        · go_wp2_with fail
          go_roundg (gk - 1)
          case measure => omega
          case rel => exact ⟨i + 1, by go_num, by omega, by omega, rfl⟩
      · have d1 : decide (i < n) = true := decide_eq_true hi
        have d2 : decide ((i : Int) < 120) = false := decide_eq_false (by omega)
        go_wp2_with fail
        refine (HT.out _ HX1.out).mono ?_
        rintro e w2 ⟨t, L, T, rfl, hrt, -, -⟩
        have HR := Lib.hid hrt
        clear hrt
        go_wp2_with fail
        go_ret
        exact ⟨rfl, HB1.out.trans (HR.out.bel.mono HB1.out.size)⟩
    · have d1 : decide (i < n) = false := decide_eq_false hi
      go_wp2_with fail
      refine (HT.out _ HX1.out).mono ?_
      rintro e w2 ⟨t, L, T, rfl, hrt, -, -⟩
      have HR := Lib.hid hrt
      clear hrt
      go_wp2_with fail
      go_ret
      exact ⟨rfl, HB1.out.trans (HR.out.bel.mono HB1.out.size)⟩

end Go.Proofs.Ytjlhipnlacfekaa.Tm
