/-
  CordExact: any epoch.
-/
import Derived.Test.YtjlhipnlacfekaaXa
namespace Go.Proofs.Ytjlhipnlacfekaa.Rf
open Go.RowKit Go.Maps Go.Proofs.Ytjlhipnlacfekaa.Md Go.Proofs.Ytjlhipnlacfekaa.Hp Go.Proofs.Ytjlhipnlacfekaa.Rp Go.Proofs.Ytjlhipnlacfekaa.Lbl Go.Proofs.Ytjlhipnlacfekaa.Wa Go.Proofs.Ytjlhipnlacfekaa.Tm
set_option linter.unusedSimpArgs false
set_option linter.unusedVariables false

set_option maxHeartbeats 2000000 in
set_option maxRecDepth 20000 in
theorem exact_none (ep : Int) (h : ep < 1 ∨ 1073741824 < ep) (ax : Option Addr) (n cx : Nat) (w : World) :
    Calls Try.prog 5 #[.int .i64 ep, .slice ax n cx] w fun e w' => e = .returned (.bool true) ∧ Below w.heap.size w w' := by
  have HN1 := Lib.hid (new_none ep h)
  have HN2 := Lib.hid (rnew_none ep h)
  clear h
  go_enter Try.func5, Try.ntmps5
  go_wp2_with fail
  refine (awake_any w).mono ?_
  rintro e w1 ⟨rfl, hb1⟩
  have HB1 := Lib.hid hb1
  clear hb1
  go_wp2_with fail
  refine (HN1.out w1).mono ?_
  rintro e w2 ⟨rfl, rfl⟩
  go_wp2_with fail
  refine (HN2.out w1).mono ?_
  rintro e w3 ⟨rfl, rfl⟩
  go_wp2_with fail
  go_ret
  exact ⟨rfl, HB1.out⟩
theorem exact_walk (ep : Int) (ax : Option Addr) (n cx : Nat) (w : World) (hn : n ≤ maxLen) (hx : Acts w ax n) :
    Calls Try.prog 5 #[.int .i64 ep, .slice ax n cx] w fun e w' => e = .returned (.bool true) ∧ Below w.heap.size w w' := by
  by_cases h1 : 1 ≤ ep
  · by_cases h2 : ep ≤ 1073741824
    · exact exact_loop ep h1 h2 ax n cx w hn hx
    · exact exact_none ep (.inr (by omega)) ax n cx w
  · exact exact_none ep (.inl (by omega)) ax n cx w

end Go.Proofs.Ytjlhipnlacfekaa.Rf
