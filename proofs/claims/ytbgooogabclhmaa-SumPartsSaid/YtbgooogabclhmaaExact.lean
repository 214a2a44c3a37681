/-
  SumExact, SumRest: the check of every bytes is what the reference says, bit by bit; a text and behind it its check have together one and the same check: for every string.
-/
import Derived.Test.YtbgooogabclhmaaOg
import Derived.Laws.BytesArg
namespace Go.Proofs.Ytbgooogabclhmaa.Of
open Go.RowKit Go.Proofs.Ytbgooogabclhmaa.Pl
set_option linter.unusedSimpArgs false
set_option linter.unusedVariables false

theorem below_new' {w w' : World} {o : Obj} (h : Below (w.heap.size + 1) (w.alloc o) w') : Below w.heap.size w w' :=
  below_then ((Below.refl _ _).alloc (Nat.le_refl _) _) (by simp) (by rw [World.size_alloc]; exact h)

theorem exact_walk (s : ByteArray) (hs : s.size ≤ 140737488351232) (w : World) : Calls Try.prog 3 #[.string s] w fun e w' => e = .returned (.bool true) ∧ Below w.heap.size w w' := by
  have HA := Lib.hid awake_any
  have H1 := Lib.hid (of_one s (by omega))
  have HR := Lib.hid (ref_any s (by omega))
  go_enter Try.func3, Try.ntmps3
  go_wp2_with fail
  refine (HA.out _).mono ?_
  rintro e w1 ⟨rfl, hb1⟩
  go_wp2_with fail
  refine (H1.out _).mono ?_
  rintro e w2 ⟨rfl, hb2⟩
  go_wp2_with fail
  refine (HR.out _).mono ?_
  rintro e w3 ⟨rfl, rfl⟩
  go_wp2_with fail
  go_ret
  exact ⟨rfl, below_then hb1 hb1.size hb2⟩

theorem conv_four (W : World) (x0 x1 x2 x3 : Int) : (convert 30 9 (.slice (some ⟨W.heap.size, 0, none⟩) 4 4)).run Try.prog (W.alloc (.cells #[.int .u8 x0, .int .u8 x1, .int .u8 x2, .int .u8 x3] 5)) = .ok (.string (strOfNums [x0, x1, x2, x3])) (W.alloc (.cells #[.int .u8 x0, .int .u8 x1, .int .u8 x2, .int .u8 x3] 5)) := by
  refine run_convert_bytes_arg (P := Try.prog) _ 30 5 Try.underlying30 Try.underlying5 W.heap.size 0 4 4 [x0, x1, x2, x3] rfl ?_ 9 Try.underlying9
  intro i hi
  rw [Nat.zero_add]
  obtain rfl | rfl | rfl | rfl : i = 0 ∨ i = 1 ∨ i = 2 ∨ i = 3 := by omega
  all_goals exact cell_new W _ _ _ _ rfl

theorem rest_four (c : Nat) (hc : c < 2 ^ 32) : (strOfNums [(c : Int) % 256, (c : Int) / 256 % 256, (c : Int) / 65536 % 256, (c : Int) / 16777216]).data.toList = [UInt8.ofNat (c % 256), UInt8.ofNat (c / 256 % 256), UInt8.ofNat (c / 65536 % 256), UInt8.ofNat (c / 16777216)] := by
  rw [strOfNums_data]
  simp only [List.map_cons, List.map_nil]
  rw [show ((c : Int) % 256).toNat = c % 256 by omega, show ((c : Int) / 256 % 256).toNat = c / 256 % 256 by omega, show ((c : Int) / 65536 % 256).toNat = c / 65536 % 256 by omega, show ((c : Int) / 16777216).toNat = c / 16777216 by omega]

theorem rest_sum (c : Nat) (hc : c < 2 ^ 32) : (UInt8.ofNat (c % 256)).toNat + 256 * (UInt8.ofNat (c / 256 % 256)).toNat + 65536 * (UInt8.ofNat (c / 65536 % 256)).toNat + 16777216 * (UInt8.ofNat (c / 16777216)).toNat = c := by
  simp only [UInt8.toNat_ofNat']
  omega

theorem rest_walk (s : ByteArray) (hs : s.size ≤ 140737488351232) (w : World) : Calls Try.prog 6 #[.string s] w fun e w' => e = .returned (.bool true) ∧ Below w.heap.size w w' := by
  have HA := Lib.hid awake_any
  have H1 := Lib.hid (of_one s (by omega))
  have hcv := conv_four
  by_cases hbig : 65536 < s.size
  · go_enter Try.func6, Try.ntmps6
    go_wp2_with fail
    refine (HA.out _).mono ?_
    rintro e w1 ⟨rfl, hb1⟩
    go_wp2_with fail
    go_ret
    exact ⟨rfl, hb1⟩
  · have hlt := ofL_lt s.data.toList
    go_enter Try.func6, Try.ntmps6
    go_wp2_with fail
    refine (HA.out _).mono ?_
    rintro e w1 ⟨rfl, hb1⟩
    go_wp2_with fail
    refine (H1.out _).mono ?_
    rintro e w2 ⟨rfl, hb2⟩
    go_wp2_with fail
    have h2 := of_two s (strOfNums [((ofL s.data.toList : Nat) : Int) % 256, ((ofL s.data.toList : Nat) : Int) / 256 % 256, ((ofL s.data.toList : Nat) : Int) / 65536 % 256, ((ofL s.data.toList : Nat) : Int) / 16777216]) (by omega) (by rw [strOfNums_size]; show 4 ≤ 281474976710656; decide) (w2.alloc (.cells #[.int .u8 (((ofL s.data.toList : Nat) : Int) % 256), .int .u8 (((ofL s.data.toList : Nat) : Int) / 256 % 256), .int .u8 (((ofL s.data.toList : Nat) : Int) / 65536 % 256), .int .u8 (((ofL s.data.toList : Nat) : Int) / 16777216)] 5))
    rw [rest_four _ hlt, rest s.data.toList _ _ _ _ (rest_sum _ hlt), World.size_alloc] at h2
    refine h2.mono ?_
    rintro e w3 ⟨rfl, hb3⟩
    go_wp2_with fail
    go_ret
    exact ⟨rfl, below_then (below_then hb1 hb1.size hb2) (Nat.le_trans hb1.size hb2.size) (below_new' hb3)⟩

end Go.Proofs.Ytbgooogabclhmaa.Of
