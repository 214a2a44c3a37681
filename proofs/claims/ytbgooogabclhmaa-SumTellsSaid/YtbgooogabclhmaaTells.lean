/-
  SumTells: four bytes that stand together, put in the place of others, are told by the check, unless they are the same: for every string (of up to 2^16 bytes, as the law says), every place and every four bytes.
-/
import Derived.Test.YtbgooogabclhmaaExact
import Derived.Deep.QuietTactic
import Derived.BigQuiet
import Derived.Lib.IndexBytes
import Derived.Laws.Strings
namespace Go.Proofs.Ytbgooogabclhmaa.Of
open Go.RowKit Go.Proofs.Ytbgooogabclhmaa.Pl
set_option linter.unusedSimpArgs false
set_option linter.unusedVariables false

/-- The text with four other bytes. -/
def turned (s : ByteArray) (j : Nat) (x0 x1 x2 x3 : Int) : ByteArray := s.extract 0 j ++ strOfNums [x0, x1, x2, x3] ++ s.extract (j + 4) s.size
theorem turned_data (s : ByteArray) (j : Nat) (x0 x1 x2 x3 : Int) : (turned s j x0 x1 x2 x3).data.toList = s.data.toList.take j ++ ([UInt8.ofNat x0.toNat, UInt8.ofNat x1.toNat, UInt8.ofNat x2.toNat, UInt8.ofNat x3.toNat] ++ s.data.toList.drop (j + 4)) := by
  unfold turned
  rw [ByteArray.data_append, Array.toList_append, ByteArray.data_append, Array.toList_append, Lib.extract_data, Lib.extract_to_end, List.drop_zero, Nat.sub_zero, strOfNums_data, List.append_assoc]
  rfl
theorem four_of (l : List UInt8) (h : 4 ≤ l.length) : ∃ a b c d, l = [a, b, c, d] ++ l.drop 4 := by
  match l, h with
  | a :: b :: c :: d :: r, _ => exact ⟨a, b, c, d, rfl⟩
theorem told (s : ByteArray) (j : Nat) (hj : j + 4 ≤ s.size) (x0 x1 x2 x3 : Int) :
    ((((ofL s.data.toList : Nat) : Int) == ((ofL (turned s j x0 x1 x2 x3).data.toList : Nat) : Int)) == (s.toList == (turned s j x0 x1 x2 x3).toList)) = true := by
  have hl : s.data.toList.length = s.size := rfl
  obtain ⟨a, b, c, d, he⟩ := four_of (s.data.toList.drop j) (by rw [List.length_drop]; omega)
  rw [List.drop_drop] at he
  have hs : s.data.toList = s.data.toList.take j ++ ([a, b, c, d] ++ s.data.toList.drop (j + 4)) := by
    rw [← he, List.take_append_drop]
  rw [beq_iff_eq, Bool.eq_iff_iff, beq_iff_eq, beq_iff_eq, ByteArray.toList_eq, ByteArray.toList_eq, turned_data]
  generalize s.data.toList.take j = p at hs
  generalize s.data.toList.drop (j + 4) = q at hs
  rw [hs]
  constructor
  · intro h
    have h2 := tells p q a b c d _ _ _ _ (Int.ofNat_inj.1 h)
    rw [h2]
  · intro h
    rw [h]

set_option maxHeartbeats 1000000 in
theorem tells_walk (s : ByteArray) (hs : s.size ≤ 140737488351232) (at_ : Int) (h1 : -9223372036854775808 ≤ at_) (h2 : at_ ≤ 9223372036854775807) (x0 x1 x2 x3 : Int) (w : World) :
    Calls Try.prog 5 #[.string s, .int .i64 at_, .agg #[.int .u8 x0, .int .u8 x1, .int .u8 x2, .int .u8 x3]] w fun e w' => e = .returned (.bool true) ∧ Below w.heap.size w w' := by
  have HA := Lib.hid awake_any
  by_cases hout : s.size < 4 ∨ 65536 < s.size
  · rcases hout with h | h
    · go_enter Try.func5, Try.ntmps5
      go_wp2_with fail
      refine (HA.out _).mono ?_
      rintro e w1 ⟨rfl, hb1⟩
      go_wp2_with fail
      go_ret
      exact ⟨rfl, below_new' (by simpa using hb1)⟩
    · have h' : ¬ s.size < 4 := by omega
      go_enter Try.func5, Try.ntmps5
      go_wp2_with fail
      refine (HA.out _).mono ?_
      rintro e w1 ⟨rfl, hb1⟩
      go_wp2_with fail
      go_ret
      exact ⟨rfl, below_new' (by simpa using hb1)⟩
  · obtain ⟨j, hj, hjl⟩ : ∃ j : Nat, wrap64 ((IntKind.u64.wrap at_).tmod ((s.size : Int) - 3)) = (j : Int) ∧ j + 4 ≤ s.size := by
      have hu : 0 ≤ IntKind.u64.wrap at_ := by simp [IntKind.wrap, IntKind.bits, IntKind.signed]; omega
      rw [Int.tmod_eq_emod_of_nonneg hu]
      have k2 := Int.emod_nonneg (IntKind.u64.wrap at_) (show (s.size : Int) - 3 ≠ 0 by omega)
      have k3 := Int.emod_lt_of_pos (IntKind.u64.wrap at_) (show (0 : Int) < (s.size : Int) - 3 by omega)
      generalize IntKind.u64.wrap at_ % ((s.size : Int) - 3) = m at k2 k3
      refine ⟨m.toNat, ?_, by omega⟩
      unfold wrap64; omega
    have h3 : ¬ s.size < 4 := by omega
    have h4 : ¬ 65536 < s.size := by omega
    go_enter Try.func5, Try.ntmps5
    go_wp2_with fail
    refine (HA.out _).mono ?_
    rintro e w1 ⟨rfl, hb1⟩
    go_wp2_with fail
    have hb2 : Below w.heap.size w w1 := below_new' (by simpa using hb1)
    have hcv : ∀ n, (convert 30 9 (.slice (some ⟨w.heap.size, 0, none⟩) 4 4)).run Try.prog (w1.drewN n) = .ok (.string (strOfNums [x0, x1, x2, x3])) (w1.drewN n) := by
      intro n
      refine run_convert_bytes_arg (P := Try.prog) _ 30 5 Try.underlying30 Try.underlying5 w.heap.size 0 4 4 [x0, x1, x2, x3] rfl ?_ 9 Try.underlying9
      intro i hi
      rw [Nat.zero_add]
      have hc : ∀ v, (w.alloc (.cells #[.int .u8 x0, .int .u8 x1, .int .u8 x2, .int .u8 x3] 29)).cell? ⟨w.heap.size, i, none⟩ = some v → (w1.drewN n).cell? ⟨w.heap.size, i, none⟩ = some v := by
        intro v hv
        rw [← hv, World.cell?_drewN]
        exact hb1.cell (World.block_lt_of_cell? _ _ hv)
      obtain rfl | rfl | rfl | rfl : i = 0 ∨ i = 1 ∨ i = 2 ∨ i = 3 := by omega
      all_goals exact hc _ (cell_new w _ _ _ _ rfl)
    clear hb1
    have b0 : (0 : Int) ≤ (j : Int) := by omega
    have b1 : (j : Int) ≤ (s.size : Int) := by omega
    have b2 : (j : Int) + 4 ≤ (s.size : Int) := by omega
    have z0 : (strOfNums [x0, x1, x2, x3]).size = 4 := by rw [strOfNums_size]; rfl
    have z1 : (s.extract 0 j).size ≤ s.size := by rw [ByteArray.size_extract]; omega
    have z2 : (s.extract (j + 4) s.size).size ≤ s.size := by rw [ByteArray.size_extract]; omega
    have z3 : (s.extract 0 j ++ strOfNums [x0, x1, x2, x3]).size ≤ s.size + 4 := by rw [ByteArray.size_append]; omega
    have q1 : (9223372036854775807 < min j s.size + (strOfNums [x0, x1, x2, x3]).size) = False := eq_false (by omega)
    have q2 : (9223372036854775807 < min j s.size + (strOfNums [x0, x1, x2, x3]).size + (s.size - (j + 4))) = False := eq_false (by omega)
    clear z0 z1 z2 z3
    have HF := Lib.hid (told s j hjl x0 x1 x2 x3)
    have H1 := Lib.hid (of_one s (by omega))
    have ht : (turned s j x0 x1 x2 x3).size ≤ 281474976710656 := by
      unfold turned
      rw [ByteArray.size_append, ByteArray.size_append, strOfNums_size, ByteArray.size_extract, ByteArray.size_extract]
      show _ + 4 + _ ≤ _
      omega
    have H2 := Lib.hid (of_one (turned s j x0 x1 x2 x3) ht)
    clear ht
    unfold turned at H2 HF
    go_quiet (fail)
    clear hcv q1 q2
    have hb3 : Below w.heap.size w (w1.drewN nq) := ⟨hb2.os, hb2.tape, hb2.output, hb2.size, hb2.block⟩
    generalize w1.drewN nq = w2 at hb3 ⊢
    generalize s.extract 0 j ++ strOfNums [x0, x1, x2, x3] ++ s.extract (j + 4) s.size = t at H2 HF ⊢
    clear hb2
    go_wp2_with fail
    refine (H1.out _).mono ?_
    rintro e w3 ⟨rfl, hb4⟩
    go_wp2_with fail
    refine (H2.out _).mono ?_
    rintro e w4 ⟨rfl, hb5⟩
    have hf := HF.out
    go_wp2_with fail
    go_ret
    have hb6 := below_then hb3 hb3.size hb4
    exact ⟨rfl, below_then hb6 hb6.size hb5⟩

end Go.Proofs.Ytbgooogabclhmaa.Of
