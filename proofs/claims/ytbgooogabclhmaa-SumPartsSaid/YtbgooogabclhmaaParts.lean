/-
  SumParts: it doesn't matter how the bytes are parted: for every string (of up to 2^16 bytes, as the law says) and every two cuts.
-/
import Derived.Test.YtbgooogabclhmaaExact
import Derived.Deep.RegionWith
import Derived.Deep.RegionHeld3
import Derived.BigRegion
import Derived.Lib.IndexBytes
namespace Go.Proofs.Ytbgooogabclhmaa.Of
open Go.RowKit Go.Proofs.Ytbgooogabclhmaa.Pl
set_option linter.unusedSimpArgs false
set_option linter.unusedVariables false

theorem gen_one (s : ByteArray) (hs : s.size ≤ 281474976710656) (b : Nat) (w : World) (h0 : w.cell? ⟨b, 0, none⟩ = some (.string s)) :
    Calls Try.prog 8 #[.slice (some ⟨b, 0, none⟩) 1 1] w fun e w' => e = .returned (.int .u32 ((ofL s.data.toList : Nat) : Int)) ∧ Below w.heap.size w w' := by
  refine (of_any b 1 1 [s] w rfl (by decide) ?_ ?_).mono ?_
  · intro i hi
    obtain rfl : i = 0 := by omega
    exact hs
  · intro j hj
    obtain rfl : j = 0 := by omega
    exact h0
  · rintro e w' ⟨rfl, hb⟩
    exact ⟨by simp [cat], hb⟩

theorem gen_three (s t u x : ByteArray) (hs : s.size ≤ 281474976710656) (ht : t.size ≤ 281474976710656) (hu : u.size ≤ 281474976710656) (he : s.data.toList ++ (t.data.toList ++ u.data.toList) = x.data.toList) (b : Nat) (w : World)
    (h0 : w.cell? ⟨b, 0, none⟩ = some (.string s)) (h1 : w.cell? ⟨b, 1, none⟩ = some (.string t)) (h2 : w.cell? ⟨b, 2, none⟩ = some (.string u)) :
    Calls Try.prog 8 #[.slice (some ⟨b, 0, none⟩) 3 3] w fun e w' => e = .returned (.int .u32 ((ofL x.data.toList : Nat) : Int)) ∧ Below w.heap.size w w' := by
  refine (of_any b 3 3 [s, t, u] w rfl (by decide) ?_ ?_).mono ?_
  · intro i hi
    obtain rfl | rfl | rfl : i = 0 ∨ i = 1 ∨ i = 2 := by omega
    · exact hs
    · exact ht
    · exact hu
  · intro j hj
    obtain rfl | rfl | rfl : j = 0 ∨ j = 1 ∨ j = 2 := by omega
    · exact h0
    · exact h1
    · exact h2
  · rintro e w' ⟨rfl, hb⟩
    exact ⟨by simp [cat, he], hb⟩

theorem bcell {W w1 : World} (hb : Below W.heap.size W w1) : ∀ b o, b < W.heap.size → w1.cell? ⟨b, o, none⟩ = W.cell? ⟨b, o, none⟩ :=
  fun b o h => hb.cell (p := ⟨b, o, none⟩) h

theorem bl_alloc {w W : World} {o : Obj} (h : Below w.heap.size w W) : Below w.heap.size w (W.alloc o) := h.alloc h.size o
theorem bl_drew {w W : World} (h : Below w.heap.size w W) : Below w.heap.size w W.drew := h.drew
theorem bl_then {w W w' : World} (h : Below w.heap.size w W) (k : Below W.heap.size W w') : Below w.heap.size w w' := below_then h h.size k

theorem three_parts (s : ByteArray) (j m : Nat) (h : j ≤ m) : (s.extract 0 j).data.toList ++ ((s.extract j m).data.toList ++ (s.extract m s.size).data.toList) = s.data.toList := by
  obtain ⟨k, rfl⟩ : ∃ k, m = j + k := ⟨m - j, by omega⟩
  rw [Lib.extract_data, Lib.extract_data, Lib.extract_to_end, List.drop_zero, Nat.sub_zero, Nat.add_sub_cancel_left, ← List.drop_drop, List.take_append_drop, List.take_append_drop]

set_option maxHeartbeats 4000000 in
theorem parts_walk (s : ByteArray) (hs : s.size ≤ 140737488351232) (c : Int) (h1 : -9223372036854775808 ≤ c) (h2 : c ≤ 9223372036854775807) (d : Int) (h3 : -9223372036854775808 ≤ d) (h4 : d ≤ 9223372036854775807) (w : World) :
    Calls Try.prog 4 #[.string s, .int .i64 c, .int .i64 d] w fun e w' => e = .returned (.bool true) ∧ Below w.heap.size w w' := by
  have HA := Lib.hid awake_any
  by_cases h : 65536 < s.size
  · go_enter Try.func4, Try.ntmps4
    go_wp2_with fail
    refine (HA.out _).mono ?_
    rintro e w1 ⟨rfl, hb1⟩
    go_wp2_with fail
    go_ret
    exact ⟨rfl, hb1⟩
  · obtain ⟨j, hj, hjl⟩ : ∃ j : Nat, wrap64 ((IntKind.u64.wrap c).tmod ((s.size : Int) + 1)) = (j : Int) ∧ j ≤ s.size := by
      have hu : 0 ≤ IntKind.u64.wrap c := by simp [IntKind.wrap, IntKind.bits, IntKind.signed]; omega
      rw [Int.tmod_eq_emod_of_nonneg hu]
      have k2 := Int.emod_nonneg (IntKind.u64.wrap c) (show (s.size : Int) + 1 ≠ 0 by omega)
      have k3 := Int.emod_lt_of_pos (IntKind.u64.wrap c) (show (0 : Int) < (s.size : Int) + 1 by omega)
      generalize IntKind.u64.wrap c % ((s.size : Int) + 1) = m at k2 k3
      refine ⟨m.toNat, ?_, by omega⟩
      unfold wrap64; omega
    obtain ⟨k, hk, hkl⟩ : ∃ k : Nat, wrap64 ((IntKind.u64.wrap d).tmod ((s.size : Int) - (j : Int) + 1)) = (k : Int) ∧ j + k ≤ s.size := by
      have hu : 0 ≤ IntKind.u64.wrap d := by simp [IntKind.wrap, IntKind.bits, IntKind.signed]; omega
      rw [Int.tmod_eq_emod_of_nonneg hu]
      have k2 := Int.emod_nonneg (IntKind.u64.wrap d) (show (s.size : Int) - (j : Int) + 1 ≠ 0 by omega)
      have k3 := Int.emod_lt_of_pos (IntKind.u64.wrap d) (show (0 : Int) < (s.size : Int) - (j : Int) + 1 by omega)
      generalize IntKind.u64.wrap d % ((s.size : Int) - (j : Int) + 1) = m at k2 k3
      refine ⟨m.toNat, ?_, by omega⟩
      unfold wrap64; omega
    obtain ⟨m, hm, hjm⟩ : ∃ m : Nat, (j : Int) + (k : Int) = (m : Int) ∧ j ≤ m := ⟨j + k, by omega, by omega⟩
    have hms : m ≤ s.size := by omega
    have z1 : (s.extract 0 j).size ≤ 281474976710656 := by rw [ByteArray.size_extract]; omega
    have z2 : (s.extract j m).size ≤ 281474976710656 := by rw [ByteArray.size_extract]; omega
    have z3 : (s.extract m s.size).size ≤ 281474976710656 := by rw [ByteArray.size_extract]; omega
    have H1 := Lib.hid (gen_one s (by omega))
    have H3 := Lib.hid (gen_three _ _ _ s z1 z2 z3 (three_parts s j m hjm))
    have H4 := Lib.hid (gen_three ⟨#[]⟩ s ⟨#[]⟩ s (by decide) (by omega) (by decide) (by simp))
    clear z1 z2 z3
    have tok : True := trivial
    go_enter Try.func4, Try.ntmps4
    go_wp2_with fail
    refine (HA.out _).mono ?_
    rintro e w1 ⟨rfl, hb1⟩
    go_wp2_with fail
    have b0 : (0 : Int) ≤ (j : Int) := by omega
    have b1 : (j : Int) ≤ (s.size : Int) := by omega
    have b2 : (m : Int) ≤ (s.size : Int) := by omega
    have b3 : (0 : Int) ≤ (m : Int) := by omega
    have b4 : (j : Int) ≤ (m : Int) := by omega
    have HB := hb1
    clear hb1
    go_region_with (first
      | (go_at_call 8; have _t := tok; (with_reducible refine (H3.out _ _ (by simp [go_sem, *]; done) (by simp [go_sem, *]; done) (by simp [go_sem, *]; done)).mono ?_); rintro e w' ⟨rfl, hb⟩; have HB2 := bl_then (by repeat (first | (with_reducible exact HB) | apply bl_alloc | apply bl_drew)) hb; clear HB; have HB := HB2; clear HB2; have hc := bcell hb; clear hb; clear tok _t)
      | (go_at_call 8; (with_reducible refine (H1.out _ _ (by simp [go_sem, *]; done)).mono ?_); rintro e w' ⟨rfl, hb⟩; have HB2 := bl_then (by repeat (first | (with_reducible exact HB) | apply bl_alloc | apply bl_drew)) hb; clear HB; have HB := HB2; clear HB2; have hc := bcell hb; clear hb)
      | (go_at_call 8; (with_reducible refine (H4.out _ _ (by simp [go_sem, *]; done) (by simp [go_sem, *]; done) (by simp [go_sem, *]; done)).mono ?_); rintro e w' ⟨rfl, hb⟩; have HB2 := bl_then (by repeat (first | (with_reducible exact HB) | apply bl_alloc | apply bl_drew)) hb; clear HB; have HB := HB2; clear HB2; have hc := bcell hb; clear hb))
    all_goals
      go_wp2_with fail
      go_ret
      exact ⟨by first | (simp [go_sem]; done) | rfl, (by repeat (first | (with_reducible exact HB) | apply bl_alloc | apply bl_drew))⟩

end Go.Proofs.Ytbgooogabclhmaa.Of
