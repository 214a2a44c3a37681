/-
  'Of' of no text, of one, two, three texts, as the laws call it; the laws' own first look ('awake'); the reference, bit by bit.
-/
import Derived.Test.YtbgooogabclhmaaOf
namespace Go.Proofs.Ytbgooogabclhmaa.Of
open Go.RowKit Go.Proofs.Ytbgooogabclhmaa.Pl
set_option linter.unusedSimpArgs false
set_option linter.unusedVariables false

theorem of_nil (w : World) : Calls Try.prog 8 #[.slice none 0 0] w fun e w' => e = .returned (.int .u32 0) ∧ Below w.heap.size w w' := by
  go_enter Try.func8, Try.ntmps8
  go_wp2_with fail
  refine wp_loop_rounds 1 ?_
  rw [rounds_succ]
  go_wp2_with fail
  go_ret
  exact ⟨rfl, Below.refl _ _⟩

theorem cell_new (w : World) (cs : Array Value) (e : TypeId) (j : Nat) (v : Value) (h : cs[j]? = some v) : (w.alloc (.cells cs e)).cell? ⟨w.heap.size, j, none⟩ = some v := by
  simp [World.cell?, World.alloc, -World.alloc_eq, h]
theorem below_new {w w' : World} {o : Obj} (h : Below (w.alloc o).heap.size (w.alloc o) w') : Below w.heap.size w w' :=
  below_then ((Below.refl _ _).alloc (Nat.le_refl _) _) (by simp) h

theorem of_one (s : ByteArray) (hs : s.size ≤ 281474976710656) (w : World) :
    Calls Try.prog 8 #[.slice (some ⟨w.heap.size, 0, none⟩) 1 1] (w.alloc (.cells #[.string s] 9)) fun e w' => e = .returned (.int .u32 ((ofL s.data.toList : Nat) : Int)) ∧ Below w.heap.size w w' := by
  refine (of_any w.heap.size 1 1 [s] _ rfl (by decide) ?_ ?_).mono ?_
  · intro i hi
    obtain rfl : i = 0 := by omega
    exact hs
  · intro j hj
    obtain rfl : j = 0 := by omega
    exact cell_new w _ _ _ _ rfl
  · rintro e w' ⟨rfl, hb⟩
    exact ⟨by simp [cat], below_new hb⟩

theorem of_two (s t : ByteArray) (hs : s.size ≤ 281474976710656) (ht : t.size ≤ 281474976710656) (w : World) :
    Calls Try.prog 8 #[.slice (some ⟨w.heap.size, 0, none⟩) 2 2] (w.alloc (.cells #[.string s, .string t] 9)) fun e w' => e = .returned (.int .u32 ((ofL (s.data.toList ++ t.data.toList) : Nat) : Int)) ∧ Below w.heap.size w w' := by
  refine (of_any w.heap.size 2 2 [s, t] _ rfl (by decide) ?_ ?_).mono ?_
  · intro i hi
    obtain rfl | rfl : i = 0 ∨ i = 1 := by omega
    · exact hs
    · exact ht
  · intro j hj
    obtain rfl | rfl : j = 0 ∨ j = 1 := by omega
    · exact cell_new w _ _ _ _ rfl
    · exact cell_new w _ _ _ _ rfl
  · rintro e w' ⟨rfl, hb⟩
    exact ⟨by simp [cat], below_new hb⟩

theorem of_three (s t u : ByteArray) (hs : s.size ≤ 281474976710656) (ht : t.size ≤ 281474976710656) (hu : u.size ≤ 281474976710656) (w : World) :
    Calls Try.prog 8 #[.slice (some ⟨w.heap.size, 0, none⟩) 3 3] (w.alloc (.cells #[.string s, .string t, .string u] 9)) fun e w' => e = .returned (.int .u32 ((ofL (s.data.toList ++ (t.data.toList ++ u.data.toList)) : Nat) : Int)) ∧ Below w.heap.size w w' := by
  refine (of_any w.heap.size 3 3 [s, t, u] _ rfl (by decide) ?_ ?_).mono ?_
  · intro i hi
    obtain rfl | rfl | rfl : i = 0 ∨ i = 1 ∨ i = 2 := by omega
    · exact hs
    · exact ht
    · exact hu
  · intro j hj
    obtain rfl | rfl | rfl : j = 0 ∨ j = 1 ∨ j = 2 := by omega
    · exact cell_new w _ _ _ _ rfl
    · exact cell_new w _ _ _ _ rfl
    · exact cell_new w _ _ _ _ rfl
  · rintro e w' ⟨rfl, hb⟩
    exact ⟨by simp [cat], below_new hb⟩

theorem awake_any (w : World) : Calls Try.prog 7 #[] w fun e w' => e = .returned (.bool true) ∧ Below w.heap.size w w' := by
  have H0 := Lib.hid of_nil
  have h2 : ∀ w, Calls Try.prog 8 #[.slice (some ⟨w.heap.size, 0, none⟩) 2 2] (w.alloc (.cells #[.string ⟨#[49, 50, 51, 52]⟩, .string ⟨#[53, 54, 55, 56, 57]⟩] 9)) fun e w' => e = .returned (.int .u32 3421780262) ∧ Below w.heap.size w w' := by
    intro w
    refine (of_two ⟨#[49, 50, 51, 52]⟩ ⟨#[53, 54, 55, 56, 57]⟩ (by decide) (by decide) w).mono ?_
    rintro e w' ⟨rfl, hb⟩
    refine ⟨?_, hb⟩
    have : ofL ([49, 50, 51, 52] ++ [53, 54, 55, 56, 57]) = 3421780262 := by decide +kernel
    show Ending.returned (.int .u32 ((ofL ([49, 50, 51, 52] ++ [53, 54, 55, 56, 57]) : Nat) : Int)) = _
    rw [this]
    rfl
  have H2 := Lib.hid h2
  clear h2
  go_enter Try.func7, Try.ntmps7
  go_wp2_with fail
  refine (H0.out _).mono ?_
  rintro e w1 ⟨rfl, hb1⟩
  go_wp2_with fail
  refine (H2.out _).mono ?_
  rintro e w2 ⟨rfl, hb2⟩
  go_wp2_with fail
  go_ret
  exact ⟨rfl, below_then hb1 hb1.size hb2⟩

theorem getD_at (s : ByteArray) (i : Nat) (h : i < s.size) : s[i] = s.data.toList.getD i 0 := by
  have h' : i < s.data.toList.length := h
  rw [List.getD_eq_getElem?_getD, List.getElem?_eq_getElem h']
  rfl
theorem ref_bit (x q j : Nat) (hx : x < 256) (hq : q < 2 ^ 32) :
    (bits BinOp.and IntKind.u32 ((x : Int) / 2 ^ j % 4294967296) 1 = ((x / 2 ^ j % 2 : Nat) : Int)) ∧ bits BinOp.and IntKind.u32 (q : Int) 1 = ((q % 2 : Nat) : Int) := by
  have hle : x / 2 ^ j ≤ x := Nat.div_le_self _ _
  have e : (x : Int) / 2 ^ j = ((x / 2 ^ j : Nat) : Int) := by push_cast; rfl
  rw [e]
  generalize x / 2 ^ j = m at hle
  have e2 : ((m : Nat) : Int) % 4294967296 = ((m : Nat) : Int) := by omega
  rw [e2, and32_1 _ (by omega), and32_1 q hq]
  exact ⟨rfl, rfl⟩
theorem ref_yes (x q j : Nat) (hx : x < 256) (hq : q < 2 ^ 32) (h : (bits BinOp.and IntKind.u32 ((x : Int) / 2 ^ j % 4294967296) 1 != bits BinOp.and IntKind.u32 (q : Int) 1) = true) :
    bits BinOp.xor IntKind.u32 ((q : Int) / 2) 3988292384 = ((sh (q ^^^ (x / 2 ^ j) % 2) : Nat) : Int) := by
  obtain ⟨e1, e2⟩ := ref_bit x q j hx hq
  rw [e1, e2, bne_iff_ne] at h
  rw [sh_ref q _ (by omega), if_neg (by omega), show (q : Int) / 2 = ((q / 2 : Nat) : Int) by omega]
  exact xor32 (q / 2) poly (by omega) poly_lt
theorem ref_no (x q j : Nat) (hx : x < 256) (hq : q < 2 ^ 32) (h : (bits BinOp.and IntKind.u32 ((x : Int) / 2 ^ j % 4294967296) 1 != bits BinOp.and IntKind.u32 (q : Int) 1) = false) :
    (q : Int) / 2 = ((sh (q ^^^ (x / 2 ^ j) % 2) : Nat) : Int) := by
  obtain ⟨e1, e2⟩ := ref_bit x q j hx hq
  rw [e1, e2, bne_eq_false_iff_eq] at h
  rw [sh_ref q _ (by omega), if_pos (by omega)]
  omega
theorem ref_inv (k x q j : Nat) : shk k (sh (q ^^^ (x / 2 ^ j) % 2) ^^^ x / 2 ^ (j + 1)) = shk (k + 1) (q ^^^ x / 2 ^ j) := by
  have e : x / 2 ^ (j + 1) = x / 2 ^ j / 2 := by rw [Nat.pow_succ, Nat.div_div_eq_div_mul]
  rw [e, bit_step]
  rfl
theorem ref_lt (x q j : Nat) (hq : q < 2 ^ 32) : sh (q ^^^ (x / 2 ^ j) % 2) < 2 ^ 32 :=
  sh_lt (Nat.xor_lt_two_pow hq (by omega))

set_option maxHeartbeats 1000000 in
theorem ref_any (s : ByteArray) (hs : s.size ≤ 281474976710656) (w : World) : Calls Try.prog 9 #[.string s] w fun e w' => e = .returned (.int .u32 ((ofL s.data.toList : Nat) : Int)) ∧ w = w' := by
  go_enter Try.func9, Try.ntmps9
  go_wp2_with fail
  go_loopg [3, 4] s.size (fun kq v3 v4 wr => ∃ (r i : Nat), v3 = .int .u32 (r : Int) ∧ v4 = .int .i64 (i : Int) ∧ kq + i ≤ s.size ∧ s.size ≤ kq + i ∧ Hid (r < 2 ^ 32) ∧ Hid (crc r (s.data.toList.drop i) = crc 4294967295 s.data.toList) ∧ w = wr)
  case atStart => exact ⟨4294967295, 0, rfl, rfl, by omega, by omega, Lib.hid (by decide), Lib.hid rfl, rfl⟩
  case round =>
    obtain ⟨r, i, rfl, rfl, h1, h2, HY, HS, rfl⟩ := hrel
    by_cases hi : i < s.size
    · have HD := Lib.hid (drop_cons s.data.toList i hi)
      go_wp2_with fail
      obtain ⟨go, hgo⟩ : ∃ m, m = gk := ⟨_, rfl⟩
      have HG := Lib.hid hgo
      clear hgo
      go_loopg [3, 5] 8 (fun kq v3 v5 wx => ∃ (q j : Nat), v3 = .int .u32 (q : Int) ∧ v5 = .int .i64 (j : Int) ∧ kq + j ≤ 8 ∧ 8 ≤ kq + j ∧ Hid (q < 2 ^ 32) ∧ Hid (shk kq (q ^^^ ((s.data.toList.getD i 0).toNat / 2 ^ j)) = st (r ^^^ (s.data.toList.getD i 0).toNat)) ∧ w = wx)
      case atStart => exact ⟨r, 0, rfl, rfl, by omega, by omega, HY, Lib.hid (by simp [st]), rfl⟩
      case round =>
        obtain ⟨q, j, rfl, rfl, h3, h4, HQ, HT, rfl⟩ := hrel
        by_cases hj : j < 8
        · go_wp2_with fail
          all_goals
            have hx : s[i].toNat < 256 := s[i].toNat_lt
            go_roundg (gk - 1)
            case measure => omega
            case rel =>
              obtain ⟨k, rfl⟩ : ∃ m, gk = m + 1 := ⟨gk - 1, by omega⟩
              refine ⟨sh (q ^^^ (s[i].toNat / 2 ^ j) % 2), j + 1, ?_, by go_num, by omega, by omega, Lib.hid (ref_lt _ _ _ HQ.out), Lib.hid ?_, rfl⟩
              · first
                | rw [ref_yes s[i].toNat q j hx HQ.out ‹_›]
                | rw [ref_no s[i].toNat q j hx HQ.out ‹_›]
              · rw [← HT.out, ← getD_at s i hi]
                exact ref_inv _ _ _ _
        · have hg : gk = 0 := by omega
          subst hg
          go_wp2_with fail
          go_roundg (go - 1)
          case measure => have := HG.out; omega
          case rel =>
            refine ⟨q, i + 1, rfl, by go_num, by have := HG.out; omega, by have := HG.out; omega, HQ, Lib.hid ?_, rfl⟩
            have ht := HT.out
            obtain rfl : j = 8 := by omega
            have hx : (s.data.toList.getD i 0).toNat < 2 ^ 8 := UInt8.toNat_lt _
            rw [Nat.div_eq_of_lt hx, Nat.xor_zero] at ht
            rw [← HS.out, HD.out, crc_cons, ← ht]
            rfl
    · have : gk = 0 := by omega
      subst this
      go_wp2_with fail
      go_ret
      refine ⟨?_, rfl⟩
      have hs := HS.out
      rw [List.drop_eq_nil_of_le (by have : s.data.toList.length = s.size := rfl; omega)] at hs
      have e1 : (4294967295 : Int) = ((4294967295 : Nat) : Int) := rfl
      rw [e1, xor32 _ _ HY.out (by decide), not_xor _ HY.out]
      unfold ofL
      rw [← hs]
      rfl

end Go.Proofs.Ytbgooogabclhmaa.Of
