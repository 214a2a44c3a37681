/-
  What the program's 'step' and 'Of' compute: the check of the parts' bytes, one behind the other, whatever the parts; nothing that was there is written.
-/
import Derived.Test.YtbgooogabclhmaaProg
import Derived.Test.YtbgooogabclhmaaPl
import Derived.WalkKit
import Derived.Below
import Derived.Deep.LoopGhost
import Derived.Deep.Draws
import Derived.Lib.ConvBytes
import Derived.Lib.Hide
import Derived.KernelRfl
namespace Go.Proofs.Ytbgooogabclhmaa.Of
open Go.RowKit Go.Proofs.Ytbgooogabclhmaa.Pl
set_option linter.unusedSimpArgs false
set_option linter.unusedVariables false

set_option maxHeartbeats 1000000 in
theorem step_any (x : Nat) (hx : x < 2 ^ 32) (w : World) : Calls Try.prog 10 #[.int .u32 (x : Int)] w fun e w' => e = .returned (.int .u32 ((st x : Nat) : Int)) ∧ w = w' := by
  have HX := Lib.hid hx
  clear hx
  go_enter Try.func10, Try.ntmps10
  go_wp2
  go_loopg [0, 3] 8 (fun kq v0 v3 w' => ∃ (y i : Nat), v0 = .int .u32 (y : Int) ∧ v3 = .int .i64 (i : Int) ∧ kq + i ≤ 8 ∧ 8 ≤ kq + i ∧ Hid (y < 2 ^ 32) ∧ Hid (shk kq y = st x) ∧ w = w')
  case atStart => exact ⟨x, 0, rfl, rfl, by omega, by omega, HX, Lib.hid rfl, rfl⟩
  case round =>
    obtain ⟨y, i, rfl, rfl, h1, h2, HY, HS, rfl⟩ := hrel
    by_cases hi : i < 8
    · go_wp2
      go_roundg (gk - 1)
      case measure => omega
      case rel =>
        obtain ⟨k, rfl⟩ : ∃ m, gk = m + 1 := ⟨gk - 1, by omega⟩
        refine ⟨sh y, i + 1, ?_, by go_num, by omega, by omega, Lib.hid (sh_lt HY.out), Lib.hid HS.out, rfl⟩
        rw [← step_bits y HY.out]
    · have : gk = 0 := by omega
      subst this
      go_wp2
      go_ret
      exact ⟨by rw [← HS.out]; rfl, rfl⟩

/-- The parts' bytes, one behind the other. -/
def cat : List ByteArray → List UInt8
  | [] => []
  | s :: l => s.data.toList ++ cat l
theorem cat_drop (ss : List ByteArray) (i : Nat) (h : i < ss.length) : cat (ss.drop i) = (ss.getD i ByteArray.empty).data.toList ++ cat (ss.drop (i + 1)) := by
  rw [List.drop_eq_getElem_cons h, List.getD_eq_getElem?_getD, List.getElem?_eq_getElem h]
  rfl

theorem below_bytes (w : World) (e : TypeId) (s : ByteArray) : Below w.heap.size w (Lib.bytesWorld w e s) :=
  ⟨rfl, rfl, rfl, by rw [Lib.bytesWorld_size]; omega, fun i hi => Lib.bytesWorld_at_old w e s i hi⟩
theorem below_then {B : Nat} {w w1 w2 : World} (h : Below B w w1) (hB : B ≤ w1.heap.size) (k : Below w1.heap.size w1 w2) : Below B w w2 :=
  h.trans ⟨k.os, k.tape, k.output, k.size, fun i hi => k.block i (Nat.lt_of_lt_of_le hi hB)⟩
theorem drop_cons (l : List UInt8) (j : Nat) (h : j < l.length) : l.drop j = l.getD j 0 :: l.drop (j + 1) := by
  rw [List.drop_eq_getElem_cons h, List.getD_eq_getElem?_getD, List.getElem?_eq_getElem h]
  rfl

set_option maxHeartbeats 1000000 in
theorem of_any (b n c : Nat) (ss : List ByteArray) (w : World) (hn : ss.length = n) (hn2 : n ≤ 100) (hsz : ∀ i, i < n → (ss.getD i ByteArray.empty).size ≤ 281474976710656)
    (hcell : ∀ j, j < n → w.cell? ⟨b, j, none⟩ = some (.string (ss.getD j ByteArray.empty))) :
    Calls Try.prog 8 #[.slice (some ⟨b, 0, none⟩) n c] w fun e w' => e = .returned (.int .u32 ((ofL (cat ss) : Nat) : Int)) ∧ Below w.heap.size w w' := by
  have HN := Lib.hid hn
  have HC := Lib.hid hcell
  have HZ := Lib.hid hsz
  clear hn hcell hsz
  go_enter Try.func8, Try.ntmps8
  go_wp2
  go_loopg [3, 10] n (fun kq v3 v10 wr => ∃ (r i : Nat), v3 = .int .u32 (r : Int) ∧ v10 = .int .i64 (i : Int) ∧ kq + i ≤ n ∧ n ≤ kq + i ∧ Hid (r < 2 ^ 32) ∧ Hid (crc r (cat (ss.drop i)) = crc 4294967295 (cat ss)) ∧ Below w.heap.size w wr)
  case atStart => exact ⟨4294967295, 0, rfl, rfl, by omega, by omega, Lib.hid (by decide), Lib.hid rfl, Below.refl _ _⟩
  case round =>
    obtain ⟨r, i, rfl, rfl, h1, h2, HY, HS, HB⟩ := hrel
    by_cases hi : i < n
    · have hc : wr.cell? ⟨b, i, none⟩ = some (.string (ss.getD i ByteArray.empty)) := by
        have := HC.out i hi
        rw [← this]
        exact HB.cell (World.block_lt_of_cell? w _ this)
      have hs := HZ.out i hi
      have HD := Lib.hid (cat_drop ss i (by have := HN.out; omega))
      generalize ss.getD i ByteArray.empty = s at hc hs HD
      have hconv := fun (w : World) => Lib.run_convert_string_bytes (P := Try.prog) w 9 30 5 s Try.underlying9 Try.underlying30 Try.underlying5
      go_wp2_with fail
      have HB1 : Below w.heap.size w (Lib.bytesWorld wr 5 s) := below_then HB HB.size (below_bytes wr 5 s)
      have HCB := Lib.hid (Lib.bytesWorld_cell wr 5 s)
      clear hconv hc
      generalize hW : Lib.bytesWorld wr 5 s = W1 at HB1 HCB ⊢
      clear hW
      have hgk : ∃ m, m = gk := ⟨_, rfl⟩
      obtain ⟨go, hgo⟩ := hgk
      have HG := Lib.hid hgo
      clear hgo
      go_loopg [3, 17] s.size (fun kq v3 v17 wx => ∃ (q j : Nat), v3 = .int .u32 (q : Int) ∧ v17 = .int .i64 (j : Int) ∧ kq + j ≤ s.size ∧ s.size ≤ kq + j ∧ Hid (q < 2 ^ 32) ∧ Hid (crc q (s.data.toList.drop j) = crc r s.data.toList) ∧ W1 = wx)
      case atStart => exact ⟨r, 0, rfl, rfl, by omega, by omega, HY, Lib.hid rfl, rfl⟩
      case round =>
        obtain ⟨q, j, rfl, rfl, h3, h4, HQ, HT, rfl⟩ := hrel
        by_cases hj : j < s.size
        · have hc := HCB.out j hj
          have HDR := Lib.hid (drop_cons s.data.toList j hj)
          generalize s.data.toList.getD j 0 = x at hc HDR
          have hx : x.toNat < 256 := x.toNat_lt
          have e1 := of_bits q x.toNat HQ.out hx
          have e2 := of_bits2 q x.toNat HQ.out hx
          have hlt : (q % 256) ^^^ x.toNat < 2 ^ 32 := Nat.xor_lt_two_pow (by omega) (by omega)
          have HST := Lib.hid (step_any _ hlt W1)
          have HE2 := Lib.hid e2
          clear hlt e2
          go_wp2_with (go_at_call 10; refine HST.out.mono ?_; rintro e w' ⟨rfl, rfl⟩)
          go_roundg (gk - 1)
          case measure => omega
          case rel =>
            refine ⟨st (q ^^^ x.toNat), j + 1, ?_, by go_num, by omega, by omega, Lib.hid (shk_lt 8 (byte_xor_lt HQ.out x)), Lib.hid ?_, rfl⟩
            · rw [← HE2.out]
            · rw [← HT.out, HDR.out, crc_cons]
        · have hg : gk = 0 := by omega
          subst hg
          go_wp2_with fail
          go_roundg (go - 1)
          case measure => have := HG.out; omega
          case rel =>
            refine ⟨q, i + 1, rfl, by go_num, by have := HG.out; omega, by have := HG.out; omega, HQ, Lib.hid ?_, HB1⟩
            have ht := HT.out
            rw [List.drop_eq_nil_of_le (by have : s.data.toList.length = s.size := rfl; omega), crc_nil] at ht
            rw [← HS.out, HD.out, crc_append, ← ht]
    · have : gk = 0 := by omega
      subst this
      go_wp2_with fail
      go_ret
      refine ⟨?_, HB⟩
      have hs := HS.out
      rw [List.drop_eq_nil_of_le (by have := HN.out; omega)] at hs
      have e1 : IntKind.u32.max = ((4294967295 : Nat) : Int) := by decide
      rw [e1, xor32 _ _ (by decide) HY.out, Nat.xor_comm, not_xor _ HY.out]
      unfold ofL
      rw [← hs]
      rfl

end Go.Proofs.Ytbgooogabclhmaa.Of
