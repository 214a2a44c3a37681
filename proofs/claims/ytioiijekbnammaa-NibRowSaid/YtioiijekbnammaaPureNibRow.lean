/-
  Numbers written one behind the other are read one by one as they were, and nothing is left: for every list (of up to 100 numbers, as the law says).
-/
import Derived.Test.YtioiijekbnammaaPNibRowx2
import Derived.Test.YtioiijekbnammaaNb
import Derived.Laws.Strings
namespace Go.Proofs.Ytioiijekbnammaa.Pure
open Go.RowKit Go.Proofs.Ytioiijekbnammaa.PNibRow Go.Proofs.YtioiijekbnammaaW.PrintWords Go.Proofs.YtioiijekbnammaaW.PrintLast Go.Proofs.YtioiijekbnammaaW.PrintMore Go.Proofs.Ytioiijekbnammaa.Nb
set_option linter.unusedSimpArgs false
set_option linter.unusedVariables false

theorem wf_bd {n : Int} (h : (Lit.int .i64 n).wf = true) : -9223372036854775808 ≤ n ∧ n ≤ 9223372036854775807 := by
  simpa [Lit.wf, IntKind.min, IntKind.max, IntKind.bits, IntKind.signed] using h

/-- Int's loop. -/
theorem int_l0 (k : Nat) : ∀ (u : Nat) (acc : List Int), u < 2 ^ (7 * (k + 1)) → acc.length + k < 1000 → nib_Int.l0 (k + 1) (u : Int) acc = some (strOfNums (acc ++ (enc u).map Int.ofNat)) := by
  induction k with
  | zero =>
    intro u acc hu hl
    have h : u < 128 := by simpa using hu
    simp only [nib_Int.l0]
    rw [if_neg (by omega), if_pos (by omega), enc_small h, show (u : Int) % 256 = (u : Int) by omega]
    rfl
  | succ k ih =>
    intro u acc hu hl
    by_cases h : u < 128
    · simp only [nib_Int.l0]
      rw [if_neg (by omega), if_pos (by omega), enc_small h, show (u : Int) % 256 = (u : Int) by omega]
      rfl
    · rw [nib_Int.l0, if_pos (by omega), if_pos (by omega), enc_big (by omega)]
      rw [show (u : Int) / 128 = ((u / 128 : Nat) : Int) by omega, show (u : Int) % 256 = ((u % 256 : Nat) : Int) by omega, or8i _ (by omega), show u % 256 % 128 + 128 = u % 128 + 128 by omega]
      have e : 2 ^ (7 * (k + 1 + 1)) = 128 * 2 ^ (7 * (k + 1)) := by rw [Nat.mul_add 7 (k + 1) 1, Nat.pow_add]; omega
      rw [ih (u / 128) _ (by omega) (by simp; omega)]
      simp

theorem fold_bits {n : Int} (h : (Lit.int .i64 n).wf = true) : Go.bits .xor .u64 (IntKind.u64.wrap ((IntKind.u64.wrap (n)) * 2)) (IntKind.u64.wrap (n / 9223372036854775808)) = ((fold n : Nat) : Int) := by
  obtain ⟨h0, h1⟩ := wf_bd h
  rcases Int.lt_or_le n 0 with hn | hn
  · have e : n / 9223372036854775808 = -1 := by omega
    have e2 : IntKind.u64.wrap (-1) = 18446744073709551615 := by rw [wrap_u64]; omega
    have e1 : IntKind.u64.wrap (IntKind.u64.wrap n * 2) = ((18446744073709551616 + 2 * n).toNat : Int) := by rw [wrap_u64, wrap_u64]; omega
    rw [e, e2, e1, xor64_1 _ (by omega)]
    unfold fold; rw [if_neg (by omega)]; omega
  · have e : n / 9223372036854775808 = 0 := by omega
    have e2 : IntKind.u64.wrap 0 = 0 := by rw [wrap_u64]; omega
    have e1 : IntKind.u64.wrap (IntKind.u64.wrap n * 2) = ((2 * n).toNat : Int) := by rw [wrap_u64, wrap_u64]; omega
    rw [e, e2, e1, xor64_0 _ (by omega)]
    unfold fold; rw [if_pos hn]

theorem int_f {n : Int} (h : (Lit.int .i64 n).wf = true) (k : Nat) (hk : 30 ≤ k) : nib_Int.f k n = some (EN (fold n)) := by
  have h1 : nib_Int.f 11 n = some (EN (fold n)) := by
    unfold nib_Int.f
    rw [fold_bits h, int_l0 10 _ _ (Nat.lt_of_lt_of_le (fold_lt h) (by decide)) (by simp)]
    rfl
  exact at_rounds (nib_Int.mono n) (by omega) h1

theorem wf_size (s : ByteArray) (h : s.size ≤ 281474976710656) : (Lit.int .i64 (s.size : Int)).wf = true := by
  simp [Lit.wf, IntKind.min, IntKind.max, IntKind.bits, IntKind.signed]; omega

theorem EN_size {n : Int} (h : (Lit.int .i64 n).wf = true) : (EN (fold n)).size ≤ 10 := by
  rw [size_EN]
  exact enc_len_le _ 10 (by decide) (Nat.lt_of_lt_of_le (fold_lt h) (by decide))

theorem str_f (s : ByteArray) (h : s.size ≤ 281474976710656) (k : Nat) (hk : 30 ≤ k) : nib_Str.f k s = some (EN (fold s.size) ++ s) := by
  unfold nib_Str.f
  rw [int_f (wf_size s h) k hk]
  have := EN_size (wf_size s h)
  simp only [Option.bind_some]
  rw [if_pos (by omega)]

/-- What TakeInt's loop answers from a state on. -/
def TIg (s : ByteArray) (i u : Nat) : Int × ByteArray × Bool :=
  match dec i u ((bs s).drop i) with
  | none => (0, ⟨#[]⟩, false)
  | some (v, j) => (unf v, s.extract j s.size, true)

theorem unf_bits (v : Nat) (h : v < 2 ^ 64) : Go.bits .xor .i64 (wrap64 ((v : Int) / 2)) (wrap64 (-(wrap64 (Go.bits .and .u64 (v : Int) 1)))) = unf v := by
  rw [and64 v h]
  have e1 : wrap64 ((v : Int) / 2) = ((v / 2 : Nat) : Int) := by unfold wrap64; omega
  rw [e1]
  unfold unf
  by_cases hv : v % 2 = 0
  · have e2 : wrap64 (-(wrap64 ((v % 2 : Nat) : Int))) = 0 := by rw [hv]; unfold wrap64; omega
    rw [e2, xori_0 _ (by omega), if_pos hv]
  · have e2 : wrap64 (-(wrap64 ((v % 2 : Nat) : Int))) = -1 := by rw [show v % 2 = 1 by omega]; unfold wrap64; omega
    rw [e2, xori_1 _ (by omega), if_neg hv]

theorem drop_at (s : ByteArray) (i : Nat) (h : i < s.size) : (bs s).drop i = (bs s).getD i 0 :: (bs s).drop (i + 1) := by
  have h' : i < (bs s).length := by rw [bs_length]; exact h
  rw [List.drop_eq_getElem_cons h', List.getD_eq_getElem?_getD, List.getElem?_eq_getElem h']
  rfl

theorem byte_lt (s : ByteArray) (i : Nat) (h : i < s.size) : (bs s).getD i 0 < 256 := by
  have h' : i < (bs s).length := by rw [bs_length]; exact h
  rw [List.getD_eq_getElem?_getD, List.getElem?_eq_getElem h']
  exact bs_byte s _ (List.getElem_mem h')

theorem step_bits (i u b : Nat) (h9 : i ≤ 9) (hb : b < 256) (hu : u < 2 ^ (7 * i)) (hv : i = 9 → b ≤ 1) :
    Go.bits .or .u64 (u : Int) (shl .u64 (IntKind.u64.wrap (Go.bits .andNot .u8 (b : Int) 128)) (wrap64 (7 * (i : Int)))) = ((u + b % 128 * 2 ^ (7 * i) : Nat) : Int) := by
  rw [andnot8 b hb]
  have hlt : b % 128 * 2 ^ (7 * i) < 2 ^ 64 := bound1 (b % 128) i h9 (fun e => by have := hv e; omega) (by omega)
  have e1 : IntKind.u64.wrap ((b % 128 : Nat) : Int) = ((b % 128 : Nat) : Int) := wraps_u64 _ (by omega) (by omega)
  have e2 : wrap64 (7 * (i : Int)) = ((7 * i : Nat) : Int) := by unfold wrap64; omega
  have e3 : shl .u64 ((b % 128 : Nat) : Int) ((7 * i : Nat) : Int) = ((b % 128 * 2 ^ (7 * i) : Nat) : Int) := by
    unfold shl
    rw [Int.toNat_natCast, show min (7 * i) IntKind.u64.bits = 7 * i from Nat.min_eq_left (by show 7 * i ≤ 64; omega)]
    rw [show (((b % 128 : Nat) : Int) * 2 ^ (7 * i)) = ((b % 128 * 2 ^ (7 * i) : Nat) : Int) by push_cast; rfl]
    exact wraps_u64 _ (Int.natCast_nonneg _) (by exact_mod_cast hlt)
  rw [e1, e2, e3, or64 i u (b % 128) hu hlt h9]

theorem mn_le (s : ByteArray) (i : Nat) : ((i : Int) < mn (s.size : Int) 10) ↔ (i < s.size ∧ i < 10) := by
  unfold mn; split <;> omega

theorem next_lt {i u c : Nat} (hu : u < 2 ^ (7 * i)) (hc : c < 128) : u + c * 2 ^ (7 * i) < 2 ^ (7 * (i + 1)) := by
  have e : 2 ^ (7 * (i + 1)) = 128 * 2 ^ (7 * i) := by rw [Nat.mul_add, Nat.pow_add]; omega
  have : c * 2 ^ (7 * i) ≤ 127 * 2 ^ (7 * i) := Nat.mul_le_mul_right _ (by omega)
  omega

/-- One round's test. -/
theorem ti_round (s : ByteArray) (hs : s.size ≤ 281474976710656) (i : Nat) (h : i < s.size) (h10 : i < 10) (x5 x10 : Int) (k : Nat) (hx : (i : Int) < x10) :
    nib_TakeInt.l0 (k + 1) s x5 x10 (i : Int) = nib_TakeInt.j1 k s (Go.bits .or .u64 x5 (shl .u64 (IntKind.u64.wrap (Go.bits .andNot .u8 (((bs s).getD i 0 : Nat) : Int) 128)) (wrap64 (7 * (i : Int))))) i (((bs s).getD i 0 : Nat) : Int) x10 i (decide ((i = 9 ∧ 1 < (bs s).getD i 0) ∨ (0 < i ∧ (bs s).getD i 0 = 0))) := by
  have e2 : wrap64 (7 * (i : Int)) = ((7 * i : Nat) : Int) := by unfold wrap64; omega
  rw [nib_TakeInt.l0, if_pos hx, if_pos (by omega), if_pos (by omega), if_pos (by rw [e2]; omega), bs_at s i h]
  generalize (bs s).getD i 0 = b
  by_cases h9 : i = 9
  · rw [if_pos (by omega)]
    by_cases hb : 1 < b
    · rw [if_pos (by omega), decide_eq_true (.inl ⟨h9, hb⟩)]
    · rw [if_neg (by omega), if_pos (by omega)]
      congr 1
      rw [Bool.eq_iff_iff]; simp; omega
  · rw [if_neg (by omega)]
    by_cases h0 : 0 < i
    · rw [if_pos (by omega)]
      congr 1
      rw [Bool.eq_iff_iff]; simp; omega
    · rw [if_neg (by omega)]
      congr 1
      symm
      apply decide_eq_false
      omega

theorem ti_l0 (s : ByteArray) (hs : s.size ≤ 281474976710656) (d : Nat) : ∀ (i u k : Nat), i ≤ s.size → i ≤ 10 → 10 - i ≤ d → (i ≤ 9 → u < 2 ^ (7 * i)) → 2 * d + 1 ≤ k → nib_TakeInt.l0 k s (u : Int) (mn (s.size : Int) 10) (i : Int) = some (TIg s i u) := by
  induction d with
  | zero =>
    intro i u k h1 h2 h3 hu hk
    obtain ⟨k, rfl⟩ : ∃ m, k = m + 1 := ⟨k - 1, by omega⟩
    obtain rfl : i = 10 := by omega
    rw [nib_TakeInt.l0, if_neg (by rw [mn_le]; omega)]
    unfold TIg
    cases hd : (bs s).drop 10 with
    | nil => rfl
    | cons b l => simp only [dec]; rw [if_pos (by omega)]
  | succ d ih =>
    intro i u k h1 h2 h3 hu hk
    obtain ⟨k, rfl⟩ : ∃ m, k = m + 1 := ⟨k - 1, by omega⟩
    by_cases hlt : i < s.size ∧ i < 10
    · obtain ⟨hl, h10⟩ := hlt
      rw [ti_round s hs i hl h10 _ _ k ((mn_le s i).2 ⟨hl, h10⟩)]
      obtain ⟨k, rfl⟩ : ∃ m, k = m + 1 := ⟨k - 1, by omega⟩
      unfold TIg
      rw [drop_at s i hl]
      have hb := byte_lt s i hl
      generalize (bs s).getD i 0 = b at hb
      simp only [dec]
      rw [if_neg (show ¬ 10 ≤ i by omega), nib_TakeInt.j1]
      by_cases hf : (i = 9 ∧ 1 < b) ∨ (0 < i ∧ b = 0)
      · rw [if_pos (decide_eq_true hf), if_pos hf]
      · rw [if_neg (by rw [decide_eq_false hf]; decide), if_neg hf]
        have hu' := hu (by omega)
        rw [step_bits i u b (by omega) hb hu' (by omega)]
        have e1 : wrap64 ((i : Int) + 1) = ((i + 1 : Nat) : Int) := by unfold wrap64; omega
        by_cases h128 : b < 128
        · have hv : u + b % 128 * 2 ^ (7 * i) < 2 ^ 64 := by
            by_cases h9 : i = 9
            · subst h9
              have : b ≤ 1 := by omega
              have h4 : b % 128 * 2 ^ (7 * 9) ≤ 1 * 2 ^ (7 * 9) := Nat.mul_le_mul_right _ (by omega)
              have h5 : (2 : Nat) ^ (7 * 9) + 2 ^ (7 * 9) = 2 ^ 64 := by decide
              omega
            · exact Nat.lt_of_lt_of_le (next_lt hu' (by omega)) (Nat.pow_le_pow_right (by decide) (by omega))
          rw [if_pos (by omega), if_pos (by rw [e1]; omega), if_pos (by rw [e1]; omega), if_pos h128, e1, unf_bits _ hv, Int.toNat_natCast, show b % 128 = b by omega]
        · rw [if_neg (by omega), if_neg h128, e1]
          have := ih (i + 1) (u + b % 128 * 2 ^ (7 * i)) k (by omega) (by omega) (by omega) (fun h => next_lt hu' (by omega)) (by omega)
          rw [this, show b % 128 = b - 128 by omega]
          rfl
    · rw [nib_TakeInt.l0, if_neg (by rw [mn_le]; exact hlt)]
      unfold TIg
      by_cases h10 : i = 10
      · subst h10
        cases hd : (bs s).drop 10 with
        | nil => rfl
        | cons b l => simp only [dec]; rw [if_pos (by omega)]
      · have e : (bs s).drop i = [] := List.drop_eq_nil_of_le (by rw [bs_length]; omega)
        rw [e]
        rfl

theorem ti_f (s : ByteArray) (hs : s.size ≤ 281474976710656) (k : Nat) (hk : 30 ≤ k) : nib_TakeInt.f k s = some (TI s) := by
  unfold nib_TakeInt.f
  have := ti_l0 s hs 10 0 0 k (by omega) (by omega) (by omega) (fun _ => by decide) (by omega)
  simp only [Int.natCast_zero] at this
  rw [this]
  unfold TIg TI
  rw [List.drop_zero]
  rfl

theorem ts_f (s : ByteArray) (most : Int) (hs : s.size ≤ 281474976710656) (k : Nat) (hk : 30 ≤ k) : nib_TakeStr.f k s most = some (TS s most) := by
  unfold nib_TakeStr.f
  rw [ti_f s hs k hk]
  simp only [Option.bind_some]
  unfold TS
  have hm : ∀ (a b x : Int), x > mn a b ↔ (x > a ∨ x > b) := by intro a b x; unfold mn; split <;> omega
  by_cases h1 : (TI s).2.2 = true
  · rw [if_pos h1]
    by_cases h2 : (TI s).1 < 0
    · rw [if_pos h2, if_neg (by omega)]
    · rw [if_neg h2]
      by_cases h3 : (TI s).1 > mn most ((TI s).2.1.size : Int)
      · rw [if_pos h3, if_neg]
        rw [hm] at h3
        omega
      · rw [if_neg h3]
        rw [hm] at h3
        rw [if_pos (by omega), if_pos (by omega), if_pos ⟨h1, by omega, by omega, by omega⟩]
  · rw [if_neg h1, if_neg (fun h => h1 h.1)]

theorem enc0 : enc 0 = [0] := enc_small (by decide)
theorem enc1 : enc 1 = [1] := enc_small (by decide)
theorem enc4 : enc 4 = [4] := enc_small (by decide)
theorem enc128 : enc 128 = [128, 1] := by rw [enc_big (by decide)]; simp [enc1]

theorem awake_f (k : Nat) (hk : 30 ≤ k) : seneschallaw01_awake.f k = some true := by
  have e1 : TI ⟨#[128, 1, 120]⟩ = (64, ⟨#[120]⟩, true) := by decide +kernel
  have e2 : TS ⟨#[4, 104, 105]⟩ 2 = (⟨#[104, 105]⟩, ⟨#[]⟩, true) := by decide +kernel
  have e3 : TI ⟨#[128, 0]⟩ = (0, ⟨#[]⟩, false) := by decide +kernel
  have f0 : fold 0 = 0 := rfl
  have f1 : fold (-1) = 1 := rfl
  have f64 : fold 64 = 128 := rfl
  have f2 : fold ((⟨#[104, 105]⟩ : ByteArray).size : Int) = 4 := rfl
  have t0 : (EN 0).toList = [0] := by rw [ByteArray.toList_eq]; unfold EN; rw [enc0]; rfl
  have t1 : (EN 1).toList = [1] := by rw [ByteArray.toList_eq]; unfold EN; rw [enc1]; rfl
  have t128 : (EN 128).toList = [128, 1] := by rw [ByteArray.toList_eq]; unfold EN; rw [enc128]; rfl
  have t4 : (EN 4 ++ ⟨#[104, 105]⟩).toList = [4, 104, 105] := by rw [ByteArray.toList_eq]; unfold EN; rw [enc4]; rfl
  have u1 : (⟨#[120]⟩ : ByteArray).toList = [120] := by rw [ByteArray.toList_eq]
  have u2 : (⟨#[104, 105]⟩ : ByteArray).toList = [104, 105] := by rw [ByteArray.toList_eq]
  unfold seneschallaw01_awake.f
  rw [ti_f _ (by decide) k hk, ts_f _ _ (by decide) k hk, ti_f _ (by decide) k hk, int_f (by decide) k hk, int_f (by decide) k hk, int_f (by decide) k hk, str_f _ (by decide) k hk, e1, e2, e3, f0, f1, f64, f2]
  simp only [Option.bind_some, t0, t1, t128, t4, u1, u2]
  rfl

/-- The numbers' bytes, one behind the other. -/
def cat : List Int → ByteArray
  | [] => ⟨#[]⟩
  | n :: l => EN (fold n) ++ cat l
theorem app_assoc (a b c : ByteArray) : (a ++ b) ++ c = a ++ (b ++ c) := by
  apply bs_inj
  simp only [bs_append, List.append_assoc]
theorem app_nil (a : ByteArray) : a ++ ⟨#[]⟩ = a := by
  apply bs_inj
  rw [bs_append]
  exact List.append_nil _
theorem cat_size (l : List Int) (h : ∀ x ∈ l, (Lit.int .i64 x).wf = true) : (cat l).size ≤ 10 * l.length := by
  induction l with
  | nil => exact Nat.zero_le _
  | cons n l ih =>
    have h1 := EN_size (h n (by simp))
    have h2 := ih fun x hx => h x (by simp [hx])
    simp only [cat, ByteArray.size_append, List.length_cons]
    omega
theorem drop_rd (l : List Int) (i : Nat) (h : i < l.length) : l.drop i = rd l (i : Int) :: l.drop (i + 1) := by
  rw [List.drop_eq_getElem_cons h]
  unfold rd
  rw [Int.toNat_natCast, List.getD_eq_getElem?_getD, List.getElem?_eq_getElem h]
  rfl
theorem wf_rd (l : List Int) (hw : ∀ x ∈ l, (Lit.int .i64 x).wf = true) (i : Nat) (h : i < l.length) : (Lit.int .i64 (rd l (i : Int))).wf = true := by
  unfold rd
  rw [Int.toNat_natCast, List.getD_eq_getElem?_getD, List.getElem?_eq_getElem h]
  exact hw _ (List.getElem_mem h)

theorem row_l1 (l : List Int) (hl : l.length ≤ 100) (hw : ∀ x ∈ l, (Lit.int .i64 x).wf = true) (d : Nat) : ∀ (i k : Nat), i ≤ l.length → l.length - i ≤ d → d + 31 ≤ k →
    seneschallaw01_NibRow.l1 k l (cat (l.drop i)) (i : Int) = some true := by
  induction d with
  | zero =>
    intro i k hi hd hk
    obtain ⟨k, rfl⟩ : ∃ m, k = m + 1 := ⟨k - 1, by omega⟩
    rw [seneschallaw01_NibRow.l1, if_neg (by omega), List.drop_eq_nil_of_le (by omega), cat, ByteArray.toList_eq]
    rfl
  | succ d ih =>
    intro i k hi hd hk
    obtain ⟨k, rfl⟩ : ∃ m, k = m + 1 := ⟨k - 1, by omega⟩
    by_cases h : i < l.length
    · have hs : (cat (l.drop i)).size ≤ 10 * (l.drop i).length := cat_size _ fun x hx => hw x (List.mem_of_mem_drop hx)
      have hs2 : (l.drop i).length ≤ 100 := by rw [List.length_drop]; omega
      have e2 : wrap64 ((i : Int) + 1) = ((i + 1 : Nat) : Int) := by unfold wrap64; omega
      rw [seneschallaw01_NibRow.l1, if_pos (by omega), ti_f _ (by omega) k (by omega), drop_rd l i h, cat, TI_EN _ (fold_lt (wf_rd l hw i h))]
      simp only [Option.bind_some, if_true]
      rw [if_pos (by omega), e2]
      exact ih (i + 1) k (by omega) (by omega) (by omega)
    · rw [seneschallaw01_NibRow.l1, if_neg (by omega), List.drop_eq_nil_of_le (by omega), cat, ByteArray.toList_eq]
      rfl

theorem row_l0 (l : List Int) (hl : l.length ≤ 100) (hw : ∀ x ∈ l, (Lit.int .i64 x).wf = true) (d : Nat) : ∀ (i k : Nat) (s : ByteArray), i ≤ l.length → l.length - i ≤ d → d + 200 ≤ k → s.size ≤ 10 * i → s ++ cat (l.drop i) = cat l →
    seneschallaw01_NibRow.l0 k l s (i : Int) = some true := by
  induction d with
  | zero =>
    intro i k s hi hd hk hs he
    obtain ⟨k, rfl⟩ : ∃ m, k = m + 1 := ⟨k - 1, by omega⟩
    rw [List.drop_eq_nil_of_le (by omega), cat, app_nil] at he
    have := row_l1 l hl hw 100 0 k (Nat.zero_le _) (by omega) (by omega)
    rw [seneschallaw01_NibRow.l0, if_neg (by omega), he]
    exact this
  | succ d ih =>
    intro i k s hi hd hk hs he
    obtain ⟨k, rfl⟩ : ∃ m, k = m + 1 := ⟨k - 1, by omega⟩
    by_cases h : i < l.length
    · have e2 : wrap64 ((i : Int) + 1) = ((i + 1 : Nat) : Int) := by unfold wrap64; omega
      have h1 := EN_size (wf_rd l hw i h)
      rw [seneschallaw01_NibRow.l0, if_pos (by omega), if_pos (by omega), int_f (wf_rd l hw i h) k (by omega)]
      simp only [Option.bind_some]
      rw [if_pos (by omega), e2]
      refine ih (i + 1) k _ (by omega) (by omega) (by omega) (by rw [ByteArray.size_append]; omega) ?_
      rw [app_assoc, ← he, drop_rd l i h, cat]
    · rw [List.drop_eq_nil_of_le (by omega), cat, app_nil] at he
      have := row_l1 l hl hw 100 0 k (Nat.zero_le _) (by omega) (by omega)
      rw [seneschallaw01_NibRow.l0, if_neg (by omega), he]
      exact this

theorem NibRow : seneschallaw01_NibRow.Pure := by
  intro l _ _ hw
  refine ⟨400, ?_⟩
  unfold seneschallaw01_NibRow.f
  rw [awake_f 400 (by decide)]
  simp only [Option.bind_some, if_true]
  by_cases h : (l.length : Int) > 100
  · rw [if_pos h]
  · rw [if_neg h]
    refine row_l0 l (by omega) hw 100 0 400 ⟨#[]⟩ (Nat.zero_le _) (by omega) (by decide) (Nat.le_refl _) ?_
    rw [List.drop_zero]
    apply bs_inj
    rw [bs_append]
    rfl

end Go.Proofs.Ytioiijekbnammaa.Pure
