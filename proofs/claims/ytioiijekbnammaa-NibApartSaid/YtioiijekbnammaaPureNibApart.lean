/-
  Of two unlike numbers, written, neither begins with the other; a number's bytes, cut off, are none's: for every three ints.
-/
import Derived.Test.YtioiijekbnammaaPNibApartx1
import Derived.Test.YtioiijekbnammaaNb
import Derived.Laws.Strings
import Derived.Lib.Hide
namespace Go.Proofs.Ytioiijekbnammaa.Pure
open Go.RowKit Go.Proofs.Ytioiijekbnammaa.PNibApart Go.Proofs.YtioiijekbnammaaW.PrintWords Go.Proofs.YtioiijekbnammaaW.PrintLast Go.Proofs.YtioiijekbnammaaW.PrintMore Go.Proofs.Ytioiijekbnammaa.Nb
set_option linter.unusedSimpArgs false
set_option linter.unusedVariables false
attribute [local go_sem] max2_int min2_int max_two min_two max_three min_three max_four min_four

theorem wf_bd {n : Int} (h : (Lit.int .i64 n).wf = true) : -9223372036854775808 ≤ n ∧ n ≤ 9223372036854775807 := by
  simpa [Lit.wf, IntKind.min, IntKind.max, IntKind.bits, IntKind.signed] using h

/-- Int's loop. -/
theorem int_l0 (k : Nat) : ∀ (u : Nat) (acc : List Int), u < 2 ^ (7 * (k + 1)) → acc.length + k < 1000 → nib_Int.l0 (k + 1) (u : Int) acc = some (strOfNums (acc ++ (enc u).map Int.ofNat)) := by
  induction k with
  | zero =>
    intro u acc hu hl
    have h : u < 128 := by simpa using hu
    simp only [nib_Int.l0]
    rw [if_neg (by omega), if_pos (by omega), enc_small h, show (u : Int) % 256 = (u : Int) by omega]
    rfl
  | succ k ih =>
    intro u acc hu hl
    by_cases h : u < 128
    · simp only [nib_Int.l0]
      rw [if_neg (by omega), if_pos (by omega), enc_small h, show (u : Int) % 256 = (u : Int) by omega]
      rfl
    · rw [nib_Int.l0, if_pos (by omega), if_pos (by omega), enc_big (by omega)]
      rw [show (u : Int) / 128 = ((u / 128 : Nat) : Int) by omega, show (u : Int) % 256 = ((u % 256 : Nat) : Int) by omega, or8i _ (by omega), show u % 256 % 128 + 128 = u % 128 + 128 by omega]
      have e : 2 ^ (7 * (k + 1 + 1)) = 128 * 2 ^ (7 * (k + 1)) := by rw [Nat.mul_add 7 (k + 1) 1, Nat.pow_add]; omega
      rw [ih (u / 128) _ (by omega) (by simp; omega)]
      simp

theorem fold_bits {n : Int} (h : (Lit.int .i64 n).wf = true) : Go.bits .xor .u64 (IntKind.u64.wrap ((IntKind.u64.wrap (n)) * 2)) (IntKind.u64.wrap (n / 9223372036854775808)) = ((fold n : Nat) : Int) := by
  obtain ⟨h0, h1⟩ := wf_bd h
  rcases Int.lt_or_le n 0 with hn | hn
  · have e : n / 9223372036854775808 = -1 := by omega
    have e2 : IntKind.u64.wrap (-1) = 18446744073709551615 := by rw [wrap_u64]; omega
    have e1 : IntKind.u64.wrap (IntKind.u64.wrap n * 2) = ((18446744073709551616 + 2 * n).toNat : Int) := by rw [wrap_u64, wrap_u64]; omega
    rw [e, e2, e1, xor64_1 _ (by omega)]
    unfold fold; rw [if_neg (by omega)]; omega
  · have e : n / 9223372036854775808 = 0 := by omega
    have e2 : IntKind.u64.wrap 0 = 0 := by rw [wrap_u64]; omega
    have e1 : IntKind.u64.wrap (IntKind.u64.wrap n * 2) = ((2 * n).toNat : Int) := by rw [wrap_u64, wrap_u64]; omega
    rw [e, e2, e1, xor64_0 _ (by omega)]
    unfold fold; rw [if_pos hn]

theorem int_f {n : Int} (h : (Lit.int .i64 n).wf = true) (k : Nat) (hk : 30 ≤ k) : nib_Int.f k n = some (EN (fold n)) := by
  have h1 : nib_Int.f 11 n = some (EN (fold n)) := by
    unfold nib_Int.f
    rw [fold_bits h, int_l0 10 _ _ (Nat.lt_of_lt_of_le (fold_lt h) (by decide)) (by simp)]
    rfl
  exact at_rounds (nib_Int.mono n) (by omega) h1

theorem wf_size (s : ByteArray) (h : s.size ≤ 281474976710656) : (Lit.int .i64 (s.size : Int)).wf = true := by
  simp [Lit.wf, IntKind.min, IntKind.max, IntKind.bits, IntKind.signed]; omega

theorem EN_size {n : Int} (h : (Lit.int .i64 n).wf = true) : (EN (fold n)).size ≤ 10 := by
  rw [size_EN]
  exact enc_len_le _ 10 (by decide) (Nat.lt_of_lt_of_le (fold_lt h) (by decide))

theorem str_f (s : ByteArray) (h : s.size ≤ 281474976710656) (k : Nat) (hk : 30 ≤ k) : nib_Str.f k s = some (EN (fold s.size) ++ s) := by
  unfold nib_Str.f
  rw [int_f (wf_size s h) k hk]
  have := EN_size (wf_size s h)
  simp only [Option.bind_some]
  rw [if_pos (by omega)]

/-- What TakeInt's loop answers from a state on. -/
def TIg (s : ByteArray) (i u : Nat) : Int × ByteArray × Bool :=
  match dec i u ((bs s).drop i) with
  | none => (0, ⟨#[]⟩, false)
  | some (v, j) => (unf v, s.extract j s.size, true)

theorem unf_bits (v : Nat) (h : v < 2 ^ 64) : Go.bits .xor .i64 (wrap64 ((v : Int) / 2)) (wrap64 (-(wrap64 (Go.bits .and .u64 (v : Int) 1)))) = unf v := by
  rw [and64 v h]
  have e1 : wrap64 ((v : Int) / 2) = ((v / 2 : Nat) : Int) := by unfold wrap64; omega
  rw [e1]
  unfold unf
  by_cases hv : v % 2 = 0
  · have e2 : wrap64 (-(wrap64 ((v % 2 : Nat) : Int))) = 0 := by rw [hv]; unfold wrap64; omega
    rw [e2, xori_0 _ (by omega), if_pos hv]
  · have e2 : wrap64 (-(wrap64 ((v % 2 : Nat) : Int))) = -1 := by rw [show v % 2 = 1 by omega]; unfold wrap64; omega
    rw [e2, xori_1 _ (by omega), if_neg hv]

theorem drop_at (s : ByteArray) (i : Nat) (h : i < s.size) : (bs s).drop i = (bs s).getD i 0 :: (bs s).drop (i + 1) := by
  have h' : i < (bs s).length := by rw [bs_length]; exact h
  rw [List.drop_eq_getElem_cons h', List.getD_eq_getElem?_getD, List.getElem?_eq_getElem h']
  rfl

theorem byte_lt (s : ByteArray) (i : Nat) (h : i < s.size) : (bs s).getD i 0 < 256 := by
  have h' : i < (bs s).length := by rw [bs_length]; exact h
  rw [List.getD_eq_getElem?_getD, List.getElem?_eq_getElem h']
  exact bs_byte s _ (List.getElem_mem h')

theorem step_bits (i u b : Nat) (h9 : i ≤ 9) (hb : b < 256) (hu : u < 2 ^ (7 * i)) (hv : i = 9 → b ≤ 1) :
    Go.bits .or .u64 (u : Int) (shl .u64 (IntKind.u64.wrap (Go.bits .andNot .u8 (b : Int) 128)) (wrap64 (7 * (i : Int)))) = ((u + b % 128 * 2 ^ (7 * i) : Nat) : Int) := by
  rw [andnot8 b hb]
  have hlt : b % 128 * 2 ^ (7 * i) < 2 ^ 64 := bound1 (b % 128) i h9 (fun e => by have := hv e; omega) (by omega)
  have e1 : IntKind.u64.wrap ((b % 128 : Nat) : Int) = ((b % 128 : Nat) : Int) := wraps_u64 _ (by omega) (by omega)
  have e2 : wrap64 (7 * (i : Int)) = ((7 * i : Nat) : Int) := by unfold wrap64; omega
  have e3 : shl .u64 ((b % 128 : Nat) : Int) ((7 * i : Nat) : Int) = ((b % 128 * 2 ^ (7 * i) : Nat) : Int) := by
    unfold shl
    rw [Int.toNat_natCast, show min (7 * i) IntKind.u64.bits = 7 * i from Nat.min_eq_left (by show 7 * i ≤ 64; omega)]
    rw [show (((b % 128 : Nat) : Int) * 2 ^ (7 * i)) = ((b % 128 * 2 ^ (7 * i) : Nat) : Int) by push_cast; rfl]
    exact wraps_u64 _ (Int.natCast_nonneg _) (by exact_mod_cast hlt)
  rw [e1, e2, e3, or64 i u (b % 128) hu hlt h9]

theorem mn_le (s : ByteArray) (i : Nat) : ((i : Int) < mn (s.size : Int) 10) ↔ (i < s.size ∧ i < 10) := by
  unfold mn; split <;> omega

theorem next_lt {i u c : Nat} (hu : u < 2 ^ (7 * i)) (hc : c < 128) : u + c * 2 ^ (7 * i) < 2 ^ (7 * (i + 1)) := by
  have e : 2 ^ (7 * (i + 1)) = 128 * 2 ^ (7 * i) := by rw [Nat.mul_add, Nat.pow_add]; omega
  have : c * 2 ^ (7 * i) ≤ 127 * 2 ^ (7 * i) := Nat.mul_le_mul_right _ (by omega)
  omega

/-- One round's test. -/
theorem ti_round (s : ByteArray) (hs : s.size ≤ 281474976710656) (i : Nat) (h : i < s.size) (h10 : i < 10) (x5 x10 : Int) (k : Nat) (hx : (i : Int) < x10) :
    nib_TakeInt.l0 (k + 1) s x5 x10 (i : Int) = nib_TakeInt.j1 k s (Go.bits .or .u64 x5 (shl .u64 (IntKind.u64.wrap (Go.bits .andNot .u8 (((bs s).getD i 0 : Nat) : Int) 128)) (wrap64 (7 * (i : Int))))) i (((bs s).getD i 0 : Nat) : Int) x10 i (decide ((i = 9 ∧ 1 < (bs s).getD i 0) ∨ (0 < i ∧ (bs s).getD i 0 = 0))) := by
  have e2 : wrap64 (7 * (i : Int)) = ((7 * i : Nat) : Int) := by unfold wrap64; omega
  rw [nib_TakeInt.l0, if_pos hx, if_pos (by omega), if_pos (by omega), if_pos (by rw [e2]; omega), bs_at s i h]
  generalize (bs s).getD i 0 = b
  by_cases h9 : i = 9
  · rw [if_pos (by omega)]
    by_cases hb : 1 < b
    · rw [if_pos (by omega), decide_eq_true (.inl ⟨h9, hb⟩)]
    · rw [if_neg (by omega), if_pos (by omega)]
      congr 1
      rw [Bool.eq_iff_iff]; simp; omega
  · rw [if_neg (by omega)]
    by_cases h0 : 0 < i
    · rw [if_pos (by omega)]
      congr 1
      rw [Bool.eq_iff_iff]; simp; omega
    · rw [if_neg (by omega)]
      congr 1
      symm
      apply decide_eq_false
      omega

theorem ti_l0 (s : ByteArray) (hs : s.size ≤ 281474976710656) (d : Nat) : ∀ (i u k : Nat), i ≤ s.size → i ≤ 10 → 10 - i ≤ d → (i ≤ 9 → u < 2 ^ (7 * i)) → 2 * d + 1 ≤ k → nib_TakeInt.l0 k s (u : Int) (mn (s.size : Int) 10) (i : Int) = some (TIg s i u) := by
  induction d with
  | zero =>
    intro i u k h1 h2 h3 hu hk
    obtain ⟨k, rfl⟩ : ∃ m, k = m + 1 := ⟨k - 1, by omega⟩
    obtain rfl : i = 10 := by omega
    rw [nib_TakeInt.l0, if_neg (by rw [mn_le]; omega)]
    unfold TIg
    cases hd : (bs s).drop 10 with
    | nil => rfl
    | cons b l => simp only [dec]; rw [if_pos (by omega)]
  | succ d ih =>
    intro i u k h1 h2 h3 hu hk
    obtain ⟨k, rfl⟩ : ∃ m, k = m + 1 := ⟨k - 1, by omega⟩
    by_cases hlt : i < s.size ∧ i < 10
    · obtain ⟨hl, h10⟩ := hlt
      rw [ti_round s hs i hl h10 _ _ k ((mn_le s i).2 ⟨hl, h10⟩)]
      obtain ⟨k, rfl⟩ : ∃ m, k = m + 1 := ⟨k - 1, by omega⟩
      unfold TIg
      rw [drop_at s i hl]
      have hb := byte_lt s i hl
      generalize (bs s).getD i 0 = b at hb
      simp only [dec]
      rw [if_neg (show ¬ 10 ≤ i by omega), nib_TakeInt.j1]
      by_cases hf : (i = 9 ∧ 1 < b) ∨ (0 < i ∧ b = 0)
      · rw [if_pos (decide_eq_true hf), if_pos hf]
      · rw [if_neg (by rw [decide_eq_false hf]; decide), if_neg hf]
        have hu' := hu (by omega)
        rw [step_bits i u b (by omega) hb hu' (by omega)]
        have e1 : wrap64 ((i : Int) + 1) = ((i + 1 : Nat) : Int) := by unfold wrap64; omega
        by_cases h128 : b < 128
        · have hv : u + b % 128 * 2 ^ (7 * i) < 2 ^ 64 := by
            by_cases h9 : i = 9
            · subst h9
              have : b ≤ 1 := by omega
              have h4 : b % 128 * 2 ^ (7 * 9) ≤ 1 * 2 ^ (7 * 9) := Nat.mul_le_mul_right _ (by omega)
              have h5 : (2 : Nat) ^ (7 * 9) + 2 ^ (7 * 9) = 2 ^ 64 := by decide
              omega
            · exact Nat.lt_of_lt_of_le (next_lt hu' (by omega)) (Nat.pow_le_pow_right (by decide) (by omega))
          rw [if_pos (by omega), if_pos (by rw [e1]; omega), if_pos (by rw [e1]; omega), if_pos h128, e1, unf_bits _ hv, Int.toNat_natCast, show b % 128 = b by omega]
        · rw [if_neg (by omega), if_neg h128, e1]
          have := ih (i + 1) (u + b % 128 * 2 ^ (7 * i)) k (by omega) (by omega) (by omega) (fun h => next_lt hu' (by omega)) (by omega)
          rw [this, show b % 128 = b - 128 by omega]
          rfl
    · rw [nib_TakeInt.l0, if_neg (by rw [mn_le]; exact hlt)]
      unfold TIg
      by_cases h10 : i = 10
      · subst h10
        cases hd : (bs s).drop 10 with
        | nil => rfl
        | cons b l => simp only [dec]; rw [if_pos (by omega)]
      · have e : (bs s).drop i = [] := List.drop_eq_nil_of_le (by rw [bs_length]; omega)
        rw [e]
        rfl

theorem ti_f (s : ByteArray) (hs : s.size ≤ 281474976710656) (k : Nat) (hk : 30 ≤ k) : nib_TakeInt.f k s = some (TI s) := by
  unfold nib_TakeInt.f
  have := ti_l0 s hs 10 0 0 k (by omega) (by omega) (by omega) (fun _ => by decide) (by omega)
  simp only [Int.natCast_zero] at this
  rw [this]
  unfold TIg TI
  rw [List.drop_zero]
  rfl

theorem ts_f (s : ByteArray) (most : Int) (hs : s.size ≤ 281474976710656) (k : Nat) (hk : 30 ≤ k) : nib_TakeStr.f k s most = some (TS s most) := by
  unfold nib_TakeStr.f
  rw [ti_f s hs k hk]
  simp only [Option.bind_some]
  unfold TS
  have hm : ∀ (a b x : Int), x > mn a b ↔ (x > a ∨ x > b) := by intro a b x; unfold mn; split <;> omega
  by_cases h1 : (TI s).2.2 = true
  · rw [if_pos h1]
    by_cases h2 : (TI s).1 < 0
    · rw [if_pos h2, if_neg (by omega)]
    · rw [if_neg h2]
      by_cases h3 : (TI s).1 > mn most ((TI s).2.1.size : Int)
      · rw [if_pos h3, if_neg]
        rw [hm] at h3
        omega
      · rw [if_neg h3]
        rw [hm] at h3
        rw [if_pos (by omega), if_pos (by omega), if_pos ⟨h1, by omega, by omega, by omega⟩]
  · rw [if_neg h1, if_neg (fun h => h1 h.1)]

theorem enc0 : enc 0 = [0] := enc_small (by decide)
theorem enc1 : enc 1 = [1] := enc_small (by decide)
theorem enc4 : enc 4 = [4] := enc_small (by decide)
theorem enc128 : enc 128 = [128, 1] := by rw [enc_big (by decide)]; simp [enc1]

theorem awake_f (k : Nat) (hk : 30 ≤ k) : seneschallaw01_awake.f k = some true := by
  have e1 : TI ⟨#[128, 1, 120]⟩ = (64, ⟨#[120]⟩, true) := by decide +kernel
  have e2 : TS ⟨#[4, 104, 105]⟩ 2 = (⟨#[104, 105]⟩, ⟨#[]⟩, true) := by decide +kernel
  have e3 : TI ⟨#[128, 0]⟩ = (0, ⟨#[]⟩, false) := by decide +kernel
  have f0 : fold 0 = 0 := rfl
  have f1 : fold (-1) = 1 := rfl
  have f64 : fold 64 = 128 := rfl
  have f2 : fold ((⟨#[104, 105]⟩ : ByteArray).size : Int) = 4 := rfl
  have t0 : (EN 0).toList = [0] := by rw [ByteArray.toList_eq]; unfold EN; rw [enc0]; rfl
  have t1 : (EN 1).toList = [1] := by rw [ByteArray.toList_eq]; unfold EN; rw [enc1]; rfl
  have t128 : (EN 128).toList = [128, 1] := by rw [ByteArray.toList_eq]; unfold EN; rw [enc128]; rfl
  have t4 : (EN 4 ++ ⟨#[104, 105]⟩).toList = [4, 104, 105] := by rw [ByteArray.toList_eq]; unfold EN; rw [enc4]; rfl
  have u1 : (⟨#[120]⟩ : ByteArray).toList = [120] := by rw [ByteArray.toList_eq]
  have u2 : (⟨#[104, 105]⟩ : ByteArray).toList = [104, 105] := by rw [ByteArray.toList_eq]
  unfold seneschallaw01_awake.f
  rw [ti_f _ (by decide) k hk, ts_f _ _ (by decide) k hk, ti_f _ (by decide) k hk, int_f (by decide) k hk, int_f (by decide) k hk, int_f (by decide) k hk, str_f _ (by decide) k hk, e1, e2, e3, f0, f1, f64, f2]
  simp only [Option.bind_some, t0, t1, t128, t4, u1, u2]
  rfl

theorem apart_prefix (a b : Int) (ha : fold a < 2 ^ 64) (hb : fold b < 2 ^ 64) (h : (enc (fold a)).take (min (enc (fold a)).length (enc (fold b)).length) = (enc (fold b)).take (min (enc (fold a)).length (enc (fold b)).length)) : a = b := by
  have key : ∀ u v : Nat, u < 2 ^ 64 → v < 2 ^ 64 → (enc u).length ≤ (enc v).length → (enc u).take (min (enc u).length (enc v).length) = (enc v).take (min (enc u).length (enc v).length) → u = v := by
    intro u v hu hv hl he
    rw [Nat.min_eq_left hl, List.take_length] at he
    have h1 : enc v = enc u ++ (enc v).drop (enc u).length := by
      have := List.take_append_drop (enc u).length (enc v)
      rw [← he] at this
      exact this.symm
    have h2 := dec_enc u 0 0 ((enc v).drop (enc u).length) (by omega) (by simpa using hu)
    have h3 := dec_enc v 0 0 [] (by omega) (by simpa using hv)
    rw [← h1] at h2
    rw [List.append_nil, h2] at h3
    simp at h3
    exact h3.1
  rcases Nat.le_total (enc (fold a)).length (enc (fold b)).length with hl | hl
  · exact fold_inj (key _ _ ha hb hl h)
  · rw [Nat.min_comm] at h
    exact (fold_inj (key _ _ hb ha hl h.symm)).symm

theorem apart_cut (a : Int) (ha : fold a < 2 ^ 64) (k : Nat) (hk : k < (EN (fold a)).size) : (TI ((EN (fold a)).extract 0 k)).2.2 = false := by
  cases h : (TI ((EN (fold a)).extract 0 k)).2.2 with
  | false => rfl
  | true =>
    obtain ⟨hlt, he⟩ := TI_sound _ h
    generalize hn : (TI ((EN (fold a)).extract 0 k)).1 = n at hlt he
    generalize (TI ((EN (fold a)).extract 0 k)).2.1 = r at he
    have h1 := congrArg bs he
    rw [bs_extract2, bs_append, bs_EN, bs_EN, List.drop_zero, Nat.sub_zero] at h1
    rw [size_EN] at hk
    have h2 : enc (fold a) = enc (fold n) ++ (bs r ++ (enc (fold a)).drop k) := by
      rw [← List.append_assoc, ← h1, List.take_append_drop]
    have h3 := dec_enc (fold n) 0 0 (bs r ++ (enc (fold a)).drop k) (by omega) (by simpa using hlt)
    have h4 := dec_enc (fold a) 0 0 [] (by omega) (by simpa using ha)
    rw [← h2] at h3
    rw [List.append_nil, h3] at h4
    simp at h4
    have h5 := congrArg List.length h1
    rw [List.length_take, List.length_append] at h5
    omega

theorem bs_toList (s t : ByteArray) (h : s.toList = t.toList) : bs s = bs t := by
  rw [ByteArray.toList_eq, ByteArray.toList_eq] at h
  unfold bs
  rw [h]

theorem apart_one (a b : Int) (ha : fold a < 2 ^ 64) (hb : fold b < 2 ^ 64) (hl : (EN (fold b)).size ≤ (EN (fold a)).size) : (((EN (fold a)).extract 0 (EN (fold b)).size).toList == (EN (fold b)).toList) = (a == b) := by
  rw [Bool.eq_iff_iff, beq_iff_eq, beq_iff_eq]
  constructor
  · intro h
    have h1 := bs_toList _ _ h
    rw [bs_extract2, bs_EN, bs_EN, List.drop_zero, Nat.sub_zero, size_EN] at h1
    rw [size_EN, size_EN] at hl
    apply apart_prefix a b ha hb
    rw [Nat.min_eq_right hl, List.take_length]
    exact h1
  · rintro rfl
    rw [ByteArray.toList_eq, ByteArray.toList_eq, Lib.extract_to_end]
    rfl

theorem apart_two (a b : Int) (ha : fold a < 2 ^ 64) (hb : fold b < 2 ^ 64) (hl : (EN (fold a)).size ≤ (EN (fold b)).size) : ((EN (fold a)).toList == ((EN (fold b)).extract 0 (EN (fold a)).size).toList) = (a == b) := by
  have h := apart_one b a hb ha hl
  rw [Bool.eq_iff_iff, beq_iff_eq, beq_iff_eq] at h ⊢
  exact ⟨fun e => (h.1 e.symm).symm, fun e => (h.2 e.symm).symm⟩

theorem below4 {w w1 w2 w3 w4 : World} (h1 : Below w.heap.size w w1) (h2 : Below w1.heap.size w1 w2) (h3 : Below w2.heap.size w2 w3) (h4 : Below w3.heap.size w3 w4) : Below w.heap.size w w4 :=
  have a := below_then h1 h1.size h2
  have b := below_then a a.size h3
  below_then b b.size h4

set_option maxHeartbeats 1000000 in
theorem apart_walk (a b c : Int) (ha : (Lit.int .i64 a).wf = true) (hb : (Lit.int .i64 b).wf = true) (hc : (Lit.int .i64 c).wf = true) (w : World) :
    Calls Try.prog 7 #[.int .i64 a, .int .i64 b, .int .i64 c] w fun e w' => e = .returned (.bool true) ∧ Below w.heap.size w w' := by
  have hA := fun w => seneschallaw01_awake.calls 30 true w (awake_f 30 (by decide))
  have hX := fun w => nib_Int.calls 30 a _ w (int_f ha 30 (by decide))
  have hY := fun w => nib_Int.calls 30 b _ w (int_f hb 30 (by decide))
  have sX := EN_size ha
  have sY := EN_size hb
  have pX : 1 ≤ (EN (fold a)).size := by rw [size_EN]; exact enc_pos _
  have pY : 1 ≤ (EN (fold b)).size := by rw [size_EN]; exact enc_pos _
  have hone := fun h => beq_iff_eq.2 (apart_one a b (fold_lt ha) (fold_lt hb) h)
  have htwo := fun h => beq_iff_eq.2 (apart_two a b (fold_lt ha) (fold_lt hb) h)
  have hcut := apart_cut a (fold_lt ha)
  generalize EN (fold a) = X at *
  generalize EN (fold b) = Y at *
  have HA := Lib.hid hA
  have HX := Lib.hid hX
  have HY := Lib.hid hY
  clear hA hX hY
  obtain ⟨j, hj, hjl⟩ : ∃ j : Nat, wrap64 ((IntKind.u64.wrap c).tmod (X.size : Int)) = (j : Int) ∧ j < X.size := by
    have h1 : 0 ≤ IntKind.u64.wrap c := by rw [wrap_u64]; omega
    rw [Int.tmod_eq_emod_of_nonneg h1]
    have h2 := Int.emod_nonneg (IntKind.u64.wrap c) (show (X.size : Int) ≠ 0 by omega)
    have h3 := Int.emod_lt_of_pos (IntKind.u64.wrap c) (show (0 : Int) < (X.size : Int) by omega)
    generalize IntKind.u64.wrap c % (X.size : Int) = m at h2 h3
    refine ⟨m.toNat, ?_, by omega⟩
    unfold wrap64; omega
  have hT := ti_f (X.extract 0 j) (by rw [ByteArray.size_extract]; omega) 30 (by decide)
  have hF := hcut j hjl
  obtain ⟨t1, t2, t3, ht⟩ : ∃ t1 t2 t3, TI (X.extract 0 j) = (t1, t2, t3) := ⟨_, _, _, rfl⟩
  rw [ht] at hT hF
  simp only at hF
  subst hF
  have hZ := fun w => nib_TakeInt.calls 30 (X.extract 0 j) t1 t2 false w hT
  have HZ := Lib.hid hZ
  clear hZ hT ht hcut
  by_cases hl : Y.size < X.size
  all_goals
    go_enter Try.func7, Try.ntmps7
    go_wp2_with fail
    refine (HA.out _).mono ?_
    rintro e w1 ⟨rfl, hb1⟩
    go_wp2_with fail
    refine (HX.out _).mono ?_
    rintro e w2 ⟨rfl, hb2⟩
    go_wp2_with fail
    refine (HY.out _).mono ?_
    rintro e w3 ⟨rfl, hb3⟩
    have g1 : ((X.size : Int) == 0) = false := beq_eq_false_iff_ne.2 (by omega)
    have g2 : ((Y.size : Int) == 0) = false := beq_eq_false_iff_ne.2 (by omega)
    have g3 : decide (10 < X.size) = false := by simp; omega
    go_wp2_with fail
    refine (HZ.out _).mono ?_
    rintro e w4 ⟨rfl, hb4⟩
    go_wp2_with fail
    have b0 : (0 : Int) ≤ (Y.size : Int) := by omega
    have b1 : (0 : Int) ≤ (X.size : Int) := by omega
    have b2 : (Y.size : Int) ≤ (Y.size : Int) := by omega
    have b3 : (X.size : Int) ≤ (X.size : Int) := by omega
    first
    | have g4 := hone (by omega)
    | have g4 := htwo (by omega)
    clear hone htwo
    first
    | have b4 : (Y.size : Int) ≤ (X.size : Int) := by omega
    | have b4 : (X.size : Int) ≤ (Y.size : Int) := by omega
    go_quiet (fail)
    go_wp2_with fail
    go_ret
    exact ⟨rfl, pw_below_drewN (below4 hb1 hb2 hb3 hb4) _⟩

end Go.Proofs.Ytioiijekbnammaa.Pure
