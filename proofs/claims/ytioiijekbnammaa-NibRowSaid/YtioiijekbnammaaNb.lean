/-
  Plain facts on the bytes of numbers: what is written, read again, is what it was; a number has one form; no number begins with another one. No program is in sight.
-/
import Derived.Test.YtioiijekbnammaaWMore
import Derived.Lib.IndexBytes
import Derived.Laws.BitsLemmas
namespace Go.Proofs.Ytioiijekbnammaa.Nb
open Go.RowKit Go.Proofs.YtioiijekbnammaaW.PrintWords Go.Proofs.YtioiijekbnammaaW.PrintMore
set_option linter.unusedSimpArgs false
set_option linter.unusedVariables false

/-- The bytes of a folded number. -/
def enc (u : Nat) : List Nat := if u < 128 then [u] else (u % 128 + 128) :: enc (u / 128)
termination_by u
decreasing_by omega

theorem enc_small {u : Nat} (h : u < 128) : enc u = [u] := by rw [enc, if_pos h]
theorem enc_big {u : Nat} (h : 128 ≤ u) : enc u = (u % 128 + 128) :: enc (u / 128) := by rw [enc, if_neg (by omega)]
theorem enc_pos (u : Nat) : 0 < (enc u).length := by
  by_cases h : u < 128
  · rw [enc_small h]; simp
  · rw [enc_big (by omega)]; simp
theorem enc_byte (u : Nat) : ∀ b ∈ enc u, b < 256 := by
  induction u using Nat.strongRecOn with
  | _ u ih =>
    intro b hb
    by_cases h : u < 128
    · rw [enc_small h] at hb; simp at hb; omega
    · rw [enc_big (by omega)] at hb
      rcases List.mem_cons.1 hb with rfl | hb
      · omega
      · exact ih _ (by omega) b hb
theorem enc_len_le (u : Nat) : ∀ k, 1 ≤ k → u < 2 ^ (7 * k) → (enc u).length ≤ k := by
  induction u using Nat.strongRecOn with
  | _ u ih =>
    intro k hk hu
    by_cases h : u < 128
    · rw [enc_small h]; simpa using hk
    · rw [enc_big (by omega), List.length_cons]
      obtain ⟨k, rfl⟩ : ∃ m, k = m + 1 := ⟨k - 1, by omega⟩
      have hk1 : 1 ≤ k := by
        rcases Nat.eq_zero_or_pos k with rfl | h0
        · simp at hu; omega
        · exact h0
      have : 2 ^ (7 * (k + 1)) = 128 * 2 ^ (7 * k) := by rw [Nat.mul_add, Nat.pow_add]; omega
      have := ih (u / 128) (by omega) k hk1 (by omega)
      omega
theorem enc_len_ge (u : Nat) : ∀ k, 2 ^ (7 * k) ≤ u → k < (enc u).length := by
  induction u using Nat.strongRecOn with
  | _ u ih =>
    intro k hu
    rcases Nat.eq_zero_or_pos k with rfl | h0
    · exact enc_pos u
    · obtain ⟨k, rfl⟩ : ∃ m, k = m + 1 := ⟨k - 1, by omega⟩
      have e : 2 ^ (7 * (k + 1)) = 128 * 2 ^ (7 * k) := by rw [Nat.mul_add, Nat.pow_add]; omega
      have hp : 0 < 2 ^ (7 * k) := Nat.two_pow_pos _
      rw [enc_big (by omega), List.length_cons]
      have := ih (u / 128) (by omega) k (by omega)
      omega
theorem enc_mono {a b : Nat} (h : a ≤ b) : (enc a).length ≤ (enc b).length := by
  induction b using Nat.strongRecOn generalizing a with
  | _ b ih =>
    by_cases h1 : a < 128
    · rw [enc_small h1]; exact enc_pos b
    · rw [enc_big (u := a) (by omega), enc_big (u := b) (by omega)]
      simp only [List.length_cons]
      have := ih (b / 128) (by omega) (a := a / 128) (by omega)
      omega

/-- What bytes begin with: the number, and how many bytes it takes. -/
def dec : Nat → Nat → List Nat → Option (Nat × Nat)
  | _, _, [] => none
  | i, u, b :: l => if 10 ≤ i then none else if (i = 9 ∧ 1 < b) ∨ (0 < i ∧ b = 0) then none else if b < 128 then some (u + b * 2 ^ (7 * i), i + 1) else dec (i + 1) (u + (b - 128) * 2 ^ (7 * i)) l

theorem ten (i : Nat) (h : i ≤ 9) : i = 0 ∨ i = 1 ∨ i = 2 ∨ i = 3 ∨ i = 4 ∨ i = 5 ∨ i = 6 ∨ i = 7 ∨ i = 8 ∨ i = 9 := by omega

theorem small_i {i v : Nat} (hv : 0 < i → 0 < v) (h : v * 2 ^ (7 * i) < 2 ^ 64) : i ≤ 9 := by
  rcases Nat.lt_or_ge 9 i with hi | hi
  · have h1 : 2 ^ 70 ≤ 2 ^ (7 * i) := Nat.pow_le_pow_right (by decide) (by omega)
    have h2 : 1 * 2 ^ (7 * i) ≤ v * 2 ^ (7 * i) := Nat.mul_le_mul_right _ (hv (by omega))
    omega
  · exact hi

theorem dec_enc (v : Nat) : ∀ i acc r, (0 < i → 0 < v) → v * 2 ^ (7 * i) < 2 ^ 64 → dec i acc (enc v ++ r) = some (acc + v * 2 ^ (7 * i), i + (enc v).length) := by
  induction v using Nat.strongRecOn with
  | _ v ih =>
    intro i acc r hi hv
    have h9 := small_i hi hv
    by_cases h : v < 128
    · rw [enc_small h]
      simp only [List.cons_append, List.nil_append, dec, List.length_cons, List.length_nil]
      rw [if_neg (by omega), if_neg, if_pos h]
      rintro (⟨rfl, h1⟩ | ⟨h0, h1⟩)
      · omega
      · have := hi h0; omega
    · rw [enc_big (by omega)]
      simp only [List.cons_append, dec, List.length_cons]
      have h8 : i ≠ 9 := by rintro rfl; omega
      rw [if_neg (by omega), if_neg (by omega), if_neg (by omega)]
      have e : 2 ^ (7 * (i + 1)) = 128 * 2 ^ (7 * i) := by rw [Nat.mul_add, Nat.pow_add]; omega
      have e2 : v / 128 * 2 ^ (7 * (i + 1)) + (v % 128 + 128 - 128) * 2 ^ (7 * i) = v * 2 ^ (7 * i) := by
        rw [e, Nat.add_sub_cancel, ← Nat.mul_assoc, ← Nat.add_mul]
        congr 1
        omega
      rw [ih (v / 128) (by omega) (i + 1) _ r (by omega) (by omega)]
      congr 2
      · omega
      · omega

theorem bound1 (b i : Nat) (h9 : i ≤ 9) (h : i = 9 → b ≤ 1) (hb : b < 128) : b * 2 ^ (7 * i) < 2 ^ 64 := by
  by_cases e : i = 9
  · subst e
    have := h rfl
    have h2 : b * 2 ^ (7 * 9) ≤ 1 * 2 ^ (7 * 9) := Nat.mul_le_mul_right _ this
    exact Nat.lt_of_le_of_lt h2 (by decide)
  · have h2 : 2 ^ (7 * i) ≤ 2 ^ 56 := Nat.pow_le_pow_right (by decide) (by omega)
    have h3 : b * 2 ^ (7 * i) ≤ 127 * 2 ^ 56 := Nat.mul_le_mul (by omega) h2
    exact Nat.lt_of_le_of_lt h3 (by decide)

theorem bound2 (c w i : Nat) (h8 : i ≤ 8) (hc : c < 128) (h : w * 2 ^ (7 * (i + 1)) < 2 ^ 64) : (c + 128 * w) * 2 ^ (7 * i) < 2 ^ 64 := by
  have e : 2 ^ (7 * (i + 1)) = 128 * 2 ^ (7 * i) := by rw [Nat.mul_add, Nat.pow_add]; omega
  have e2 : 2 ^ 64 = 2 ^ (64 - 7 * (i + 1)) * 2 ^ (7 * (i + 1)) := by rw [← Nat.pow_add]; congr 1; omega
  rw [e2] at h ⊢
  have hw : w < 2 ^ (64 - 7 * (i + 1)) := Nat.lt_of_mul_lt_mul_right h
  have h1 : (w + 1) * 2 ^ (7 * (i + 1)) ≤ 2 ^ (64 - 7 * (i + 1)) * 2 ^ (7 * (i + 1)) := Nat.mul_le_mul_right _ hw
  refine Nat.lt_of_lt_of_le ?_ h1
  rw [e, ← Nat.mul_assoc]
  exact Nat.mul_lt_mul_of_pos_right (by omega) (Nat.two_pow_pos _)

theorem dec_sound (l : List Nat) : ∀ i acc v j, (∀ b ∈ l, b < 256) → dec i acc l = some (v, j) →
    ∃ w, v = acc + w * 2 ^ (7 * i) ∧ j = i + (enc w).length ∧ l = enc w ++ l.drop (j - i) ∧ (0 < i → 0 < w) ∧ w * 2 ^ (7 * i) < 2 ^ 64 ∧ i ≤ 9 := by
  induction l with
  | nil => intro i acc v j _ h; simp [dec] at h
  | cons b l ih =>
    intro i acc v j hb h
    have hb0 : b < 256 := hb b (by simp)
    simp only [dec] at h
    by_cases h1 : 10 ≤ i
    · rw [if_pos h1] at h; cases h
    rw [if_neg h1] at h
    by_cases h2 : (i = 9 ∧ 1 < b) ∨ (0 < i ∧ b = 0)
    · rw [if_pos h2] at h; cases h
    rw [if_neg h2] at h
    by_cases h3 : b < 128
    · rw [if_pos h3] at h
      simp only [Option.some.injEq, Prod.mk.injEq] at h
      obtain ⟨rfl, rfl⟩ := h
      refine ⟨b, rfl, by rw [enc_small h3]; rfl, ?_, by omega, ?_, by omega⟩
      · rw [enc_small h3, Nat.add_sub_cancel_left]; rfl
      · exact bound1 b i (by omega) (fun e => by omega) h3
    · rw [if_neg h3] at h
      obtain ⟨w, hv, hj, hl, hw, hlt, h9⟩ := ih (i + 1) _ v j (fun x hx => hb x (by simp [hx])) h
      have hw0 := hw (by omega)
      have hd : (b - 128 + 128 * w) / 128 = w := by omega
      have hm : (b - 128 + 128 * w) % 128 + 128 = b := by omega
      have henc : enc (b - 128 + 128 * w) = b :: enc w := by rw [enc_big (by omega), hd, hm]
      have e : 2 ^ (7 * (i + 1)) = 128 * 2 ^ (7 * i) := by rw [Nat.mul_add, Nat.pow_add]; omega
      refine ⟨b - 128 + 128 * w, ?_, ?_, ?_, by omega, ?_, by omega⟩
      · rw [hv, e, Nat.add_mul, Nat.mul_comm 128 w, Nat.mul_assoc]; omega
      · rw [henc, List.length_cons]; omega
      · have hji : j - i = (j - (i + 1)) + 1 := by omega
        rw [henc, hji, List.drop_succ_cons, List.cons_append, ← hl]
      · exact bound2 (b - 128) w i (by omega) (by omega) hlt

/-- The folded number, and back. -/
def fold (n : Int) : Nat := if 0 ≤ n then (2 * n).toNat else (-2 * n - 1).toNat
def unf (u : Nat) : Int := if u % 2 = 0 then ((u / 2 : Nat) : Int) else -((u / 2 : Nat) : Int) - 1
theorem unf_fold (n : Int) : unf (fold n) = n := by unfold unf fold; split <;> split <;> omega
theorem fold_unf (u : Nat) : fold (unf u) = u := by unfold unf fold; split <;> split <;> omega
theorem fold_lt {n : Int} (h : (Lit.int .i64 n).wf = true) : fold n < 2 ^ 64 := by
  simp [Lit.wf, IntKind.min, IntKind.max, IntKind.bits, IntKind.signed] at h
  unfold fold; split <;> omega
theorem wf_unf {u : Nat} (h : u < 2 ^ 64) : (Lit.int .i64 (unf u)).wf = true := by
  simp [Lit.wf, IntKind.min, IntKind.max, IntKind.bits, IntKind.signed]
  unfold unf; split <;> omega
theorem fold_inj {a b : Int} (h : fold a = fold b) : a = b := by rw [← unf_fold a, h, unf_fold]

/-! ### bytes -/
def bs (s : ByteArray) : List Nat := s.data.toList.map UInt8.toNat
theorem bs_byte (s : ByteArray) : ∀ b ∈ bs s, b < 256 := by
  intro b hb
  obtain ⟨x, _, rfl⟩ := List.mem_map.1 hb
  exact x.toNat_lt
theorem bs_length (s : ByteArray) : (bs s).length = s.size := by
  unfold bs
  rw [List.length_map]
  rfl
theorem bs_append (s t : ByteArray) : bs (s ++ t) = bs s ++ bs t := by simp [bs]
theorem bs_inj {s t : ByteArray} (h : bs s = bs t) : s = t := by
  obtain ⟨⟨s⟩⟩ := s
  obtain ⟨⟨t⟩⟩ := t
  have : s = t := by
    simp only [bs] at h
    exact (List.map_inj_right (fun a b h => UInt8.toNat_inj.1 h)).1 h
  rw [this]
theorem bs_extract (s : ByteArray) (a : Nat) : bs (s.extract a s.size) = (bs s).drop a := by
  unfold bs
  rw [Lib.extract_to_end, List.map_drop]
theorem bs_extract2 (s : ByteArray) (a b : Nat) : bs (s.extract a b) = ((bs s).drop a).take (b - a) := by
  unfold bs
  rw [Lib.extract_data, List.map_take, List.map_drop]
theorem bs_at (s : ByteArray) (i : Nat) (h : i < s.size) : bt s (i : Int) = (((bs s).getD i 0 : Nat) : Int) := by
  unfold bt bs
  have h' : i < s.data.toList.length := h
  simp only [Int.toNat_natCast, dif_pos h]
  rw [List.getD_eq_getElem?_getD, List.getElem?_map, List.getElem?_eq_getElem h']
  rfl
/-- A number's bytes, as a string. -/
def EN (u : Nat) : ByteArray := strOfNums ((enc u).map Int.ofNat)
theorem bs_nums (l : List Nat) (h : ∀ b ∈ l, b < 256) : bs (strOfNums (l.map Int.ofNat)) = l := by
  unfold bs
  rw [strOfNums_data]
  rw [List.map_map, List.map_map]
  conv => rhs; rw [← List.map_id l]
  apply List.map_congr_left
  intro b hb
  have := h b hb
  simp only [Function.comp]
  simp [UInt8.toNat_ofNat']
  omega
theorem bs_EN (u : Nat) : bs (EN u) = enc u := bs_nums _ (enc_byte u)
theorem size_EN (u : Nat) : (EN u).size = (enc u).length := by rw [← bs_length, bs_EN]

/-- What TakeInt answers. -/
def TI (s : ByteArray) : Int × ByteArray × Bool :=
  match dec 0 0 (bs s) with
  | none => (0, ⟨#[]⟩, false)
  | some (v, j) => (unf v, s.extract j s.size, true)
def TS (s : ByteArray) (most : Int) : ByteArray × ByteArray × Bool :=
  if (TI s).2.2 = true ∧ 0 ≤ (TI s).1 ∧ (TI s).1 ≤ most ∧ (TI s).1 ≤ ((TI s).2.1.size : Int) then
    ((TI s).2.1.extract 0 (TI s).1.toNat, (TI s).2.1.extract (TI s).1.toNat (TI s).2.1.size, true)
  else (⟨#[]⟩, ⟨#[]⟩, false)

theorem TI_EN (n : Int) (h : fold n < 2 ^ 64) (r : ByteArray) : TI (EN (fold n) ++ r) = (n, r, true) := by
  have hd := dec_enc (fold n) 0 0 (bs r) (by omega) (by simpa using h)
  unfold TI
  rw [bs_append, bs_EN, hd]
  simp only [Nat.mul_zero, Nat.pow_zero, Nat.mul_one, Nat.zero_add, unf_fold]
  congr 2
  apply bs_inj
  rw [bs_extract, bs_append, bs_EN]
  simp

theorem TI_sound (s : ByteArray) (h : (TI s).2.2 = true) : fold (TI s).1 < 2 ^ 64 ∧ s = EN (fold (TI s).1) ++ (TI s).2.1 := by
  unfold TI at h ⊢
  cases hd : dec 0 0 (bs s) with
  | none => rw [hd] at h; cases h
  | some p =>
    obtain ⟨v, j⟩ := p
    obtain ⟨w, hv, hj, hl, _, hlt, _⟩ := dec_sound _ 0 0 v j (bs_byte s) hd
    simp only [Nat.mul_zero, Nat.pow_zero, Nat.mul_one, Nat.zero_add, Nat.sub_zero] at hv hj hl hlt
    subst hv
    simp only [fold_unf]
    refine ⟨hlt, bs_inj ?_⟩
    rw [bs_append, bs_EN, bs_extract]
    exact hl
theorem TI_not (s : ByteArray) (h : (TI s).2.2 = false) : TI s = (0, ⟨#[]⟩, false) := by
  unfold TI at h ⊢
  cases hd : dec 0 0 (bs s) with
  | none => rfl
  | some p => rw [hd] at h; cases h
theorem TI_size (s : ByteArray) : (TI s).2.1.size ≤ s.size := by
  unfold TI
  cases hd : dec 0 0 (bs s) with
  | none => exact Nat.zero_le _
  | some p =>
    simp only
    rw [← bs_length, bs_extract, List.length_drop, bs_length]
    omega

/-! ### bit operations -/
theorem or8 : ∀ b : Nat, b < 256 → b ||| 128 = b % 128 + 128 := by decide +kernel
theorem or8i (b : Nat) (h : b < 256) : Go.bits .or .u8 (b : Int) 128 = ((b % 128 + 128 : Nat) : Int) := by
  have := (bits_nat .u8 8 (by decide) (fun n h0 h1 => by rw [IntKind.wrap_u8]; omega) b 128 (by simpa using h) (by decide)).2
  rw [or8 b h] at this
  exact this
theorem wrap_u64 (n : Int) : IntKind.u64.wrap n = n % 18446744073709551616 := by simp [IntKind.wrap, IntKind.bits, IntKind.signed]
theorem wraps_u64 (n : Int) (h0 : 0 ≤ n) (h1 : n < 2 ^ 64) : IntKind.u64.wrap n = n := by rw [wrap_u64]; omega
theorem or64 (i : Nat) (u w : Nat) (hu : u < 2 ^ (7 * i)) (h : w * 2 ^ (7 * i) < 2 ^ 64) (h9 : i ≤ 9) : Go.bits .or .u64 (u : Int) ((w * 2 ^ (7 * i) : Nat) : Int) = ((u + w * 2 ^ (7 * i) : Nat) : Int) := by
  have hu64 : u < 2 ^ 64 := Nat.lt_of_lt_of_le hu (Nat.pow_le_pow_right (by decide) (by omega))
  have := (bits_nat .u64 64 (by decide) wraps_u64 u (w * 2 ^ (7 * i)) hu64 h).2
  rw [this, Nat.mul_comm w, Nat.or_comm, ← Nat.two_pow_add_eq_or_of_lt hu w, Nat.add_comm]
theorem andnot8 : ∀ b : Nat, b < 256 → Go.bits .andNot .u8 (b : Int) 128 = ((b % 128 : Nat) : Int) := by decide +kernel
theorem and64 (u : Nat) (h : u < 2 ^ 64) : Go.bits .and .u64 (u : Int) 1 = ((u % 2 : Nat) : Int) := by
  have := (bits_nat .u64 64 (by decide) wraps_u64 u 1 h (by decide)).1
  rw [Nat.and_one_is_mod] at this
  exact this
theorem xor_bits (k : IntKind) (a b : Nat) (ha : a < 2 ^ k.bits) (hb : b < 2 ^ k.bits) : Go.bits .xor k a b = k.wrap ((a ^^^ b : Nat) : Int) := by
  simp only [Go.bits, BitVec.ofInt_natCast, BitVec.toNat_xor, BitVec.toNat_ofNat, Nat.mod_eq_of_lt ha, Nat.mod_eq_of_lt hb]
theorem xnot (u : Nat) (h : u < 2 ^ 64) : u ^^^ 18446744073709551615 = 18446744073709551615 - u := by
  have h1 : (BitVec.ofNat 64 u ^^^ BitVec.allOnes 64).toNat = (~~~ (BitVec.ofNat 64 u)).toNat := by rw [BitVec.xor_allOnes]
  rw [BitVec.toNat_xor, BitVec.toNat_not, BitVec.toNat_ofNat, Nat.mod_eq_of_lt h, BitVec.toNat_allOnes] at h1
  exact h1
theorem xor64_0 (u : Nat) (h : u < 2 ^ 64) : Go.bits .xor .u64 (u : Int) 0 = u := by
  rw [show (0 : Int) = ((0 : Nat) : Int) from rfl, xor_bits .u64 u 0 h (by decide), Nat.xor_zero]
  exact wraps_u64 _ (by omega) (by omega)
theorem xor64_1 (u : Nat) (h : u < 2 ^ 64) : Go.bits .xor .u64 (u : Int) 18446744073709551615 = ((18446744073709551615 - u : Nat) : Int) := by
  rw [show (18446744073709551615 : Int) = ((18446744073709551615 : Nat) : Int) from rfl, xor_bits .u64 u _ h (by decide), xnot u h]
  exact wraps_u64 _ (by omega) (by omega)
theorem xori_0 (u : Nat) (h : u < 2 ^ 63) : Go.bits .xor .i64 (u : Int) 0 = u := by
  rw [show (0 : Int) = ((0 : Nat) : Int) from rfl, xor_bits .i64 u 0 (by show u < 2 ^ 64; omega) (by decide), Nat.xor_zero, IntKind.wrap_i64]
  omega
theorem xori_1 (u : Nat) (h : u < 2 ^ 63) : Go.bits .xor .i64 (u : Int) (-1) = -(u : Int) - 1 := by
  have e : BitVec.ofInt IntKind.i64.bits (-1) = BitVec.ofNat IntKind.i64.bits 18446744073709551615 := by decide
  have h64 : u < 2 ^ 64 := by omega
  simp only [Go.bits, BitVec.ofInt_natCast, e, BitVec.toNat_xor, BitVec.toNat_ofNat]
  rw [show u % 2 ^ IntKind.i64.bits = u from Nat.mod_eq_of_lt h64, show 18446744073709551615 % 2 ^ IntKind.i64.bits = 18446744073709551615 from by decide, xnot u h64, IntKind.wrap_i64]
  omega

end Go.Proofs.Ytioiijekbnammaa.Nb
