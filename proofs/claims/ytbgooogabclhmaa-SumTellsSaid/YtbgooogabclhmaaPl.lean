/-
  Plain facts on the check (CRC-32), over numbers: one step is linear under exclusive or and loses nothing; four bytes that differ give another register; a register and its own complement come to one number. No program is in sight.
-/
import Derived.WalkKit
import Derived.Laws.BitsLemmas
namespace Go.Proofs.Ytbgooogabclhmaa.Pl
open Go.RowKit
set_option linter.unusedSimpArgs false
set_option linter.unusedVariables false

def poly : Nat := 3988292384
/-- The register behind one bit. -/
def sh (n : Nat) : Nat := if n % 2 = 0 then n / 2 else (n / 2) ^^^ poly
/-- .. behind k bits. -/
def shk : Nat → Nat → Nat
  | 0, n => n
  | k + 1, n => shk k (sh n)
def st (n : Nat) : Nat := shk 8 n

theorem poly_lt : poly < 2 ^ 32 := by decide
theorem xor_self' (a : Nat) : a ^^^ a = 0 := Nat.xor_self a

theorem xor_mod2 (a b : Nat) : (a ^^^ b) % 2 = (a + b) % 2 := by
  have h := @Nat.xor_mod_two_pow a b 1
  rw [show (2 : Nat) ^ 1 = 2 from rfl] at h
  rw [h]
  rcases Nat.mod_two_eq_zero_or_one a with h1 | h1 <;> rcases Nat.mod_two_eq_zero_or_one b with h2 | h2 <;> rw [h1, h2]
  · rw [Nat.xor_zero]; omega
  · rw [Nat.zero_xor]; omega
  · rw [Nat.xor_zero]; omega
  · rw [xor_self']; omega

theorem sh_xor (a b : Nat) : sh (a ^^^ b) = sh a ^^^ sh b := by
  unfold sh
  have hd : (a ^^^ b) / 2 = a / 2 ^^^ b / 2 := Nat.xor_div_two
  have hm : (a ^^^ b) % 2 = (a % 2 + b % 2) % 2 := by
    rw [xor_mod2]; omega
  rw [hd, hm]
  generalize a / 2 = x
  generalize b / 2 = y
  rcases Nat.mod_two_eq_zero_or_one a with h1 | h1 <;> rcases Nat.mod_two_eq_zero_or_one b with h2 | h2 <;> rw [h1, h2]
  · rw [if_pos (by decide), if_pos rfl, if_pos rfl]
  · rw [if_neg (by decide), if_pos rfl, if_neg (by decide), Nat.xor_assoc]
  · rw [if_neg (by decide), if_neg (by decide), if_pos rfl, Nat.xor_assoc, Nat.xor_assoc, Nat.xor_comm y]
  · rw [if_pos (by decide), if_neg (by decide), if_neg (by decide), Nat.xor_assoc x poly, ← Nat.xor_assoc poly, Nat.xor_comm poly y, Nat.xor_assoc y, xor_self', Nat.xor_zero]
theorem shk_xor (k : Nat) : ∀ a b, shk k (a ^^^ b) = shk k a ^^^ shk k b := by
  induction k with
  | zero => intro a b; rfl
  | succ k ih => intro a b; simp only [shk]; rw [sh_xor, ih]
theorem sh_even (q : Nat) : sh (2 * q) = q := by unfold sh; rw [if_pos (by omega)]; omega
theorem shk_even (k : Nat) : ∀ q, shk k (2 ^ k * q) = q := by
  induction k with
  | zero => intro q; simp [shk]
  | succ k ih => intro q; simp only [shk]; rw [Nat.pow_succ, Nat.mul_comm (2 ^ k) 2, Nat.mul_assoc, sh_even, ih]
theorem shk_add (j k : Nat) : ∀ n, shk (j + k) n = shk k (shk j n) := by
  induction j with
  | zero => intro n; rw [Nat.zero_add]; rfl
  | succ j ih => intro n; rw [Nat.succ_add]; simp only [shk]; exact ih _
theorem sh_lt {n : Nat} (h : n < 2 ^ 32) : sh n < 2 ^ 32 := by
  unfold sh
  split
  · omega
  · exact Nat.xor_lt_two_pow (by omega) poly_lt
theorem shk_lt (k : Nat) : ∀ {n : Nat}, n < 2 ^ 32 → shk k n < 2 ^ 32 := by
  induction k with
  | zero => intro n h; exact h
  | succ k ih => intro n h; exact ih (sh_lt h)
theorem sh_zero {n : Nat} (h : n < 2 ^ 32) (e : sh n = 0) : n = 0 := by
  unfold sh at e
  split at e
  · omega
  · have h2 : n / 2 = poly := by
      have : (n / 2 ^^^ poly) ^^^ poly = 0 ^^^ poly := by rw [e]
      rwa [Nat.xor_assoc, xor_self', Nat.xor_zero, Nat.zero_xor] at this
    unfold poly at h2
    omega
theorem shk_zero (k : Nat) : ∀ {n : Nat}, n < 2 ^ 32 → shk k n = 0 → n = 0 := by
  induction k with
  | zero => intro n _ e; exact e
  | succ k ih => intro n h e; exact sh_zero h (ih (sh_lt h) e)
theorem xor_eq_zero {a b : Nat} (h : a ^^^ b = 0) : a = b := by
  have : (a ^^^ b) ^^^ b = 0 ^^^ b := by rw [h]
  rwa [Nat.xor_assoc, xor_self', Nat.xor_zero, Nat.zero_xor] at this
theorem shk_inj (k : Nat) {a b : Nat} (ha : a < 2 ^ 32) (hb : b < 2 ^ 32) (h : shk k a = shk k b) : a = b := by
  apply xor_eq_zero
  apply shk_zero k (Nat.xor_lt_two_pow ha hb)
  rw [shk_xor, h, xor_self']

theorem xor_mod (k r : Nat) : r ^^^ (r % 2 ^ k) = 2 ^ k * (r / 2 ^ k) := by
  apply Nat.eq_of_testBit_eq
  intro i
  rw [Nat.testBit_xor, Nat.testBit_mod_two_pow, Nat.testBit_two_pow_mul, Nat.testBit_div_two_pow]
  by_cases h : i < k
  · simp [h, Nat.not_le.2 h]
  · rw [show i - k + k = i by omega]; simp [h, Nat.le_of_not_lt h]
theorem st_split (r : Nat) : st r = st (r % 256) ^^^ (r / 256) := by
  have h := xor_mod 8 r
  have h2 : st (r ^^^ (r % 2 ^ 8)) = r / 2 ^ 8 := by rw [h]; exact shk_even 8 _
  unfold st at h2 ⊢
  rw [shk_xor] at h2
  have h3 : shk 8 r = shk 8 (r % 2 ^ 8) ^^^ (r / 2 ^ 8) := by
    rw [← h2, Nat.xor_comm (shk 8 r), ← Nat.xor_assoc, xor_self', Nat.zero_xor]
  exact h3
/-- The register behind a byte, as the program reckons it. -/
theorem byte_step (r b : Nat) (hb : b < 256) : (r / 256) ^^^ st ((r % 256) ^^^ b) = st (r ^^^ b) := by
  rw [st_split (r ^^^ b)]
  have h1 : (r ^^^ b) % 256 = (r % 256) ^^^ b := by
    have := @Nat.xor_mod_two_pow r b 8
    rw [show (2 : Nat) ^ 8 = 256 from rfl] at this
    rw [this, Nat.mod_eq_of_lt hb]
  have h2 : (r ^^^ b) / 256 = r / 256 := by
    have := @Nat.xor_div_two_pow r b 8
    rw [show (2 : Nat) ^ 8 = 256 from rfl] at this
    rw [this, Nat.div_eq_of_lt hb, Nat.xor_zero]
  rw [h1, h2, Nat.xor_comm]

/-- The register behind bytes. -/
def crc (r : Nat) (l : List UInt8) : Nat := l.foldl (fun r b => st (r ^^^ b.toNat)) r
theorem crc_nil (r : Nat) : crc r [] = r := rfl
theorem crc_cons (r : Nat) (b : UInt8) (l : List UInt8) : crc r (b :: l) = crc (st (r ^^^ b.toNat)) l := rfl
theorem crc_append (r : Nat) (a b : List UInt8) : crc r (a ++ b) = crc (crc r a) b := List.foldl_append
theorem byte_xor_lt {r : Nat} (h : r < 2 ^ 32) (b : UInt8) : r ^^^ b.toNat < 2 ^ 32 := Nat.xor_lt_two_pow h (Nat.lt_of_lt_of_le b.toNat_lt (by decide))
theorem crc_lt (l : List UInt8) : ∀ {r : Nat}, r < 2 ^ 32 → crc r l < 2 ^ 32 := by
  induction l with
  | nil => intro r h; exact h
  | cons b l ih => intro r h; rw [crc_cons]; exact ih (shk_lt 8 (byte_xor_lt h b))
theorem crc_inj (l : List UInt8) : ∀ {r q : Nat}, r < 2 ^ 32 → q < 2 ^ 32 → crc r l = crc q l → r = q := by
  induction l with
  | nil => intro r q _ _ h; exact h
  | cons b l ih =>
    intro r q hr hq h
    rw [crc_cons, crc_cons] at h
    have h1 := ih (shk_lt 8 (byte_xor_lt hr b)) (shk_lt 8 (byte_xor_lt hq b)) h
    have h2 := shk_inj 8 (byte_xor_lt hr b) (byte_xor_lt hq b) h1
    have : (r ^^^ b.toNat) ^^^ b.toNat = (q ^^^ b.toNat) ^^^ b.toNat := by rw [h2]
    rwa [Nat.xor_assoc, Nat.xor_assoc, xor_self', Nat.xor_zero, Nat.xor_zero] at this
/-- Four bytes as one number. -/
def word (a b c d : UInt8) : Nat := a.toNat ^^^ (2 ^ 8 * b.toNat ^^^ (2 ^ 16 * c.toNat ^^^ 2 ^ 24 * d.toNat))
theorem crc_four (r : Nat) (a b c d : UInt8) : crc r [a, b, c, d] = shk 32 (r ^^^ word a b c d) := by
  simp only [crc_cons, crc_nil]
  have e8 : ∀ x, shk 8 (2 ^ 8 * x) = x := shk_even 8
  have e16 : ∀ x, shk 16 (2 ^ 16 * x) = x := shk_even 16
  have e24 : ∀ x, shk 24 (2 ^ 24 * x) = x := shk_even 24
  unfold word
  have h1 : st (st (r ^^^ a.toNat) ^^^ b.toNat) = shk 16 (r ^^^ a.toNat ^^^ 2 ^ 8 * b.toNat) := by
    rw [show (16 : Nat) = 8 + 8 from rfl, shk_add, shk_xor, e8]; rfl
  have h2 : st (shk 16 (r ^^^ a.toNat ^^^ 2 ^ 8 * b.toNat) ^^^ c.toNat) = shk 24 (r ^^^ a.toNat ^^^ 2 ^ 8 * b.toNat ^^^ 2 ^ 16 * c.toNat) := by
    rw [show (24 : Nat) = 16 + 8 from rfl, shk_add 16 8, shk_xor 16 _ (2 ^ 16 * c.toNat), e16]; rfl
  have h3 : st (shk 24 (r ^^^ a.toNat ^^^ 2 ^ 8 * b.toNat ^^^ 2 ^ 16 * c.toNat) ^^^ d.toNat) = shk 32 (r ^^^ a.toNat ^^^ 2 ^ 8 * b.toNat ^^^ 2 ^ 16 * c.toNat ^^^ 2 ^ 24 * d.toNat) := by
    rw [show (32 : Nat) = 24 + 8 from rfl, shk_add 24 8, shk_xor 24 _ (2 ^ 24 * d.toNat), e24]; rfl
  rw [h1, h2, h3]
  congr 1
  simp only [Nat.xor_assoc]
theorem xor_join (k a x : Nat) (h : a < 2 ^ k) : a ^^^ 2 ^ k * x = 2 ^ k * x + a := by
  have h1 := xor_mod k (2 ^ k * x + a)
  rw [Nat.mul_add_mod, Nat.mod_eq_of_lt h, Nat.mul_add_div (Nat.two_pow_pos k), Nat.div_eq_of_lt h, Nat.add_zero] at h1
  have h2 : a ^^^ ((2 ^ k * x + a) ^^^ a) = 2 ^ k * x + a := by rw [Nat.xor_comm, Nat.xor_assoc, xor_self', Nat.xor_zero]
  rwa [h1] at h2
theorem word_eq (a b c d : UInt8) : word a b c d = a.toNat + 256 * b.toNat + 65536 * c.toNat + 16777216 * d.toNat := by
  have ha := a.toNat_lt
  have hb := b.toNat_lt
  have hc := c.toNat_lt
  unfold word
  have e3 : 2 ^ 16 * c.toNat ^^^ 2 ^ 24 * d.toNat = 2 ^ 24 * d.toNat + 2 ^ 16 * c.toNat := xor_join 24 _ _ (by omega)
  have e2 : 2 ^ 8 * b.toNat ^^^ (2 ^ 24 * d.toNat + 2 ^ 16 * c.toNat) = 2 ^ 24 * d.toNat + 2 ^ 16 * c.toNat + 2 ^ 8 * b.toNat := by
    rw [show 2 ^ 24 * d.toNat + 2 ^ 16 * c.toNat = 2 ^ 16 * (256 * d.toNat + c.toNat) by omega]
    exact xor_join 16 _ _ (by omega)
  have e1 : a.toNat ^^^ (2 ^ 24 * d.toNat + 2 ^ 16 * c.toNat + 2 ^ 8 * b.toNat) = 2 ^ 24 * d.toNat + 2 ^ 16 * c.toNat + 2 ^ 8 * b.toNat + a.toNat := by
    rw [show 2 ^ 24 * d.toNat + 2 ^ 16 * c.toNat + 2 ^ 8 * b.toNat = 2 ^ 8 * (65536 * d.toNat + 256 * c.toNat + b.toNat) by omega]
    exact xor_join 8 _ _ (by omega)
  rw [e3, e2, e1]
  omega
theorem word_lt (a b c d : UInt8) : word a b c d < 2 ^ 32 := by
  have ha := a.toNat_lt
  have hb := b.toNat_lt
  have hc := c.toNat_lt
  have hd := d.toNat_lt
  rw [word_eq]; omega
theorem word_inj {a b c d a' b' c' d' : UInt8} (h : word a b c d = word a' b' c' d') : a = a' ∧ b = b' ∧ c = c' ∧ d = d' := by
  have := a.toNat_lt
  have := b.toNat_lt
  have := c.toNat_lt
  have := d.toNat_lt
  have := a'.toNat_lt
  have := b'.toNat_lt
  have := c'.toNat_lt
  have := d'.toNat_lt
  rw [word_eq, word_eq] at h
  refine ⟨UInt8.toNat_inj.1 (by omega), UInt8.toNat_inj.1 (by omega), UInt8.toNat_inj.1 (by omega), UInt8.toNat_inj.1 (by omega)⟩

/-- The check. -/
def ofL (l : List UInt8) : Nat := 4294967295 - crc 4294967295 l
theorem ofL_lt (l : List UInt8) : ofL l < 2 ^ 32 := by unfold ofL; omega
theorem not_xor (r : Nat) (h : r < 2 ^ 32) : r ^^^ 4294967295 = 4294967295 - r := by
  have h1 : (BitVec.ofNat 32 r ^^^ BitVec.allOnes 32).toNat = (~~~ (BitVec.ofNat 32 r)).toNat := by rw [BitVec.xor_allOnes]
  rw [BitVec.toNat_xor, BitVec.toNat_not, BitVec.toNat_ofNat, Nat.mod_eq_of_lt h, BitVec.toNat_allOnes] at h1
  exact h1
theorem ofL_inj_iff (a b : List UInt8) : ofL a = ofL b ↔ crc 4294967295 a = crc 4294967295 b := by
  have h1 : crc 4294967295 a < 2 ^ 32 := crc_lt a (by decide)
  have h2 : crc 4294967295 b < 2 ^ 32 := crc_lt b (by decide)
  unfold ofL
  omega
/-- Four bytes put in the place of others are told. -/
theorem tells (p q : List UInt8) (a b c d a' b' c' d' : UInt8) (h : ofL (p ++ ([a, b, c, d] ++ q)) = ofL (p ++ ([a', b', c', d'] ++ q))) : [a, b, c, d] = [a', b', c', d'] := by
  rw [ofL_inj_iff] at h
  simp only [crc_append] at h
  have hr : crc 4294967295 p < 2 ^ 32 := crc_lt p (by decide)
  generalize crc 4294967295 p = r at h hr
  have h1 := crc_inj q (crc_lt _ hr) (crc_lt _ hr) h
  rw [crc_four, crc_four] at h1
  have h2 := shk_inj 32 (Nat.xor_lt_two_pow hr (word_lt _ _ _ _)) (Nat.xor_lt_two_pow hr (word_lt _ _ _ _)) h1
  have h3 : r ^^^ (r ^^^ word a b c d) = r ^^^ (r ^^^ word a' b' c' d') := by rw [h2]
  rw [← Nat.xor_assoc, ← Nat.xor_assoc, xor_self', Nat.zero_xor, Nat.zero_xor] at h3
  obtain ⟨rfl, rfl, rfl, rfl⟩ := word_inj h3
  rfl
/-- A text and its check. -/
theorem rest (l : List UInt8) (a b c d : UInt8) (h : a.toNat + 256 * b.toNat + 65536 * c.toNat + 16777216 * d.toNat = ofL l) : ofL (l ++ [a, b, c, d]) = 558161692 := by
  have hr : crc 4294967295 l < 2 ^ 32 := crc_lt l (by decide)
  have e : ofL l = crc 4294967295 l ^^^ 4294967295 := by rw [not_xor _ hr]; rfl
  rw [← word_eq, e] at h
  unfold ofL
  rw [crc_append, crc_four, h, ← Nat.xor_assoc, xor_self', Nat.zero_xor]
  decide +kernel

/-! ### bit by bit -/
theorem xor_bit (m : Nat) : m ^^^ (m % 2) = 2 * (m / 2) := by
  have := xor_mod 1 m
  simpa using this
/-- The register with a byte's rest on it, behind a bit. -/
theorem bit_step (r m : Nat) : (sh (r ^^^ m % 2)) ^^^ (m / 2) = sh (r ^^^ m) := by
  have h : sh (r ^^^ m) = sh ((r ^^^ m % 2) ^^^ (m ^^^ m % 2)) := by
    congr 1
    rw [Nat.xor_assoc, Nat.xor_comm m, ← Nat.xor_assoc (m % 2), xor_self', Nat.zero_xor]
  rw [h, sh_xor (r ^^^ m % 2), xor_bit, sh_even]
theorem sh_ref (r bit : Nat) (hb : bit < 2) : sh (r ^^^ bit) = if bit = r % 2 then r / 2 else (r / 2) ^^^ poly := by
  unfold sh
  have hd : (r ^^^ bit) / 2 = r / 2 := by rw [Nat.xor_div_two, show bit / 2 = 0 by omega, Nat.xor_zero]
  have hm : (r ^^^ bit) % 2 = (r + bit) % 2 := xor_mod2 r bit
  rw [hd, hm]
  by_cases h : bit = r % 2
  · rw [if_pos h, if_pos (by omega)]
  · rw [if_neg h, if_neg (by omega)]

/-! ### the operations on the machine's numbers -/
theorem and_bits (k : IntKind) (a b : Nat) (ha : a < 2 ^ k.bits) (hb : b < 2 ^ k.bits) : Go.bits .and k a b = k.wrap ((a &&& b : Nat) : Int) := by
  simp only [Go.bits, BitVec.ofInt_natCast, BitVec.toNat_and, BitVec.toNat_ofNat, Nat.mod_eq_of_lt ha, Nat.mod_eq_of_lt hb]
theorem xor_bits (k : IntKind) (a b : Nat) (ha : a < 2 ^ k.bits) (hb : b < 2 ^ k.bits) : Go.bits .xor k a b = k.wrap ((a ^^^ b : Nat) : Int) := by
  simp only [Go.bits, BitVec.ofInt_natCast, BitVec.toNat_xor, BitVec.toNat_ofNat, Nat.mod_eq_of_lt ha, Nat.mod_eq_of_lt hb]
theorem xor32 (a b : Nat) (ha : a < 2 ^ 32) (hb : b < 2 ^ 32) : Go.bits .xor .u32 (a : Int) (b : Int) = ((a ^^^ b : Nat) : Int) := by
  have h := Nat.xor_lt_two_pow ha hb
  rw [xor_bits .u32 a b ha hb, IntKind.wrap_u32]
  omega
theorem and32_1 (a : Nat) (ha : a < 2 ^ 32) : Go.bits .and .u32 (a : Int) 1 = ((a % 2 : Nat) : Int) := by
  have := and_bits .u32 a 1 ha (by decide)
  rw [Nat.and_one_is_mod, IntKind.wrap_u32] at this
  rw [show (1 : Int) = ((1 : Nat) : Int) from rfl, this]
  omega
theorem and32_255 (a : Nat) (ha : a < 2 ^ 32) : Go.bits .and .u32 (a : Int) 255 = ((a % 256 : Nat) : Int) := by
  have := and_bits .u32 a 255 ha (by decide)
  have e : a &&& 255 = a % 256 := Nat.and_two_pow_sub_one_eq_mod a 8
  rw [e, IntKind.wrap_u32] at this
  rw [show (255 : Int) = ((255 : Nat) : Int) from rfl, this]
  omega
/-- One round of 'step'. -/
theorem step_bits (a : Nat) (ha : a < 2 ^ 32) : Go.bits .xor .u32 ((a : Int) / 2) (Go.bits .and .u32 3988292384 ((-(Go.bits .and .u32 (a : Int) 1)) % 4294967296)) = ((sh a : Nat) : Int) := by
  rw [and32_1 a ha]
  have e2 : (a : Int) / 2 = ((a / 2 : Nat) : Int) := by omega
  rcases Nat.mod_two_eq_zero_or_one a with h | h
  · have e1 : Go.bits .and .u32 3988292384 ((-(((0 : Nat) : Int))) % 4294967296) = ((0 : Nat) : Int) := by decide
    rw [h, e1, e2, xor32 _ _ (by omega) (by decide), Nat.xor_zero]
    unfold sh; rw [if_pos h]
  · have e1 : Go.bits .and .u32 3988292384 ((-(((1 : Nat) : Int))) % 4294967296) = ((3988292384 : Nat) : Int) := by decide
    rw [h, e1, e2, xor32 _ _ (by omega) (by decide)]
    unfold sh; rw [if_neg (by omega)]; rfl
/-- One round of 'Of'. -/
theorem of_bits (r b : Nat) (hr : r < 2 ^ 32) (hb : b < 256) : Go.bits .xor .u32 (Go.bits .and .u32 (r : Int) 255) (b : Int) = (((r % 256) ^^^ b : Nat) : Int) := by
  rw [and32_255 r hr, xor32 _ _ (by omega) (by omega)]
theorem of_bits2 (r b : Nat) (hr : r < 2 ^ 32) (hb : b < 256) : Go.bits .xor .u32 ((r : Int) / 256) ((st ((r % 256) ^^^ b) : Nat) : Int) = ((st (r ^^^ b) : Nat) : Int) := by
  have h1 : (r % 256) ^^^ b < 2 ^ 32 := Nat.xor_lt_two_pow (by omega) (by omega)
  have h2 : st ((r % 256) ^^^ b) < 2 ^ 32 := shk_lt 8 h1
  rw [show (r : Int) / 256 = ((r / 256 : Nat) : Int) by omega, xor32 _ _ (by omega) h2, byte_step r b hb]

end Go.Proofs.Ytbgooogabclhmaa.Pl
