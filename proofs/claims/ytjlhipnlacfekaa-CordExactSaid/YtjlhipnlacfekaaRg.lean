/-
  The reference's End does what the plain end does: plain, no program is in sight.
-/
import Derived.Test.YtjlhipnlacfekaaRu
namespace Go.Proofs.Ytjlhipnlacfekaa.Rf
open Go.RowKit Go.Maps Go.Proofs.Ytjlhipnlacfekaa.Md Go.Proofs.Ytjlhipnlacfekaa.Hp Go.Proofs.Ytjlhipnlacfekaa.Rp Go.Proofs.Ytjlhipnlacfekaa.Lbl Go.Proofs.Ytjlhipnlacfekaa.Wa Go.Proofs.Ytjlhipnlacfekaa.Tm
set_option linter.unusedSimpArgs false
set_option linter.unusedVariables false

theorem Sim.new (ep : Int) : Sim (newE ep) (newR ep) := ⟨rfl, rfl, rfl, rfl, rfl, fun _ => rfl⟩
theorem Sim.len {E : En} {R : Re} (h : Sim E R) : R.l.length = E.opn.length := by rw [h.l, nums_length]
theorem Sim.sendErr {E : En} {R : Re} (h : Sim E R) (s : ByteArray) : rsendErr R s = sendErr E s := by
  unfold rsendErr Md.sendErr
  rw [h.len]
theorem Sim.send {E : En} {R : Re} (h : Sim E R) (s : ByteArray) : Sim (sent E s) (rsent R s) := by
  unfold Md.sent rsent
  rw [h.sendErr]
  by_cases he : Md.sendErr E s = 0
  · rw [if_pos he, if_pos he]
    have hg := h.given
    refine ⟨h.epoch, by show R.given + 1 = E.given + 1; rw [hg], h.got, h.owed, ?_, h.early⟩
    show R.l ++ [(((R.given + 1 : Nat) : Int), s)] = nums (((E.given + 1 : Nat) : Int) - ((E.opn ++ [s]).length : Int) + 1) (E.opn ++ [s])
    have e1 : ((E.given + 1 : Nat) : Int) - ((E.opn ++ [s]).length : Int) + 1 = (E.given : Int) - (E.opn.length : Int) + 1 := by
      rw [List.length_append]
      show _ - ((E.opn.length + 1 : Nat) : Int) + 1 = _
      omega
    rw [e1, nums_append, h.l, hg]
    congr 3
    omega
  · rw [if_neg he, if_neg he]
    exact h
theorem Sim.out {E : En} {R : Re} (h : Sim E R) : Sim (outE E) (routE R) := ⟨h.epoch, h.given, h.got, rfl, h.l, h.early⟩
theorem grams_nums {E : En} {R : Re} (h : Sim E R) : ∀ (l : List ByteArray) (i : Nat), grams E i l = (nums ((E.given : Int) - (E.opn.length : Int) + 1 + (i : Int)) l).map (rgram R)
  | [], i => rfl
  | b :: l, i => by
    have ih := grams_nums h l (i + 1)
    have e : (E.given : Int) - (E.opn.length : Int) + 1 + ((i + 1 : Nat) : Int) = (E.given : Int) - (E.opn.length : Int) + 1 + (i : Int) + 1 := by omega
    rw [e] at ih
    simp only [grams, nums, List.map_cons, ih]
    congr 1
    unfold gram rgram
    rw [h.epoch, h.got]
theorem Sim.outL {E : En} {R : Re} (h : Sim E R) : routL R = outL E := by
  unfold routL Md.outL owes
  rw [h.len, h.owed]
  by_cases h0 : E.opn = []
  · rw [h0]
    cases ho : E.owed
    · rfl
    · show [rgram R (0, ⟨#[]⟩)] = [gram E 0 ByteArray.empty]
      unfold gram rgram
      rw [h.epoch, h.got]
      rfl
  · have hn : 0 < E.opn.length := List.length_pos_iff.2 h0
    have hg := grams_nums h E.opn 0
    rw [Int.natCast_zero, Int.add_zero, ← h.l] at hg
    rw [if_neg (by omega), if_neg (by rw [decide_eq_true hn]; simp), if_neg h0, hg]

/-- The errors, in the reference's order. -/
def rbad (R : Re) (g : Gr) : Prop := g.seq < 0 ∨ g.ack < 0 ∨ (R.given : Int) < g.ack ∨ (R.got : Int) + 32 < g.seq ∨ (g.seq = 0 ∧ g.body.size ≠ 0)
theorem Sim.bad {E : En} {R : Re} (h : Sim E R) (g : Gr) : rbad R g ↔ bad E g = true := by
  unfold rbad Md.bad
  rw [h.given, h.got, decide_eq_true_iff]
  constructor
  · rintro (x | x | x | x | x)
    · exact .inr (.inr (.inl x))
    · exact .inl x
    · exact .inr (.inl x)
    · exact .inr (.inr (.inr (.inl x)))
    · exact .inr (.inr (.inr (.inr x)))
  · rintro (x | x | x | x | x)
    · exact .inr (.inl x)
    · exact .inr (.inr (.inl x))
    · exact .inl x
    · exact .inr (.inr (.inr (.inl x)))
    · exact .inr (.inr (.inr (.inr x)))

/-- Behind an acknowledgement. -/
theorem Sim.acked {E : En} {R : Re} (h : Sim E R) (ak : Nat) (hle : E.opn.length ≤ E.given) (ha : ak ≤ E.given) : Sim (acked E (ak : Int)) { R with l := abv R.l (ak : Int) } := by
  refine ⟨h.epoch, h.given, h.got, h.owed, ?_, h.early⟩
  show abv R.l (ak : Int) = nums ((E.given : Int) - ((Md.acked E (ak : Int)).opn.length : Int) + 1) (Md.acked E (ak : Int)).opn
  have e1 : (Md.acked E (ak : Int)).opn = E.opn.drop (E.opn.length - (E.given - ak)) := by
    unfold Md.acked
    rw [Int.toNat_natCast]
  rw [e1, List.length_drop, h.l, abv_nums]
  have e2 : ((ak : Int) - ((E.given : Int) - (E.opn.length : Int) + 1) + 1).toNat = E.opn.length - (E.given - ak) := by omega
  rw [e2]
  congr 1
  omega
/-- Behind the mark. -/
theorem Sim.owe {E : En} {R : Re} (h : Sim E R) : Sim { E with owed := true } { R with owed := true } := ⟨h.epoch, h.given, h.got, rfl, h.l, h.early⟩
theorem Sim.lay {E : En} {R : Re} (h : Sim E R) (k : Int) (b : ByteArray) (h0 : E.early k = none) : Sim { E with early := put E.early k (some b) } { R with early := R.early ++ [(k, b)] } := by
  refine ⟨h.epoch, h.given, h.got, h.owed, h.l, fun j => ?_⟩
  show fnd (R.early ++ [(k, b)]) j = put E.early k (some b) j
  rw [fnd_snoc, h.early j]
  unfold put
  by_cases hj : j = k
  · subst hj
    simp [h0]
  · have hj' : ¬ k = j := fun e => hj e.symm
    cases E.early j <;> simp [hj, hj']

/-- While the texts are handed on: the reference keeps them till the end. -/
structure Drn (e : En) (R : Re) : Prop where
  epoch : R.epoch = e.epoch
  given : R.given = e.given
  got : R.got = e.got
  owed : R.owed = e.owed
  l : R.l = nums ((e.given : Int) - e.opn.length + 1) e.opn
  early : ∀ k : Int, (e.got : Int) < k → fnd R.early k = e.early k
theorem Sim.drn {E : En} {R : Re} (h : Sim E R) : Drn E R := ⟨h.epoch, h.given, h.got, h.owed, h.l, fun k _ => h.early k⟩
theorem Drn.next {e : En} {R : Re} (h : Drn e R) : fnd R.early ((R.got : Int) + 1) = e.early ((e.got : Int) + 1) := by
  rw [h.got]
  exact h.early _ (by omega)
theorem Drn.step {e : En} {R : Re} (h : Drn e R) : Drn (Md.step e) { R with got := R.got + 1 } := by
  refine ⟨h.epoch, h.given, by show R.got + 1 = e.got + 1; rw [h.got], h.owed, h.l, fun k hk => ?_⟩
  have hk' : ((e.got + 1 : Nat) : Int) < k := hk
  show fnd R.early k = put e.early ((e.got : Int) + 1) none k
  unfold put
  rw [if_neg (by omega)]
  exact h.early k (by omega)
theorem Drn.sim {e : En} {R : Re} {top : Nat} (h : Drn e R) (hu : Upto e top) : Sim e { R with early := abv R.early (R.got : Int) } := by
  refine ⟨h.epoch, h.given, h.got, h.owed, h.l, fun k => ?_⟩
  show fnd (abv R.early (R.got : Int)) k = e.early k
  rw [fnd_abv, h.got]
  by_cases hk : (e.got : Int) < k
  · rw [if_pos hk]
    exact h.early k hk
  · rw [if_neg hk]
    cases he : e.early k with
    | none => rfl
    | some s => exact absurd (hu.early k s he).1 hk

/-- The loop's plain relation: EF and LF come out, kq rounds are left. -/
structure Dr (EF : En) (LF : List ByteArray) (top kq : Nat) (e : En) (out : List ByteArray) (R : Re) : Prop where
  drn : Drn e R
  dE : drainE kq e = EF
  dL : out ++ drainL kq e = LF
  upto : Upto e top
  meas : top + 1 ≤ kq + e.got
  len : out.length + kq ≤ 33
theorem Dr.start {E : En} {R : Re} {N : Nat} (h : Sim E R) (ho : Ok E N) : Dr (drainE 33 E) (drainL 33 E) (E.got + 32) 33 E [] R :=
  ⟨h.drn, rfl, rfl, ho.upto, by omega, by simp⟩
theorem Dr.step {EF : En} {LF : List ByteArray} {top kq : Nat} {e : En} {out : List ByteArray} {R : Re} (h : Dr EF LF top kq e out R) {s : ByteArray} (hs : fnd R.early ((R.got : Int) + 1) = some s) :
    0 < kq ∧ Dr EF LF top (kq - 1) (Md.step e) (out ++ [s]) { R with got := R.got + 1 } := by
  rw [h.drn.next] at hs
  have hu := h.upto.step hs
  have hk : 0 < kq := by have := h.meas; omega
  obtain ⟨k, rfl⟩ : ∃ k, kq = k + 1 := ⟨kq - 1, by omega⟩
  refine ⟨hk, h.drn.step, ?_, ?_, hu.1, ?_, ?_⟩
  · rw [← h.dE]
    simp only [drainE, hs, Nat.add_sub_cancel]
  · rw [← h.dL]
    simp only [drainL, hs, Nat.add_sub_cancel, List.append_assoc, List.cons_append, List.nil_append]
  · have := h.meas
    show top + 1 ≤ k + 1 - 1 + (e.got + 1)
    omega
  · have := h.len
    simp only [List.length_append, List.length_cons, List.length_nil]
    omega
theorem Dr.stop {EF : En} {LF : List ByteArray} {top kq : Nat} {e : En} {out : List ByteArray} {R : Re} (h : Dr EF LF top kq e out R) (hs : fnd R.early ((R.got : Int) + 1) = none) :
    LF = out ∧ Sim EF { R with early := abv R.early (R.got : Int) } := by
  have h0 := h.drn.sim h.upto
  rw [h.drn.next] at hs
  have h1 := h.dE
  have h2 := h.dL
  cases kq with
  | zero => simp only [drainE, drainL, List.append_nil] at h1 h2; rw [← h1]; exact ⟨h2.symm, h0⟩
  | succ k => simp only [drainE, drainL, hs, List.append_nil] at h1 h2; rw [← h1]; exact ⟨h2.symm, h0⟩
theorem Dr.goton {EF : En} {LF : List ByteArray} {top kq : Nat} {e : En} {out : List ByteArray} {R : Re} (h : Dr EF LF top kq e out R) : R.got ≤ top ∧ out.length ≤ 33 := by
  have := h.upto.got
  have := h.len
  rw [h.drn.got]
  omega

end Go.Proofs.Ytjlhipnlacfekaa.Rf
