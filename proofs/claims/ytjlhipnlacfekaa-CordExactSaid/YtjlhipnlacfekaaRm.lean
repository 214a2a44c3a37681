/-
  The reference's End: its plain state and its memory.
-/
import Derived.Test.YtjlhipnlacfekaaRa
namespace Go.Proofs.Ytjlhipnlacfekaa.Rf
open Go.RowKit Go.Maps Go.Proofs.Ytjlhipnlacfekaa.Md Go.Proofs.Ytjlhipnlacfekaa.Hp Go.Proofs.Ytjlhipnlacfekaa.Rp Go.Proofs.Ytjlhipnlacfekaa.Lbl Go.Proofs.Ytjlhipnlacfekaa.Wa Go.Proofs.Ytjlhipnlacfekaa.Tm
set_option linter.unusedSimpArgs false
set_option linter.unusedVariables false

structure Re where
  epoch : Int
  l : List Tx
  given : Nat
  got : Nat
  early : List Tx
  owed : Bool
/-- The texts with their numbers, from k on. -/
def nums : Int → List ByteArray → List Tx
  | _, [] => []
  | k, s :: l => (k, s) :: nums (k + 1) l
/-- The reference's End is the plain end E. -/
structure Sim (E : En) (R : Re) : Prop where
  epoch : R.epoch = E.epoch
  given : R.given = E.given
  got : R.got = E.got
  owed : R.owed = E.owed
  l : R.l = nums ((E.given : Int) - E.opn.length + 1) E.opn
  early : ∀ k : Int, fnd R.early k = E.early k
theorem nums_length : ∀ (l : List ByteArray) (k : Int), (nums k l).length = l.length
  | [], _ => rfl
  | _ :: l, k => by simp [nums, nums_length l (k + 1)]
theorem nums_append : ∀ (l : List ByteArray) (k : Int) (s : ByteArray), nums k (l ++ [s]) = nums k l ++ [(k + l.length, s)]
  | [], k, s => by simp [nums]
  | x :: l, k, s => by
    have := nums_append l (k + 1) s
    have e : k + 1 + (l.length : Int) = k + ((l.length + 1 : Nat) : Int) := by omega
    simp only [List.cons_append, nums, this, List.length_cons, e]
theorem nums_at : ∀ (l : List ByteArray) (k : Int) (i : Nat), (nums k l)[i]? = (l[i]?).map fun s => (k + i, s)
  | [], _, _ => by simp [nums]
  | s :: l, k, 0 => by simp [nums]
  | s :: l, k, i + 1 => by
    simp only [nums, List.getElem?_cons_succ, nums_at l (k + 1) i]
    congr 1
    funext s
    congr 1
    omega
/-- Those above a number: the last ones. -/
theorem abv_nums : ∀ (l : List ByteArray) (k : Int) (n : Int), abv (nums k l) n = nums (k + ((n - k + 1).toNat : Int)) (l.drop (n - k + 1).toNat)
  | [], k, n => by simp [nums, abv]
  | s :: l, k, n => by
    by_cases h : n < k
    · have e : (n - k + 1).toNat = 0 := by omega
      rw [e]
      have ih := abv_nums l (k + 1) n
      have e2 : (n - (k + 1) + 1).toNat = 0 := by omega
      rw [e2] at ih
      simp only [Int.natCast_zero, Int.add_zero, List.drop_zero] at ih ⊢
      unfold abv at ih ⊢
      simp only [nums, List.filter_cons, decide_eq_true h, if_true]
      rw [ih]
    · have ih := abv_nums l (k + 1) n
      have e : (n - k + 1).toNat = (n - (k + 1) + 1).toNat + 1 := by omega
      rw [e, List.drop_succ_cons]
      have e3 : k + (((n - (k + 1) + 1).toNat + 1 : Nat) : Int) = k + 1 + ((n - (k + 1) + 1).toNat : Int) := by omega
      rw [e3, ← ih]
      unfold abv
      simp only [nums, List.filter_cons, decide_eq_false h]
      rfl
theorem fnd_abv : ∀ (l : List Tx) (n k : Int), fnd (abv l n) k = if n < k then fnd l k else none
  | [], n, k => by simp [abv, fnd]
  | x :: l, n, k => by
    have ih := fnd_abv l n k
    unfold abv at ih ⊢
    by_cases h : n < x.1
    · rw [List.filter_cons_of_pos (by simpa using h)]
      simp only [fnd, ih]
      by_cases hk : x.1 = k
      · subst hk
        simp [h]
      · simp [hk]
    · rw [List.filter_cons_of_neg (by simpa using h), ih]
      simp only [fnd]
      by_cases hk : x.1 = k
      · subst hk
        simp [h]
      · simp [hk]
theorem fnd_snoc : ∀ (l : List Tx) (x : Tx) (k : Int), fnd (l ++ [x]) k = match fnd l k with | some s => some s | none => if x.1 = k then some x.2 else none
  | [], x, k => by simp [fnd]
  | y :: l, x, k => by
    have ih := fnd_snoc l x k
    simp only [List.cons_append, fnd, ih]
    by_cases h : y.1 = k
    · simp [h]
    · simp [h]

/-- The block alone. -/
structure Core (w0 : World) (L : Nat → Nat) (w : World) (p : Nat) (R : Re) (v1 v4 : Value) : Prop where
  lab : Lab w0 L w
  lp : L p = 12
  blk : w.heap[p]? = some (.cells #[.int .i64 R.epoch, v1, .int .i64 (R.given : Int), .int .i64 (R.got : Int), v4, .bool R.owed] 57)
structure RepR (w0 : World) (L : Nat → Nat) (w : World) (p : Nat) (R : Re) (v1 v4 : Value) : Prop extends Core w0 L w p R v1 v4 where
  s1 : Sl w 2 v1 R.l.length (tcells R.l) (Lb L w 13)
  s4 : Sl w 2 v4 R.early.length (tcells R.early) (Lb L w 14)
/-- Labels 12, 13, 14 apart, all is as it was. -/
structure KeptR (L : Nat → Nat) (w : World) (L' : Nat → Nat) (w' : World) : Prop where
  size : w.heap.size ≤ w'.heap.size
  lab : ∀ b, b < w.heap.size → L' b = L b
  block : ∀ b, b < w.heap.size → (L b < 12 ∨ 14 < L b) → w'.heap[b]? = w.heap[b]?
theorem KeptR.refl (L : Nat → Nat) (w : World) : KeptR L w L w := ⟨Nat.le_refl _, fun _ _ => rfl, fun _ _ _ => rfl⟩
theorem KeptR.trans {L L' L'' : Nat → Nat} {w w' w'' : World} (h : KeptR L w L' w') (k : KeptR L' w' L'' w'') : KeptR L w L'' w'' := by
  refine ⟨Nat.le_trans h.size k.size, fun b hb => ?_, fun b hb hl => ?_⟩
  · rw [k.lab b (Nat.lt_of_lt_of_le hb h.size), h.lab b hb]
  · rw [k.block b (Nat.lt_of_lt_of_le hb h.size) (by rw [h.lab b hb]; exact hl), h.block b hb hl]
theorem KeptR.rel {L : Nat → Nat} {w w' : World} {i : Nat} (h1 : 12 ≤ i) (h2 : i ≤ 14) (hc : Chg (Lb L w i) w w') (r : Nat) : KeptR L w (Lbl.rel L w r) w' :=
  ⟨hc.size, fun b hb => by unfold Lbl.rel; rw [if_pos hb], fun b hb hl => hc.block b hb fun x => by have := x.1; omega⟩
theorem KeptR.stay {L : Nat → Nat} {w w' : World} (hb : Below w.heap.size w w') (r : Nat) : KeptR L w (Lbl.rel L w r) w' :=
  ⟨hb.size, fun b hlt => by unfold Lbl.rel; rw [if_pos hlt], fun b hlt _ => hb.block b hlt⟩
theorem KeptR.set {L : Nat → Nat} {w : World} {p i : Nat} (hl : L p = 12) (v : Value) : KeptR L w L (w.setCell ⟨p, i, none⟩ v) :=
  ⟨by simp [World.setCell], fun _ _ => rfl, fun b hb h9 => Below.heap_setCell w _ v b (fun e => by subst e; omega)⟩
theorem KeptR.same {L : Nat → Nat} {w w' : World} (e : w'.heap = w.heap) : KeptR L w L w' := ⟨by rw [e]; exact Nat.le_refl _, fun _ _ => rfl, fun _ _ _ => by rw [e]⟩
theorem rep_keptR {L L' : Nat → Nat} {w w' : World} {p : Nat} {E : En} {N : Nat} (h : Rep w p E (Lb L w 11) N) (hk : KeptR L w L' w') : Rep w' p E (Lb L' w' 11) N :=
  (h.keep hk.size fun b hb hf => hk.block b hb (.inl (by have := hf.1; omega))).mono (fun b _ hf => ⟨(hk.lab b hf.2).trans hf.1, Nat.lt_of_lt_of_le hf.2 hk.size⟩) (Nat.le_refl _)

section
variable {w0 : World} {L : Nat → Nat} {w w' : World} {p : Nat} {R : Re} {v1 v4 : Value}
theorem Core.plt (h : Core w0 L w p R v1 v4) : p < w.heap.size := (Array.getElem?_eq_some_iff.1 h.blk).1
theorem Core.c0 (h : Core w0 L w p R v1 v4) : w.cell? ⟨p, 0, none⟩ = some (.int .i64 R.epoch) := blk_cell h.blk 0 _ rfl
theorem Core.c1 (h : Core w0 L w p R v1 v4) : w.cell? ⟨p, 1, none⟩ = some v1 := blk_cell h.blk 1 _ rfl
theorem Core.c2 (h : Core w0 L w p R v1 v4) : w.cell? ⟨p, 2, none⟩ = some (.int .i64 (R.given : Int)) := blk_cell h.blk 2 _ rfl
theorem Core.c3 (h : Core w0 L w p R v1 v4) : w.cell? ⟨p, 3, none⟩ = some (.int .i64 (R.got : Int)) := blk_cell h.blk 3 _ rfl
theorem Core.c4 (h : Core w0 L w p R v1 v4) : w.cell? ⟨p, 4, none⟩ = some v4 := blk_cell h.blk 4 _ rfl
theorem Core.c5 (h : Core w0 L w p R v1 v4) : w.cell? ⟨p, 5, none⟩ = some (.bool R.owed) := blk_cell h.blk 5 _ rfl
theorem Core.fz (h : Core w0 L w p R v1 v4) (i : Nat) : w.frozen? ⟨p, i, none⟩ = false := blk_free h.blk i
theorem Core.step (h : Core w0 L w p R v1 v4) {i : Nat} (h0 : i ≠ 0) (h12 : i ≠ 12) (hc : Chg (Lb L w i) w w') (r : Nat) : Core w0 (rel L w r) w' p R v1 v4 :=
  ⟨h.lab.step h0 hc r, by unfold rel; rw [if_pos h.plt]; exact h.lp, by rw [hc.block p h.plt fun x => by have := x.1; have := h.lp; omega]; exact h.blk⟩
theorem lab_set (h : Core w0 L w p R v1 v4) (i : Nat) (v : Value) : Lab w0 L (w.setCell ⟨p, i, none⟩ v) :=
  ⟨h.lab.bel.trans ⟨rfl, rfl, rfl, by rw [size_set]; exact Nat.le_refl _, fun k hk => Below.heap_setCell _ _ _ _ fun e => by subst e; have := h.lab.zero k hk; have := h.lp; omega⟩, h.lab.zero⟩
theorem Core.set1 (h : Core w0 L w p R v1 v4) (v : Value) (l : List Tx) : Core w0 L (w.setCell ⟨p, 1, none⟩ v) p { R with l := l } v v4 := ⟨lab_set h 1 v, h.lp, by rw [blk_set h.blk 1 v]; rfl⟩
theorem Core.set4 (h : Core w0 L w p R v1 v4) (v : Value) (l : List Tx) : Core w0 L (w.setCell ⟨p, 4, none⟩ v) p { R with early := l } v1 v := ⟨lab_set h 4 v, h.lp, by rw [blk_set h.blk 4 v]; rfl⟩
theorem Core.set2 (h : Core w0 L w p R v1 v4) (n : Nat) (u : Value) (hu : u = .int .i64 (n : Int)) : Core w0 L (w.setCell ⟨p, 2, none⟩ u) p { R with given := n } v1 v4 := ⟨lab_set h 2 _, h.lp, by rw [blk_set h.blk 2 _, hu]; rfl⟩
theorem Core.set3 (h : Core w0 L w p R v1 v4) (n : Nat) (u : Value) (hu : u = .int .i64 (n : Int)) : Core w0 L (w.setCell ⟨p, 3, none⟩ u) p { R with got := n } v1 v4 := ⟨lab_set h 3 _, h.lp, by rw [blk_set h.blk 3 _, hu]; rfl⟩
theorem Core.set5 (h : Core w0 L w p R v1 v4) (b : Bool) : Core w0 L (w.setCell ⟨p, 5, none⟩ (.bool b)) p { R with owed := b } v1 v4 := ⟨lab_set h 5 _, h.lp, by rw [blk_set h.blk 5 _]; rfl⟩
theorem sl_set12 {i size n f : Nat} {v u : Value} {xs : List Value} (h : Sl w size v n xs (Lb L w i)) (hi : i ≠ 12) (hp : L p = 12) : Sl (w.setCell ⟨p, f, none⟩ u) size v n xs (Lb L (w.setCell ⟨p, f, none⟩ u) i) :=
  (h.keep (by rw [size_set]; exact Nat.le_refl _) fun b _ hf => Below.heap_setCell _ _ _ _ fun x => by subst x; have := hf.1; omega).mono fun b _ x => ⟨x.1, by rw [size_set]; exact x.2⟩
theorem RepR.stay (h : RepR w0 L w p R v1 v4) (hb : Below w.heap.size w w') (r : Nat) : RepR w0 (rel L w r) w' p R v1 v4 :=
  ⟨h.toCore.step (i := 1) (by decide) (by decide) (Chg.ofBelow hb) r, sl_stay h.s1 hb, sl_stay h.s4 hb⟩
theorem RepR.other (h : RepR w0 L w p R v1 v4) {i : Nat} (h0 : i ≠ 0) (hi : i < 12) (hc : Chg (Lb L w i) w w') (r : Nat) : RepR w0 (rel L w r) w' p R v1 v4 :=
  ⟨h.toCore.step h0 (by omega) hc r, sl_other h.s1 hc (by omega), sl_other h.s4 hc (by omega)⟩
end

end Go.Proofs.Ytjlhipnlacfekaa.Rf
