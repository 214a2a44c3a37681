/-
  How an end lies in memory: its six fields, the open texts, the map of the early ones.
-/
import Derived.Test.YtjlhipnlacfekaaProg
import Derived.Test.YtjlhipnlacfekaaMd
import Derived.Test.YtjlhipnlacfekaaHp
import Derived.KernelRfl
import Derived.Lib.Hide
import Derived.WalkSpells
namespace Go.Proofs.Ytjlhipnlacfekaa.Rp
open Go.RowKit Go.Maps Go.Proofs.Ytjlhipnlacfekaa.Md Go.Proofs.Ytjlhipnlacfekaa.Hp
set_option linter.unusedSimpArgs false
set_option linter.unusedVariables false

theorem law : Keyed Try.prog 3 := int_keyed Try.underlying3
theorem zeroS (w : World) : (zeroValue 9).run Try.prog w = .ok (.string ⟨#[]⟩) w := by kernel_rfl

/-- Block m is a map of at most n entries that holds f. -/
def MapIs (w : World) (m : Nat) (f : Int → Option ByteArray) (n : Nat) : Prop :=
  ∃ D : DataW Unit, w.ownsMap Try.prog 3 (plainElem Try.prog 9) m n D ∧ ∀ k : Int, (Lit.int .i64 k).wf = true →
    (f k = none → Maps.has D (.int .i64 k) = false) ∧ ∀ s, f k = some s → Maps.has D (.int .i64 k) = true ∧ ∀ z, D.atKey (.int .i64 k) z = .lit (.string s.data.toList)

theorem MapIs.keep {w w' : World} {m n : Nat} {f : Int → Option ByteArray} (h : MapIs w m f n) (hk : w'.heap[m]? = w.heap[m]?) : MapIs w' m f n := by
  obtain ⟨D, ⟨es, clock, hb, r⟩, hf⟩ := h
  exact ⟨D, ⟨es, clock, by rw [hk]; exact hb, r⟩, hf⟩
theorem MapIs.lt {w : World} {m n : Nat} {f : Int → Option ByteArray} (h : MapIs w m f n) : m < w.heap.size := by
  obtain ⟨D, ho, _⟩ := h
  exact ho.lt
theorem MapIs.mono {w : World} {m n n' : Nat} {f : Int → Option ByteArray} (h : MapIs w m f n) (hn : n ≤ n') : MapIs w m f n' := by
  obtain ⟨D, ho, hf⟩ := h
  exact ⟨D, ho.mono hn, hf⟩
theorem MapIs.made (w : World) (n : Nat) : MapIs (w.alloc (.map #[] 0)) w.heap.size (fun _ => none) n :=
  ⟨.map [], (World.ownsMap_made w Try.prog 3 _).mono (Nat.zero_le _), fun k _ => ⟨fun _ => rfl, fun s hs => by cases hs⟩⟩

theorem MapIs.look {w : World} {m n : Nat} {f : Int → Option ByteArray} (h : MapIs w m f n) {k : Int} (hk : (Lit.int .i64 k).wf = true) :
    (Instr.lookup 64 (.map (some m)) (.int .i64 k) true).run Try.prog w = .ok (.tuple #[.string ((f k).getD ⟨#[]⟩), .bool (f k).isSome]) w := by
  obtain ⟨D, ho, hf⟩ := h
  have hz : plainElem (H := Unit) Try.prog 9 (.string ⟨#[]⟩) = some (.lit (.string []), []) := plainElem_string Try.underlying9 (by decide)
  obtain ⟨v, ps, hrun, hv⟩ := ho.look_ok law Try.underlying64 (zeroS w) hz (keyOf_int_mk Try.underlying3 hk)
  obtain ⟨s, rfl, he, _⟩ := plainElem_string_inv Try.underlying9 hv
  have hs : .lit (.string s.data.toList) = D.atKey (.int .i64 k) (.lit (.string [])) := by simpa using (congrArg Prod.fst he).symm
  rw [hrun]
  cases hfk : f k with
  | none =>
    have hh := (hf k hk).1 hfk
    rw [Maps.atKey_of_not_has hh] at hs
    have : s = ⟨#[]⟩ := by
      obtain ⟨⟨l⟩⟩ := s
      simp at hs
      rw [hs]
    rw [this, hh]
    rfl
  | some x =>
    obtain ⟨hh, hx⟩ := (hf k hk).2 x hfk
    rw [hx] at hs
    have : s = x := by
      obtain ⟨⟨l⟩⟩ := s
      obtain ⟨⟨l'⟩⟩ := x
      simp at hs
      rw [hs]
    rw [this, hh]
    rfl

theorem lit_ne {k j : Int} (h : j ≠ k) : (Lit.int .i64 j) ≠ (Lit.int .i64 k) := fun e => h (by injection e)

theorem MapIs.store {w : World} {m n : Nat} {f : Int → Option ByteArray} (h : MapIs w m f n) {k : Int} (hk : (Lit.int .i64 k).wf = true) (hn : n < maxLen) (s : ByteArray) (hs : s.size ≤ maxLen) :
    ∃ w', (Instr.mapUpdate 64 (.map (some m)) (.int .i64 k) (.string s)).run Try.prog w = .ok () w' ∧ MapIs w' m (put f k (some s)) (n + 1) ∧ w.grownBy w' (some m) := by
  obtain ⟨D, ho, hf⟩ := h
  have hz : plainElem (H := Unit) Try.prog 9 (.string s) = some (.lit (.string s.data.toList), []) := plainElem_string Try.underlying9 hs
  obtain ⟨w', hrun, ho', ht⟩ := ho.store law Try.underlying64 hn (keyOf_int_mk Try.underlying3 hk) hz
  refine ⟨w', hrun, ⟨_, ho', fun j hj => ?_⟩, ht.grown⟩
  simp only [put]
  by_cases hjk : j = k
  · subst hjk
    rw [if_pos rfl]
    refine ⟨(fun e => by cases e), fun x hx => ?_⟩
    obtain rfl := Option.some.inj hx
    have hkl : WideAt.IsKeyLit (.int .i64 j) := trivial
    exact ⟨Maps.has_put_same ho.isMap hkl _, fun z => Maps.atKey_put_same ho.isMap hkl _ _⟩
  · rw [if_neg hjk]
    rw [Maps.has_put_other (lit_ne hjk)]
    refine ⟨(hf j hj).1, fun x hx => ⟨((hf j hj).2 x hx).1, fun z => ?_⟩⟩
    rw [Maps.atKey_put_other (lit_ne hjk)]
    exact ((hf j hj).2 x hx).2 z

theorem MapIs.drop {w : World} {m n : Nat} {f : Int → Option ByteArray} (h : MapIs w m f n) {k : Int} (hk : (Lit.int .i64 k).wf = true) (ty : TypeId) :
    ∃ w', (Builtin.delete_ #[64, 3] ty #[.map (some m), .int .i64 k]).run Try.prog w = .ok (.tuple #[]) w' ∧ MapIs w' m (put f k none) n ∧ w.grownBy w' (some m) := by
  obtain ⟨D, ho, hf⟩ := h
  obtain ⟨w', hrun, ho', ht⟩ := ho.drop law Try.underlying64 (keyOf_int_mk Try.underlying3 hk) ty
  refine ⟨w', hrun, ⟨_, ho', fun j hj => ?_⟩, ht.grown⟩
  simp only [put]
  by_cases hjk : j = k
  · subst hjk
    rw [if_pos rfl]
    exact ⟨fun _ => Maps.has_del_same, fun x hx => by cases hx⟩
  · rw [if_neg hjk]
    rw [Maps.has_del_other (lit_ne hjk)]
    refine ⟨(hf j hj).1, fun x hx => ⟨((hf j hj).2 x hx).1, fun z => ?_⟩⟩
    rw [Maps.atKey_del_other (lit_ne hjk)]
    exact ((hf j hj).2 x hx).2 z

/-- The six fields. -/
def fields (E : En) (sv : Value) (m : Nat) : Array Value := #[.int .i64 E.epoch, sv, .int .i64 (E.given : Int), .int .i64 (E.got : Int), .map (some m), .bool E.owed]
/-- Block p is the end E, in blocks of F, behind at most N calls; its slice is sv, its map is block m. -/
structure RepAt (w : World) (p : Nat) (E : En) (F : Nat → Prop) (N : Nat) (sv : Value) (m : Nat) : Prop where
  ok : Ok E N
  fp : F p
  fm : F m
  ne : p ≠ m
  blk : w.heap[p]? = some (.cells (fields E sv m) 66)
  sl : Sl w 1 sv E.opn.length (E.opn.map .string) (fun b => F b ∧ b ≠ p ∧ b ≠ m)
  mp : MapIs w m E.early N
def Rep (w : World) (p : Nat) (E : En) (F : Nat → Prop) (N : Nat) : Prop := ∃ sv m, RepAt w p E F N sv m

theorem RepAt.lt {w : World} {p : Nat} {E : En} {F : Nat → Prop} {N : Nat} {sv : Value} {m : Nat} (h : RepAt w p E F N sv m) : p < w.heap.size := (Array.getElem?_eq_some_iff.1 h.blk).1
theorem RepAt.keep {w w' : World} {p : Nat} {E : En} {F : Nat → Prop} {N : Nat} {sv : Value} {m : Nat} (h : RepAt w p E F N sv m) (hs : w.heap.size ≤ w'.heap.size) (hk : ∀ b, b < w.heap.size → F b → w'.heap[b]? = w.heap[b]?) : RepAt w' p E F N sv m :=
  ⟨h.ok, h.fp, h.fm, h.ne, by rw [hk p h.lt h.fp]; exact h.blk, h.sl.keep hs fun b hb hf => hk b hb hf.1, h.mp.keep (hk m h.mp.lt h.fm)⟩
theorem RepAt.mono {w : World} {p : Nat} {E : En} {F G : Nat → Prop} {N M : Nat} {sv : Value} {m : Nat} (h : RepAt w p E F N sv m) (hg : ∀ b, b < w.heap.size → F b → G b) (hN : N ≤ M) : RepAt w p E G M sv m :=
  ⟨h.ok.mono hN, hg p h.lt h.fp, hg m h.mp.lt h.fm, h.ne, h.blk, h.sl.mono fun b hb hf => ⟨hg b hb hf.1, hf.2⟩, h.mp.mono hN⟩
theorem Rep.keep {w w' : World} {p : Nat} {E : En} {F : Nat → Prop} {N : Nat} (h : Rep w p E F N) (hs : w.heap.size ≤ w'.heap.size) (hk : ∀ b, b < w.heap.size → F b → w'.heap[b]? = w.heap[b]?) : Rep w' p E F N := by
  obtain ⟨sv, m, h⟩ := h
  exact ⟨sv, m, h.keep hs hk⟩
theorem Rep.chg {w w' : World} {p : Nat} {E : En} {F G : Nat → Prop} {N : Nat} (h : Rep w p E F N) (hc : Chg G w w') (hd : ∀ b, b < w.heap.size → F b → ¬ G b) : Rep w' p E F N :=
  h.keep hc.size fun b hb hf => hc.block b hb (hd b hb hf)
theorem Rep.mono {w : World} {p : Nat} {E : En} {F G : Nat → Prop} {N M : Nat} (h : Rep w p E F N) (hg : ∀ b, b < w.heap.size → F b → G b) (hN : N ≤ M) : Rep w p E G M := by
  obtain ⟨sv, m, h⟩ := h
  exact ⟨sv, m, h.mono hg hN⟩
theorem Rep.ok {w : World} {p : Nat} {E : En} {F : Nat → Prop} {N : Nat} (h : Rep w p E F N) : Ok E N := by
  obtain ⟨sv, m, h⟩ := h
  exact h.ok

theorem blk_cell {w : World} {p : Nat} {cs : Array Value} {t : TypeId} (h : w.heap[p]? = some (.cells cs t)) (i : Nat) (v : Value) (hi : cs[i]? = some v) : w.cell? ⟨p, i, none⟩ = some v := by
  simp only [World.cell?, h]
  simpa using hi
theorem blk_free {w : World} {p : Nat} {cs : Array Value} {t : TypeId} (h : w.heap[p]? = some (.cells cs t)) (i : Nat) : w.frozen? ⟨p, i, none⟩ = false := by
  simp only [World.frozen?, h]
  simp
theorem blk_set {w : World} {p : Nat} {cs : Array Value} {t : TypeId} (h : w.heap[p]? = some (.cells cs t)) (i : Nat) (v : Value) : (w.setCell ⟨p, i, none⟩ v).heap[p]? = some (.cells (cs.setIfInBounds i v) t) := by
  have hlt : p < w.heap.size := (Array.getElem?_eq_some_iff.1 h).1
  have he : w.heap[p] = .cells cs t := (Array.getElem?_eq_some_iff.1 h).2
  simp only [World.setCell, Array.getElem?_modify]
  simp [hlt, he]

end Go.Proofs.Ytjlhipnlacfekaa.Rp
