/-
  An end's memory under Take's single steps.
-/
import Derived.Test.YtjlhipnlacfekaaWc
namespace Go.Proofs.Ytjlhipnlacfekaa.Wa
open Go.RowKit Go.Maps Go.Proofs.Ytjlhipnlacfekaa.Md Go.Proofs.Ytjlhipnlacfekaa.Hp Go.Proofs.Ytjlhipnlacfekaa.Rp
set_option linter.unusedSimpArgs false
set_option linter.unusedVariables false

/-- The memory alone, without the bounds. -/
structure Mem (w : World) (p : Nat) (E : En) (F : Nat → Prop) (n : Nat) (sv : Value) (m : Nat) : Prop where
  fp : F p
  fm : F m
  ne : p ≠ m
  blk : w.heap[p]? = some (.cells (fields E sv m) 66)
  sl : Sl w 1 sv E.opn.length (E.opn.map .string) (fun b => F b ∧ b ≠ p ∧ b ≠ m)
  mp : MapIs w m E.early n

section
variable {w w' : World} {p : Nat} {E : En} {F : Nat → Prop} {n : Nat} {sv : Value} {m : Nat}
theorem mem_of (h : RepAt w p E F n sv m) : Mem w p E F n sv m := ⟨h.fp, h.fm, h.ne, h.blk, h.sl, h.mp⟩
theorem Mem.rep (h : Mem w p E F n sv m) (ho : Ok E n) : RepAt w p E F n sv m := ⟨ho, h.fp, h.fm, h.ne, h.blk, h.sl, h.mp⟩
theorem Mem.lt (h : Mem w p E F n sv m) : p < w.heap.size := (Array.getElem?_eq_some_iff.1 h.blk).1
theorem Mem.c0 (h : Mem w p E F n sv m) : w.cell? ⟨p, 0, none⟩ = some (.int .i64 E.epoch) := blk_cell h.blk 0 _ rfl
theorem Mem.c1 (h : Mem w p E F n sv m) : w.cell? ⟨p, 1, none⟩ = some sv := blk_cell h.blk 1 _ rfl
theorem Mem.c2 (h : Mem w p E F n sv m) : w.cell? ⟨p, 2, none⟩ = some (.int .i64 (E.given : Int)) := blk_cell h.blk 2 _ rfl
theorem Mem.c3 (h : Mem w p E F n sv m) : w.cell? ⟨p, 3, none⟩ = some (.int .i64 (E.got : Int)) := blk_cell h.blk 3 _ rfl
theorem Mem.c4 (h : Mem w p E F n sv m) : w.cell? ⟨p, 4, none⟩ = some (.map (some m)) := blk_cell h.blk 4 _ rfl
theorem Mem.c5 (h : Mem w p E F n sv m) : w.cell? ⟨p, 5, none⟩ = some (.bool E.owed) := blk_cell h.blk 5 _ rfl
theorem Mem.fz (h : Mem w p E F n sv m) (i : Nat) : w.frozen? ⟨p, i, none⟩ = false := blk_free h.blk i
theorem Mem.keep (h : Mem w p E F n sv m) (hs : w.heap.size ≤ w'.heap.size) (hk : ∀ b, b < w.heap.size → F b → w'.heap[b]? = w.heap[b]?) : Mem w' p E F n sv m :=
  ⟨h.fp, h.fm, h.ne, by rw [hk p h.lt h.fp]; exact h.blk, h.sl.keep hs fun b hb hf => hk b hb hf.1, h.mp.keep (hk m h.mp.lt h.fm)⟩
theorem Mem.below (h : Mem w p E F n sv m) {B : Nat} (hb : Below B w w') (hB : w.heap.size ≤ B) : Mem w' p E F n sv m := h.keep hb.size fun b hlt _ => hb.block b (by omega)
theorem Mem.drewN (h : Mem w p E F n sv m) (k : Nat) : Mem (w.drewN k) p E F n sv m := h.keep (Nat.le_refl _) fun _ _ _ => rfl
theorem Mem.drew (h : Mem w p E F n sv m) : Mem w.drew p E F n sv m := h.keep (Nat.le_refl _) fun _ _ _ => rfl
theorem Mem.box (h : Mem w p E F n sv m) (o : Obj) : Mem (w.alloc o) p E F n sv m := h.keep (by simp) fun _ hlt _ => Below.heap_alloc _ _ _ hlt
theorem Mem.owed (h : Mem w p E F n sv m) (x : Bool) : Mem (w.setCell ⟨p, 5, none⟩ (.bool x)) p { E with owed := x } F n sv m :=
  ⟨h.fp, h.fm, h.ne, (by rw [blk_set h.blk 5 _]; rfl), h.sl.keep (by rw [size_set]; exact Nat.le_refl _) fun b hb hf => Below.heap_setCell _ _ _ _ hf.2.1, h.mp.keep (Below.heap_setCell _ _ _ _ h.ne.symm)⟩
theorem Mem.got (h : Mem w p E F n sv m) (x : Nat) (v : Value) (hv : v = .int .i64 (x : Int)) : Mem (w.setCell ⟨p, 3, none⟩ v) p { E with got := x } F n sv m :=
  ⟨h.fp, h.fm, h.ne, (by rw [blk_set h.blk 3 _, hv]; rfl), h.sl.keep (by rw [size_set]; exact Nat.le_refl _) fun b hb hf => Below.heap_setCell _ _ _ _ hf.2.1, h.mp.keep (Below.heap_setCell _ _ _ _ h.ne.symm)⟩
theorem Mem.opn (h : Mem w p E F n sv m) (v : Value) (l : List ByteArray) (hv : Sl w 1 v l.length (l.map .string) (fun b => F b ∧ b ≠ p ∧ b ≠ m)) : Mem (w.setCell ⟨p, 1, none⟩ v) p { E with opn := l } F n v m :=
  ⟨h.fp, h.fm, h.ne, (by rw [blk_set h.blk 1 _]; rfl), hv.keep (by rw [size_set]; exact Nat.le_refl _) fun b hb hf => Below.heap_setCell _ _ _ _ hf.2.1, h.mp.keep (Below.heap_setCell _ _ _ _ h.ne.symm)⟩
theorem Mem.map (h : Mem w p E F n sv m) {f : Int → Option ByteArray} {n' : Nat} (hm : MapIs w' m f n') (hg : w.grownBy w' (some m)) : Mem w' p { E with early := f } F n' sv m :=
  ⟨h.fp, h.fm, h.ne, (by rw [hg.block p h.lt (fun e => h.ne (Option.some.inj e))]; exact h.blk), h.sl.keep hg.size fun b hb hf => hg.block b hb (fun e => hf.2.2 (Option.some.inj e)), hm⟩
end

theorem wf_nat (n : Nat) (h : n ≤ 100000000) : (Lit.int .i64 (n : Int)).wf = true := by
  simp [Lit.wf, IntKind.min, IntKind.max, IntKind.bits, IntKind.signed]; omega

/-- What an acknowledgement leaves of the open texts. -/
theorem drop_sl {w : World} {b off cap n k : Nat} {l : List ByteArray} {F : Nat → Prop} (h : Sl w 1 (.slice (some ⟨b, off, none⟩) n cap) n (l.map Value.string) F) (hn : l.length = n) (hk : k ≤ n) :
    Sl w 1 (.slice (some ⟨b, off + k, none⟩) (n - k) (cap - k)) (l.drop k).length ((l.drop k).map Value.string) F := by
  have := h.drop k hk
  rw [Nat.mul_one] at this
  rw [List.length_drop, hn, List.map_drop]
  exact this
theorem none_sl {w : World} {ao : Option Addr} {l : List ByteArray} {F : Nat → Prop} (k : Nat) (hk : l.length ≤ k) : Sl w 1 (.slice ao 0 0) (l.drop k).length ((l.drop k).map Value.string) F := by
  rw [List.drop_eq_nil_of_le hk]
  exact ⟨by simp, ao, 0, rfl, .inl ⟨rfl, rfl⟩⟩

def TakePost (w : World) (p : Nat) (E : En) (F : Nat → Prop) (N : Nat) (g : Gr) (e : Ending) (w' : World) : Prop :=
  ∃ v, e = .returned (.tuple #[v, .int .i64 (takeErr E g)]) ∧ Rep w' p (takeE E g) F (N + 1) ∧ Sl w' 1 v (takeL E g).length ((takeL E g).map .string) (New w w') ∧ Chg F w w' ∧ (takeL E g = [] → v = .slice none 0 0)

end Go.Proofs.Ytjlhipnlacfekaa.Wa
