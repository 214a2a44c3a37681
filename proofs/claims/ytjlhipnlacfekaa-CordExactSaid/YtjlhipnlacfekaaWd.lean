/-
  'gram' and 'Out': the datagrams to be sent now.
-/
import Derived.Test.YtjlhipnlacfekaaWc
import Derived.Deep.RegionWith
import Derived.Deep.LoopGhost
namespace Go.Proofs.Ytjlhipnlacfekaa.Wa
open Go.RowKit Go.Maps Go.Proofs.Ytjlhipnlacfekaa.Md Go.Proofs.Ytjlhipnlacfekaa.Hp Go.Proofs.Ytjlhipnlacfekaa.Rp
set_option linter.unusedSimpArgs false
set_option linter.unusedVariables false

set_option maxHeartbeats 1000000 in
theorem gram_cells {w : World} {p : Nat} (ep : Int) (gt : Nat) (hlt : p < w.heap.size) (k0 : w.cell? ⟨p, 0, none⟩ = some (.int .i64 ep)) (k3 : w.cell? ⟨p, 3, none⟩ = some (.int .i64 (gt : Int))) (sq : Int) (b : ByteArray) :
    Calls Try.prog 28 #[.pointer (some ⟨p, 0, none⟩), .int .i64 sq, .string b] w fun e w' => e = .returned (.agg #[.int .i64 0, .bool false, .int .i64 ep, .int .i64 sq, .int .i64 (gt : Int), .string b]) ∧ Below w.heap.size w w' := by
  go_enter Try.func28, Try.ntmps28
  go_wp2_with fail
  go_region
  all_goals
    go_wp2_with fail
    exact bodyPost_ret (v := .agg #[.int .i64 0, .bool false, .int .i64 ep, .int .i64 sq, .int .i64 (gt : Int), .string b]) (by simp [results, Try.results28, go_sem]) rfl ⟨rfl, ((Below.refl _ _).alloc (Nat.le_refl _) _).trans ⟨rfl, rfl, rfl, Nat.le_refl _, fun _ _ => rfl⟩⟩

section
variable {P : Program}
/-- 'append' as one step of a region that draws. -/
theorem step_append_sl {ops : Array Oper} {o : Oper} {a : Act} {w : World} {K : Act → World → Prop} {Q : Exit → Act → World → Prop} {E : Prop} (hg : o.guard = none) (s y : Operand) (t : TypeId)
    (ho : o.op = Op.call { callee := Callee.builtin Builtin.append, args := #[s, y], argTypes := #[t, t] })
    (e : TypeId) (z : Value) (size bytes : Nat) (ht : P.underlying t = some (.slice e)) (hinfo : (P.info? e).map (fun i => (i.zero, i.size, i.bytes)) = some (some z, size, bytes)) (hzs : z.cells.size = size) (hsz : 0 < size)
    {v x : Value} {n m : Nat} {xs news : List Value} {F : Nat → Prop} (hs : a.eval s = v) (hy : a.eval y = x) (h : Sl w size v n xs F) (hx : Hp.Src w x m news) (hl : news.length = m * size) (h1 : ∀ u ∈ news, u.oneCell' = true) (h63 : n + m ≤ maxLen) (hbytes : (n + m) * bytes ≤ 140737488355328)
    (hK : ∀ v' w', Sl w' size v' (n + m) (xs ++ news) (Grow F w w') → Chg F w w' → K (a.put o.dst v') w') :
    if Region.wanted o (yielded ops a.tmps) = true then Oper.wp P o a w K Q else E := by
  have hw : Region.wanted o (yielded ops a.tmps) = true := by simp [Region.wanted, hg]
  rw [if_pos hw]
  obtain ⟨v', w', hrun, r1, r2⟩ := run_append_sl (P := P) w t o.type e z size bytes ht hinfo hzs hsz h hx hl h1 h63 hbytes
  unfold Oper.wp
  simp [execOp, ho, resolve, invoke, builtin, hs, hy, hrun, Result.andThen]
  exact hK _ _ r1 r2
end

def gcells (l : List Gr) : List Value := l.flatMap Gr.cells
theorem gcells_length (l : List Gr) : (gcells l).length = l.length * 6 := by
  induction l with
  | nil => rfl
  | cons g l ih =>
    unfold gcells at ih ⊢
    rw [List.flatMap_cons, List.length_append, ih, List.length_cons]
    show 6 + _ = _
    omega
theorem gcells_append (a b : List Gr) : gcells (a ++ b) = gcells a ++ gcells b := by simp [gcells]
/-- The i-th datagram of the open texts. -/
def gi (e : En) (i : Nat) : Gr := gram e ((e.given : Int) - e.opn.length + 1 + i) (e.opn.getD i ByteArray.empty)
def G (e : En) (i : Nat) : List Gr := (List.range i).map (gi e)
theorem G_succ (e : En) (i : Nat) : G e (i + 1) = G e i ++ [gi e i] := by simp [G, List.range_succ]
theorem G_length (e : En) (i : Nat) : (G e i).length = i := by simp [G]
theorem grams_eq (e : En) : ∀ (l : List ByteArray) (i : Nat), e.opn.drop i = l → i ≤ e.opn.length → G e i ++ grams e i l = G e e.opn.length := by
  intro l
  induction l with
  | nil =>
    intro i h hi
    have : e.opn.length ≤ i := List.drop_eq_nil_iff.1 h
    rw [show i = e.opn.length by omega]
    simp [grams]
  | cons b l ih =>
    intro i h hi
    have hlt : i < e.opn.length := by
      rcases Nat.lt_or_ge i e.opn.length with x | x
      · exact x
      · rw [List.drop_eq_nil_of_le x] at h; cases h
    have hb : e.opn.getD i ByteArray.empty = b := by
      rw [List.drop_eq_getElem_cons hlt] at h
      rw [List.getD_eq_getElem?_getD, List.getElem?_eq_getElem hlt]
      exact (List.cons.inj h).1
    have hl : e.opn.drop (i + 1) = l := by
      rw [List.drop_eq_getElem_cons hlt] at h
      exact (List.cons.inj h).2
    have hg : grams e i (b :: l) = gi e i :: grams e (i + 1) l := by simp only [grams, gi, hb]
    rw [← ih (i + 1) hl hlt, G_succ, List.append_assoc, hg]
    rfl
theorem grams_G (e : En) : grams e 0 e.opn = G e e.opn.length := by
  have := grams_eq e e.opn 0 rfl (Nat.zero_le _)
  simpa [G] using this

end Go.Proofs.Ytjlhipnlacfekaa.Wa
