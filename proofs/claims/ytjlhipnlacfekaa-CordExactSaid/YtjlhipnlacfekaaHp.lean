/-
  Memory: a slice that reads as a list, lying in blocks of its own, and what a call may turn. No function of the program is in sight.
-/
import Derived.WalkKit
import Derived.Below
import Derived.ArgAppend
import Derived.Deep.Upon
import Derived.Deep.Draws
import Derived.Deep.MidRow
import Derived.Maps.OwnSet
namespace Go.Proofs.Ytjlhipnlacfekaa.Hp
open Go.RowKit
set_option linter.unusedSimpArgs false
set_option linter.unusedVariables false

/-- What was there is as it was, but for the blocks of F. -/
structure Chg (F : Nat → Prop) (w w' : World) : Prop where
  os : w'.os = w.os
  tape : w'.tape = w.tape
  output : w'.output = w.output
  size : w.heap.size ≤ w'.heap.size
  block : ∀ k, k < w.heap.size → ¬ F k → w'.heap[k]? = w.heap[k]?

theorem Chg.refl (F : Nat → Prop) (w : World) : Chg F w w := ⟨rfl, rfl, rfl, Nat.le_refl _, fun _ _ _ => rfl⟩
theorem Chg.trans {F : Nat → Prop} {a b c : World} (h : Chg F a b) (k : Chg F b c) : Chg F a c :=
  ⟨k.os.trans h.os, k.tape.trans h.tape, k.output.trans h.output, Nat.le_trans h.size k.size, fun i hi hf => (k.block i (Nat.lt_of_lt_of_le hi h.size) hf).trans (h.block i hi hf)⟩
theorem Chg.mono {F G : Nat → Prop} {w w' : World} (h : Chg F w w') (hg : ∀ k, k < w.heap.size → F k → G k) : Chg G w w' :=
  ⟨h.os, h.tape, h.output, h.size, fun k hk hn => h.block k hk fun hf => hn (hg k hk hf)⟩
/-- Two steps, the second one in blocks that the first one may have made. -/
theorem Chg.trans2 {F G : Nat → Prop} {a b c : World} (h : Chg F a b) (k : Chg G b c) (hg : ∀ i, i < a.heap.size → G i → F i) : Chg F a c :=
  ⟨k.os.trans h.os, k.tape.trans h.tape, k.output.trans h.output, Nat.le_trans h.size k.size, fun i hi hf => (k.block i (Nat.lt_of_lt_of_le hi h.size) fun x => hf (hg i hi x)).trans (h.block i hi hf)⟩
theorem Chg.alloc {F : Nat → Prop} {a w : World} (h : Chg F a w) (o : Obj) : Chg F a (w.alloc o) :=
  h.trans ⟨rfl, rfl, rfl, by simp, fun k hk _ => Below.heap_alloc _ _ _ hk⟩
theorem Chg.drew {F : Nat → Prop} {a w : World} (h : Chg F a w) : Chg F a w.drew := ⟨h.os, h.tape, h.output, h.size, h.block⟩
theorem Chg.drewN {F : Nat → Prop} {a w : World} (h : Chg F a w) (n : Nat) : Chg F a (w.drewN n) := ⟨h.os, h.tape, h.output, h.size, h.block⟩
theorem Chg.setCell {F : Nat → Prop} {a w : World} (h : Chg F a w) {p : Addr} (hp : F p.block ∨ a.heap.size ≤ p.block) (u : Value) : Chg F a (w.setCell p u) :=
  ⟨h.os, h.tape, h.output, Nat.le_trans h.size (by simp [World.setCell]), fun k hk hf => by
    rw [Below.heap_setCell w p u k (fun e => by subst e; rcases hp with hp | hp; exact hf hp; omega)]
    exact h.block k hk hf⟩
theorem Chg.grown {F : Nat → Prop} {w w' : World} {row : Option Nat} (hg : w.grownBy w' row) (hr : ∀ k, row = some k → F k) : Chg F w w' :=
  ⟨hg.os, hg.tape, hg.output, hg.size, fun k hk hf => hg.block k hk fun e => hf (hr k e.symm)⟩
theorem Chg.below {F : Nat → Prop} {w w' : World} (h : Chg F w w') {B : Nat} (hB : B ≤ w.heap.size) (hf : ∀ k, k < B → ¬ F k) : Below B w w' :=
  ⟨h.os, h.tape, h.output, h.size, fun k hk => h.block k (by omega) (hf k hk)⟩
theorem Chg.ofBelow {F : Nat → Prop} {w w' : World} (h : Below w.heap.size w w') : Chg F w w' := ⟨h.os, h.tape, h.output, h.size, fun k hk _ => h.block k hk⟩

/-- Blocks of F that were there, and new ones. -/
def Grow (F : Nat → Prop) (w w' : World) : Nat → Prop := fun b => (F b ∧ b < w.heap.size) ∨ (w.heap.size ≤ b ∧ b < w'.heap.size)
def New (w w' : World) : Nat → Prop := fun b => w.heap.size ≤ b ∧ b < w'.heap.size

/-- THE SLICE v READS AS THE CELLS xs (n elements of 'size' cells each), in a block of F. -/
def Sl (w : World) (size : Nat) (v : Value) (n : Nat) (xs : List Value) (F : Nat → Prop) : Prop :=
  xs.length = n * size ∧ ∃ ao cap, v = .slice ao n cap ∧ ((n = 0 ∧ cap = 0) ∨ ∃ b off, ao = some ⟨b, off, none⟩ ∧ F b ∧ b < w.heap.size ∧ n ≤ cap ∧ cap ≤ maxLen ∧
    (∀ j u, xs[j]? = some u → w.cell? ⟨b, off + j, none⟩ = some u) ∧ (∀ j, j < cap * size → (w.cell? ⟨b, off + j, none⟩).isSome = true) ∧ ∀ o, w.frozen? ⟨b, o, none⟩ = false)

theorem Sl.nil (w : World) (size : Nat) (F : Nat → Prop) : Sl w size (.slice none 0 0) 0 [] F := ⟨by simp, none, 0, rfl, .inl ⟨rfl, rfl⟩⟩
theorem Sl.len {w : World} {size n : Nat} {v : Value} {xs : List Value} {F : Nat → Prop} (h : Sl w size v n xs F) : xs.length = n * size := h.1
theorem Sl.slice {w : World} {size n : Nat} {v : Value} {xs : List Value} {F : Nat → Prop} (h : Sl w size v n xs F) : ∃ ao cap, v = .slice ao n cap := by
  obtain ⟨_, ao, cap, rfl, _⟩ := h
  exact ⟨ao, cap, rfl⟩
theorem Sl.mono {w : World} {size n : Nat} {v : Value} {xs : List Value} {F G : Nat → Prop} (h : Sl w size v n xs F) (hg : ∀ b, b < w.heap.size → F b → G b) : Sl w size v n xs G := by
  obtain ⟨h1, ao, cap, rfl, h2⟩ := h
  exact ⟨h1, ao, cap, rfl, h2.imp id fun ⟨b, off, e, hf, hb, r⟩ => ⟨b, off, e, hg b hb hf, hb, r⟩⟩
theorem Sl.keep {w w' : World} {size n : Nat} {v : Value} {xs : List Value} {F : Nat → Prop} (h : Sl w size v n xs F) (hs : w.heap.size ≤ w'.heap.size) (hk : ∀ b, b < w.heap.size → F b → w'.heap[b]? = w.heap[b]?) : Sl w' size v n xs F := by
  obtain ⟨h1, ao, cap, rfl, h2⟩ := h
  refine ⟨h1, ao, cap, rfl, h2.imp id fun ⟨b, off, e, hf, hb, r1, r2, r3, r4, r5⟩ => ⟨b, off, e, hf, by omega, r1, r2, fun j u hj => ?_, fun j hj => ?_, fun o => ?_⟩⟩
  · rw [World.cell?_of_block (a := ⟨b, off + j, none⟩) (hk b hb hf)]; exact r3 j u hj
  · rw [World.cell?_of_block (a := ⟨b, off + j, none⟩) (hk b hb hf)]; exact r4 j hj
  · rw [World.frozen?_of_block (a := ⟨b, o, none⟩) (hk b hb hf)]; exact r5 o
theorem Sl.chg {w w' : World} {size n : Nat} {v : Value} {xs : List Value} {F G : Nat → Prop} (h : Sl w size v n xs F) (hc : Chg G w w') (hd : ∀ b, b < w.heap.size → F b → ¬ G b) : Sl w' size v n xs F :=
  h.keep hc.size fun b hb hf => hc.block b hb (hd b hb hf)
theorem Sl.form {w : World} {size n : Nat} {v : Value} {xs : List Value} {F : Nat → Prop} (h : Sl w size v n xs F) (hn : 0 < n) :
    ∃ b off cap, v = .slice (some ⟨b, off, none⟩) n cap ∧ F b ∧ b < w.heap.size ∧ n ≤ cap ∧ ∀ j u, xs[j]? = some u → w.cell? ⟨b, off + j, none⟩ = some u := by
  obtain ⟨h1, ao, cap, rfl, h2⟩ := h
  rcases h2 with ⟨h0, _⟩ | ⟨b, off, rfl, hf, hb, hc, _, hx, _, _⟩
  · omega
  · exact ⟨b, off, cap, rfl, hf, hb, hc, hx⟩

/-- A literal: the row just made. -/
theorem Sl.lit {w : World} {size n : Nat} {cs : Array Value} {t : TypeId} {F : Nat → Prop} (hs : cs.size = n * size) (hn : n ≤ maxLen) (hF : F w.heap.size) : Sl (w.alloc (.cells cs t)) size (.slice (some ⟨w.heap.size, 0, none⟩) n n) n cs.toList F := by
  refine ⟨by simpa using hs, _, n, rfl, .inr ⟨w.heap.size, 0, rfl, hF, by simp, Nat.le_refl _, hn, ?_, ?_, ?_⟩⟩
  · intro j u hj
    simp only [World.cell?, heap_alloc_new w _]
    simpa using hj
  · intro j hj
    simp only [World.cell?, heap_alloc_new w _]
    simp; omega
  · intro o
    simp only [World.frozen?, heap_alloc_new w _]
    simp

/-- v[k:] -/
theorem Sl.drop {w : World} {size n cap : Nat} {b off : Nat} {xs : List Value} {F : Nat → Prop} (h : Sl w size (.slice (some ⟨b, off, none⟩) n cap) n xs F) (k : Nat) (hk : k ≤ n) :
    Sl w size (.slice (some ⟨b, off + k * size, none⟩) (n - k) (cap - k)) (n - k) (xs.drop (k * size)) F := by
  obtain ⟨h1, ao, cap', e, h2⟩ := h
  injection e with e1 e2 e3
  subst e1 e3
  refine ⟨by rw [List.length_drop, h1, Nat.sub_mul], _, _, rfl, ?_⟩
  rcases h2 with ⟨h0, h0'⟩ | ⟨b', off', e', hf, hb, hc, hm, hx, hs, hfz⟩
  · exact .inl ⟨by omega, by omega⟩
  · injection e' with e'
    injection e' with e1 e2
    subst e1 e2
    refine .inr ⟨b, off + k * size, rfl, hf, hb, by omega, by omega, ?_, ?_, hfz⟩
    · intro j u hj
      rw [List.getElem?_drop] at hj
      rw [Nat.add_assoc]
      exact hx _ u hj
    · intro j hj
      rw [Nat.add_assoc]
      apply hs
      rw [Nat.sub_mul] at hj
      have : k * size ≤ cap * size := Nat.mul_le_mul_right _ (by omega)
      omega
theorem Sl.all {w : World} {size n : Nat} {v v' : Value} {xs : List Value} {F : Nat → Prop} {ao : Option Addr} (e : v' = .slice ao 0 0) : Sl w size v' 0 [] F := ⟨by simp, ao, 0, e, .inl ⟨rfl, rfl⟩⟩

theorem own_sl {w : World} {base e size n : Nat} {v : Value} {xs : List Value} {F : Nat → Prop} (h : w.ownsRow base e size v n xs) (hF : ∀ b, base ≤ b → b < w.heap.size → F b) : Sl w size v n xs F := by
  have h1 := h.1
  have h0 := h
  rcases h.2 with ⟨rfl, rfl⟩ | ⟨g, cap, cur, rfl, hb, hh, hnc, hcm, hsz, htk⟩
  · exact ⟨h1, none, 0, rfl, .inl ⟨rfl, rfl⟩⟩
  · have hlt : g < w.heap.size := (Array.getElem?_eq_some_iff.1 hh).1
    refine ⟨h1, _, cap, rfl, .inr ⟨g, 0, rfl, hF g hb hlt, hlt, hnc, hcm, ?_, ?_, ?_⟩⟩
    · intro j u hj
      have hj' : j < n * size := by rw [← h1]; exact (List.getElem?_eq_some_iff.1 hj).1
      rw [Nat.zero_add, h0.cellAt j hj']
      exact hj
    · intro j hj
      simp only [World.cell?, hh]
      simp; omega
    · intro o
      simp only [World.frozen?, hh]
      simp

theorem size_setCells (b : Nat) : ∀ (vs : List Value) (o : Nat) (w : World), (w.setCells b o vs).heap.size = w.heap.size
  | [], _, _ => rfl
  | v :: r, o, w => by rw [World.setCells, size_setCells b r]; simp [World.setCell]
theorem tape_setCells (b : Nat) : ∀ (vs : List Value) (o : Nat) (w : World), (w.setCells b o vs).tape = w.tape
  | [], _, _ => rfl
  | v :: r, o, w => by rw [World.setCells, tape_setCells b r]; rfl

section
variable {P : Program}
/-- What is appended: nothing (nil), or m elements that are read. -/
def Src (w : World) (x : Value) (m : Nat) (news : List Value) : Prop :=
  (m = 0 ∧ news = [] ∧ x = .slice none 0 0) ∨ (0 < m ∧ ∃ ad c, x = .slice (some ad) m c ∧ ∀ j u, news[j]? = some u → w.cell? (ad.add j) = some u)

/-- append(v, x...): whether there is room or not. -/
theorem run_append_sl (w : World) (t ty e : TypeId) (z : Value) (size bytes : Nat) (ht : P.underlying t = some (.slice e)) (hinfo : (P.info? e).map (fun i => (i.zero, i.size, i.bytes)) = some (some z, size, bytes)) (hzs : z.cells.size = size) (hsz : 0 < size)
    {v x : Value} {n m : Nat} {xs news : List Value} {F : Nat → Prop} (h : Sl w size v n xs F) (hx : Src w x m news) (hl : news.length = m * size) (h1 : ∀ u ∈ news, u.oneCell' = true) (h63 : n + m ≤ maxLen) (hbytes : (n + m) * bytes ≤ 140737488355328) :
    ∃ v' w', (Builtin.append_ #[t, t] ty #[v, x]).run P w = .ok v' w' ∧ Sl w' size v' (n + m) (xs ++ news) (Grow F w w') ∧ Chg F w w' := by
  obtain ⟨i, hi, hzz⟩ := Option.map_eq_some_iff.1 hinfo
  simp only [Prod.mk.injEq] at hzz
  obtain ⟨hz0, hz1, hz2⟩ := hzz
  subst hz1 hz2
  obtain ⟨hlen, ao, cap, rfl, hcase⟩ := h
  rcases hx with ⟨rfl, rfl, rfl⟩ | ⟨hm, ad, c, rfl, hnews⟩
  · have hnc : n ≤ cap := by rcases hcase with ⟨a, b⟩ | ⟨b, off, _, _, _, h, _⟩ <;> omega
    refine ⟨.slice ao n cap, w, ?_, ?_, Chg.refl _ _⟩
    · rcases ao with _ | a
      · rcases hcase with ⟨a, b⟩ | ⟨b, off, e', _⟩
        · subst a b
          simp [Builtin.append_, run_underlying ht, sizeOf, typeInfo, hi, Builtin.lenOf, Builtin.firstCells, storeCells]
        · cases e'
      · simp [Builtin.append_, run_underlying ht, sizeOf, typeInfo, hi, Builtin.lenOf, Builtin.firstCells, hnc, storeCells]
    · rw [List.append_nil, Nat.add_zero]
      refine ⟨hlen, ao, cap, rfl, hcase.imp id fun ⟨b, off, e', hf, hb, r⟩ => ⟨b, off, e', .inl ⟨hf, hb⟩, hb, r⟩⟩
  · by_cases hr : n + m ≤ cap
    · rcases hcase with ⟨a, b⟩ | ⟨b, off, rfl, hf, hb, hnc, hcm, hxs, hsome, hfz⟩
      · omega
      · have hmul : (n + m) * i.size ≤ cap * i.size := Nat.mul_le_mul_right _ hr
        rw [Nat.add_mul] at hmul
        have hs' : ∀ j, j < news.length → (w.cell? ⟨b, off + n * i.size + j, none⟩).isSome = true := fun j hj => by rw [Nat.add_assoc]; exact hsome _ (by omega)
        have hrun := run_append_room_cells (P := P) w t ty e i ht hi b off n cap ad m c news hl hnews h1 hr hs' (fun j _ => hfz _)
        have hsize : (w.setCells b (off + n * i.size) news).heap.size = w.heap.size := by
          exact size_setCells b news _ w
        refine ⟨_, _, hrun, ⟨by rw [List.length_append, hlen, hl, Nat.add_mul], _, cap, rfl, .inr ⟨b, off, rfl, .inl ⟨hf, hb⟩, by rw [hsize]; exact hb, hr, hcm, ?_, ?_, ?_⟩⟩, ?_⟩
        · intro j u hj
          by_cases hjo : j < xs.length
          · rw [List.getElem?_append_left hjo] at hj
            rw [World.cell?_setCells_out b _ _ _ _ (fun _ _ => Or.inl (by show off + j < off + n * i.size; omega))]
            exact hxs j u hj
          · rw [List.getElem?_append_right (by omega)] at hj
            have hlt : j - xs.length < news.length := (List.getElem?_eq_some_iff.1 hj).1
            have hin := World.cell?_setCells_in b news (off + n * i.size) w hs' (j - xs.length) hlt
            rw [show off + n * i.size + (j - xs.length) = off + j by omega] at hin
            rw [hin, ← hj, List.getElem?_eq_getElem hlt]
        · intro j hj
          exact World.isSome_setCells b _ _ _ _ (hsome j hj)
        · intro o
          rw [World.frozen?_setCells]
          exact hfz o
        · exact ⟨World.os_setCells w b _ news, tape_setCells b news _ w, World.output_setCells w b _ news, by rw [hsize]; exact Nat.le_refl _, fun k hk hn => World.heap_setCells_other w b _ news hk (fun e' => hn (by rw [e']; exact hf))⟩
    · rcases ao with _ | a
      · rcases hcase with ⟨rfl, rfl⟩ | ⟨b, off, e', _⟩
        · obtain rfl : xs = [] := List.eq_nil_of_length_eq_zero (by simpa using hlen)
          obtain ⟨v', w', hrun, r1, r2, _⟩ := run_append_own (P := P) w w.heap.size t ty e i z i.size i.bytes ht hi hz0 rfl rfl hzs hsz (.slice none 0 0) 0 [] (World.ownsRow_nil w _ e i.size) ad m c news hl hnews h1 h63 hbytes (Nat.le_refl _)
          exact ⟨v', w', hrun, own_sl r1 fun b hb hlt => .inr ⟨hb, hlt⟩, Chg.grown r2 fun k hk => by simp [Value.ownBlock] at hk⟩
        · cases e'
      · have holds : ∀ j u, xs[j]? = some u → w.cell? (a.add j) = some u := by
          intro j u hj
          rcases hcase with ⟨rfl, rfl⟩ | ⟨b, off, e', _, _, _, _, hxs, _, _⟩
          · have : xs = [] := List.eq_nil_of_length_eq_zero (by simpa using hlen)
            rw [this] at hj
            cases hj
          · injection e' with e'
            subst e'
            rw [Addr.add_lit]
            exact hxs j u hj
        obtain ⟨v', w', hrun, r1, r2⟩ := run_append_arg_grows (P := P) w t ty e i z i.size i.bytes ht hi hz0 rfl rfl hzs hsz a n cap xs hlen holds ad m c news hl hnews (by omega) h63 hbytes
        exact ⟨v', w', hrun, own_sl r1 fun b hb hlt => .inr ⟨hb, hlt⟩, Chg.grown r2 fun k hk => by cases hk⟩
/-- .. FOR THE WALK. -/
theorem wpList_append_sl (w : World) {ops : Array Oper} {rest : List Oper} {o : Oper} {a : Act} {Q : Exit → Act → World → Prop} (hgd : o.guard = none) (s y : Operand) (t : TypeId)
    (ho : o.op = Op.call { callee := Callee.builtin Builtin.append, args := #[s, y], argTypes := #[t, t] })
    (e : TypeId) (z : Value) (size bytes : Nat) (ht : P.underlying t = some (.slice e)) (hinfo : (P.info? e).map (fun i => (i.zero, i.size, i.bytes)) = some (some z, size, bytes)) (hzs : z.cells.size = size) (hsz : 0 < size)
    {v x : Value} {n m : Nat} {xs news : List Value} {F : Nat → Prop} (hs : a.eval s = v) (hy : a.eval y = x) (h : Sl w size v n xs F) (hx : Src w x m news) (hl : news.length = m * size) (h1 : ∀ u ∈ news, u.oneCell' = true) (h63 : n + m ≤ maxLen) (hbytes : (n + m) * bytes ≤ 140737488355328)
    (hK : ∀ v' w', Sl w' size v' (n + m) (xs ++ news) (Grow F w w') → Chg F w w' → wpList P ops Q rest (a.put o.dst v') w') :
    wpList P ops Q (o :: rest) a w := by
  refine wpList_plain hgd fun K hK' => ?_
  obtain ⟨v', w', hrun, r1, r2⟩ := run_append_sl (P := P) w t o.type e z size bytes ht hinfo hzs hsz h hx hl h1 h63 hbytes
  unfold Oper.wp
  simp [execOp, ho, resolve, invoke, builtin, hs, hy, hrun, Result.andThen]
  exact hK' _ _ (hK v' w' r1 r2)
end

/-- One element of one cell, just boxed. -/
theorem src_one (w : World) (u : Value) (t : TypeId) : Src (w.alloc (.cells #[u] t)) (.slice (some ⟨w.heap.size, 0, none⟩) 1 1) 1 [u] := by
  refine .inr ⟨by decide, _, 1, rfl, fun j x hj => ?_⟩
  have hj0 : j = 0 := by
    have := (List.getElem?_eq_some_iff.1 hj).1
    simp at this; omega
  subst hj0
  rw [Addr.add_lit]
  simp only [World.cell?, heap_alloc_new w _]
  simpa using hj
/-- One element of several cells, just boxed. -/
theorem src_many (w : World) (cs : Array Value) (t : TypeId) : Src (w.alloc (.cells cs t)) (.slice (some ⟨w.heap.size, 0, none⟩) 1 1) 1 cs.toList := by
  refine .inr ⟨by decide, _, 1, rfl, fun j x hj => ?_⟩
  rw [Addr.add_lit]
  simp only [World.cell?, heap_alloc_new w _]
  simpa using hj

end Go.Proofs.Ytjlhipnlacfekaa.Hp
