/-
  'Take': a datagram comes.
-/
import Derived.Test.YtjlhipnlacfekaaWb
import Derived.Test.YtjlhipnlacfekaaWf
import Derived.Deep.LoopGhost
import Derived.Deep.RegionLaw
namespace Go.Proofs.Ytjlhipnlacfekaa.Wa
open Go.RowKit Go.Maps Go.Proofs.Ytjlhipnlacfekaa.Md Go.Proofs.Ytjlhipnlacfekaa.Hp Go.Proofs.Ytjlhipnlacfekaa.Rp
set_option linter.unusedSimpArgs false
set_option linter.unusedVariables false

theorem err_post {w w' : World} {p : Nat} {E : En} {F : Nat → Prop} {N : Nat} {g : Gr} (h : Rep w p E F N) (he : rightErr E g ≠ 0) (hb : Below w.heap.size w w') :
    TakePost w p E F N g (.returned (.tuple #[.slice none 0 0, .int .i64 (rightErr E g)])) w' := by
  have h1 : takeE E g = E := by unfold takeE; rw [if_pos he]
  have h2 : takeL E g = [] := by unfold takeL; rw [if_pos he]
  refine ⟨_, rfl, ?_, ?_, Chg.ofBelow hb, fun _ => rfl⟩
  · rw [h1]
    exact (h.keep hb.size fun b hlt _ => hb.block b hlt).mono (fun b _ hf => hf) (by omega)
  · rw [h2]; exact Sl.nil _ _ _

set_option maxHeartbeats 1000000 in
theorem take_err {w : World} {p : Nat} {E : En} {F : Nat → Prop} {N : Nat} (h : Rep w p E F N) (hN : N ≤ 10000) (g : Gr) (he : rightErr E g ≠ 0) :
    Calls Try.prog 12 #[.pointer (some ⟨p, 0, none⟩), Gr.val g] w (TakePost w p E F N g) := by
  have hbox : Rep (w.alloc (.cells (Gr.cells g).toArray 41)) p E F N := h.keep (by simp) fun b hlt _ => Below.heap_alloc _ _ _ hlt
  have HX := Lib.hid (right_any hbox hN g)
  have HE := Lib.hid (fun (w' : World) (hb : Below w.heap.size w w') => err_post h he hb)
  have hq : (rightErr E g != 0) = true := bne_iff_ne.2 he
  clear h hbox he
  generalize hr : rightErr E g = er at HX HE hq
  clear hr
  obtain ⟨c, u, ep, sq, ak, b⟩ := g
  unfold Gr.val Gr.cells at *
  go_enter Try.func12, Try.ntmps12
  go_wp2_with fail
  refine HX.out.mono ?_
  rintro e w2 ⟨rfl, hb2⟩
  go_wp2_with fail
  go_ret2
  exact HE.out _ (((Below.refl _ _).alloc (Nat.le_refl _) _).trans (hb2.mono (by simp)))

/-- What 'right' lets by. -/
theorem right_zero {E : En} {g : Gr} (h : rightErr E g = 0) : g.epoch = E.epoch ∧ 0 ≤ g.ack ∧ g.ack ≤ (E.given : Int) ∧ 0 ≤ g.seq ∧ g.seq ≤ (E.got : Int) + 32 ∧ g.body.size ≤ 16384 := by
  unfold rightErr at h
  by_cases x1 : g.epoch ≠ E.epoch
  · rw [if_pos x1] at h; cases h
  rw [if_neg x1] at h
  by_cases x2 : bad E g = true
  · rw [if_pos x2] at h; cases h
  rw [if_neg x2] at h
  by_cases x3 : 16384 < g.body.size
  · rw [if_pos x3] at h; cases h
  have x4 : ¬ (g.ack < 0 ∨ (E.given : Int) < g.ack ∨ g.seq < 0 ∨ (E.got : Int) + 32 < g.seq ∨ (g.seq = 0 ∧ g.body.size ≠ 0)) := fun y => x2 (decide_eq_true y)
  exact ⟨Classical.not_not.1 x1, by omega, by omega, by omega, by omega, by omega⟩

theorem drop_sl2 {w : World} {ao : Option Addr} {cap n k : Nat} {l : List ByteArray} {F : Nat → Prop} (h : Sl w 1 (.slice ao n cap) n (l.map Value.string) F) (hn : l.length = n) (h0 : 0 < n) (hk : k ≤ n) :
    Sl w 1 (.slice (Option.map (fun x => x.add k) ao) (n - k) (cap - k)) (l.drop k).length ((l.drop k).map Value.string) F := by
  obtain ⟨b, off, cap', e, _, _, _, _⟩ := h.form h0
  injection e with e1 e2 e3
  subst e1 e3
  have := drop_sl h hn hk
  simpa [Addr.add_lit] using this

theorem cap_sl {w : World} {ao : Option Addr} {cap n k : Nat} {l : List ByteArray} {F : Nat → Prop} (h : Sl w 1 (.slice ao n cap) n (l.map Value.string) F) (h0 : 0 < n) (hc : cap = k) (hn : l.length = n) :
    Sl w 1 (.slice ao (l.drop k).length 0) (l.drop k).length ((l.drop k).map Value.string) F := by
  obtain ⟨b, off, cap', e, _, _, hnc, _⟩ := h.form h0
  injection e with e1 e2 e3
  subst e3 hc
  rw [List.drop_eq_nil_of_le (by omega)]
  exact ⟨by simp, ao, 0, rfl, .inl ⟨rfl, rfl⟩⟩
/-- What the tail of 'Take' begins with. -/
structure Pre (w : World) (B : Nat) (W : World) (p : Nat) (E : En) (F : Nat → Prop) (N : Nat) (sv : Value) (m : Nat) (sq : Nat) (b : ByteArray) : Prop where
  mem : Mem W p E F N sv m
  chg : Chg F w W
  x3 : W.cell? ⟨B, 3, none⟩ = some (.int .i64 (sq : Int))
  x5 : W.cell? ⟨B, 5, none⟩ = some (.string b)
  ne : p ≠ B

theorem pre_open {w w2 : World} {B p : Nat} {E : En} {F : Nat → Prop} {N : Nat} {sv : Value} {m : Nat} {sq : Nat} {b : ByteArray} (h : Pre w B w2 p E F N sv m sq b) (k : Nat) (V : Value) (l : List ByteArray) (hv : Sl w2 1 V l.length (l.map .string) (fun x => F x ∧ x ≠ p ∧ x ≠ m)) :
    Pre w B ((w2.drewN k).setCell ⟨p, 1, none⟩ V) p { E with opn := l } F N V m sq b := by
  refine ⟨(h.mem.drewN k).opn V l (hv.keep (Nat.le_refl _) fun _ _ _ => rfl), (h.chg.drewN k).setCell (.inl h.mem.fp) V, ?_, ?_, h.ne⟩
  · rw [World.cell?_of_block (a := ⟨B, 3, none⟩) (Below.heap_setCell _ _ _ _ h.ne.symm)]; exact h.x3
  · rw [World.cell?_of_block (a := ⟨B, 5, none⟩) (Below.heap_setCell _ _ _ _ h.ne.symm)]; exact h.x5
theorem pre_drewN {w w2 : World} {B p : Nat} {E : En} {F : Nat → Prop} {N : Nat} {sv : Value} {m : Nat} {sq : Nat} {b : ByteArray} (h : Pre w B w2 p E F N sv m sq b) (k : Nat) : Pre w B (w2.drewN k) p E F N sv m sq b :=
  ⟨h.mem.drewN k, h.chg.drewN k, h.x3, h.x5, h.ne⟩
theorem pre_owed {w w2 : World} {B p : Nat} {E : En} {F : Nat → Prop} {N : Nat} {sv : Value} {m : Nat} {sq : Nat} {b : ByteArray} (h : Pre w B w2 p E F N sv m sq b) (x : Bool) : Pre w B (w2.setCell ⟨p, 5, none⟩ (.bool x)) p { E with owed := x } F N sv m sq b := by
  refine ⟨h.mem.owed x, h.chg.setCell (.inl h.mem.fp) _, ?_, ?_, h.ne⟩
  · rw [World.cell?_of_block (a := ⟨B, 3, none⟩) (Below.heap_setCell _ _ _ _ h.ne.symm)]; exact h.x3
  · rw [World.cell?_of_block (a := ⟨B, 5, none⟩) (Below.heap_setCell _ _ _ _ h.ne.symm)]; exact h.x5

theorem acked_same (E : En) (ak : Nat) (h : ¬ E.given - ak < E.opn.length) : acked E (ak : Int) = E := by
  have e : E.opn.length - (E.given - ((ak : Int)).toNat) = 0 := by rw [Int.toNat_natCast]; omega
  unfold acked
  rw [e]
  rfl

theorem grow_rep {W : World} {p : Nat} {E : En} {F : Nat → Prop} {N n : Nat} {sv : Value} {m : Nat} (h : Mem W p E F n sv m) (hn : n ≤ N) (ho : Ok E N) : Rep W p E F N :=
  ⟨sv, m, ho, h.fp, h.fm, h.ne, h.blk, h.sl, h.mp.mono hn⟩
theorem zero_post {w W : World} {B p : Nat} {E E1 : En} {F : Nat → Prop} {N : Nat} {sv : Value} {m : Nat} {sq ak : Nat} {b : ByteArray} {c : Int} {u : Bool} {ep : Int} (h : Pre w B W p E1 F N sv m sq b) (h1 : E1 = acked E (ak : Int))
    (he : rightErr E ⟨c, u, ep, sq, ak, b⟩ = 0) (hs : (sq : Int) = 0) (ho : Ok E N) : TakePost w p E F N ⟨c, u, ep, sq, ak, b⟩ (.returned (.tuple #[.slice none 0 0, .int .i64 0])) W := by
  have e1 : takeE E ⟨c, u, ep, sq, ak, b⟩ = E1 := by
    unfold takeE
    rw [if_neg (by rw [he]; decide), if_pos hs, h1]
  have e2 : takeL E ⟨c, u, ep, sq, ak, b⟩ = [] := by
    unfold takeL
    rw [if_neg (by rw [he]; decide), if_pos hs]
  refine ⟨_, by unfold takeErr; rw [he], ?_, ?_, h.chg, fun _ => rfl⟩
  · rw [e1]
    exact grow_rep h.mem (by omega) (by rw [h1]; exact (ho.acked _).mono (by omega))
  · rw [e2]; exact Sl.nil _ _ _

/-- The loop's relation. -/
structure LoopR (w : World) (p : Nat) (F : Nat → Prop) (N : Nat) (sv : Value) (m : Nat) (EF : En) (LF : List ByteArray) (top kq : Nat) (e : En) (out : List ByteArray) (v : Value) (W : World) : Prop where
  mem : Mem W p e F (N + 1) sv m
  chg : Chg F w W
  sl : Sl W 1 v out.length (out.map .string) (New w W)
  nil : out = [] → v = .slice none 0 0
  dE : drainE kq e = EF
  dL : out ++ drainL kq e = LF
  upto : Upto e top
  meas : top + 1 ≤ kq + e.got
  len : out.length + kq ≤ 33
  hi : top ≤ 33 * N + 32
theorem Mem.more {w : World} {p : Nat} {E : En} {F : Nat → Prop} {n n' : Nat} {sv : Value} {m : Nat} (h : Mem w p E F n sv m) (hn : n ≤ n') : Mem w p E F n' sv m := ⟨h.fp, h.fm, h.ne, h.blk, h.sl, h.mp.mono hn⟩
theorem loop_start {w W : World} {B p : Nat} {E2 : En} {F : Nat → Prop} {N : Nat} {sv : Value} {m : Nat} {sq : Nat} {b : ByteArray} (h : Pre w B W p E2 F N sv m sq b) (ho : Ok E2 N) :
    LoopR w p F N sv m (drainE 33 E2) (drainL 33 E2) (E2.got + 32) 33 E2 [] (.slice none 0 0) W :=
  ⟨h.mem.more (by omega), h.chg, Sl.nil _ _ _, fun _ => rfl, rfl, rfl, ho.upto, by omega, by simp, by have := ho.got; omega⟩

section
variable {P : Program}
/-- 'delete' as one step of a region that draws. -/
theorem step_delete {ops : Array Oper} {o : Oper} {a : Act} {w : World} {K : Act → World → Prop} {Q : Exit → Act → World → Prop} {E : Prop} (hg : o.guard = none) (s y : Operand) (t k : TypeId)
    (ho : o.op = Op.call { callee := Callee.builtin Builtin.delete, args := #[s, y], argTypes := #[t, k] }) {v key : Value} (hs : a.eval s = v) (hy : a.eval y = key) {w' : World}
    (hrun : ∀ ty, (Builtin.delete_ #[t, k] ty #[v, key]).run P w = .ok (.tuple #[]) w') (hK : K (a.put o.dst (.tuple #[])) w') : if Region.wanted o (yielded ops a.tmps) = true then Oper.wp P o a w K Q else E := by
  have hw : Region.wanted o (yielded ops a.tmps) = true := by simp [Region.wanted, hg]
  rw [if_pos hw]
  unfold Oper.wp
  simp [execOp, ho, resolve, invoke, builtin, hs, hy, hrun, Result.andThen]
  exact hK
end
theorem drop_all {w : World} {m n : Nat} {f : Int → Option ByteArray} (h : MapIs w m f n) {k : Int} (hk : (Lit.int .i64 k).wf = true) : ∃ w', (∀ ty, (Builtin.delete_ #[64, 3] ty #[.map (some m), .int .i64 k]).run Try.prog w = .ok (.tuple #[]) w') ∧ MapIs w' m (put f k none) n ∧ w.grownBy w' (some m) := by
  obtain ⟨w', h1, h2, h3⟩ := h.drop hk 0
  refine ⟨w', fun ty => ?_, h2, h3⟩
  exact h1
section
variable {w : World} {p : Nat} {F : Nat → Prop} {N : Nat} {sv : Value} {m : Nat} {EF : En} {LF : List ByteArray} {top kq : Nat} {e : En} {out : List ByteArray} {v : Value} {W : World}
theorem LoopR.drewN (h : LoopR w p F N sv m EF LF top kq e out v W) (k : Nat) : LoopR w p F N sv m EF LF top kq e out v (W.drewN k) :=
  ⟨h.mem.drewN k, h.chg.drewN k, h.sl.keep (Nat.le_refl _) fun _ _ _ => rfl, h.nil, h.dE, h.dL, h.upto, h.meas, h.len, h.hi⟩
/-- Behind a round's three writings. -/
theorem loop_step (h : LoopR w p F N sv m EF LF top kq e out v W) (hF : ∀ b, F b → b < w.heap.size) {s : ByteArray} (hs : e.early ((e.got : Int) + 1) = some s) {W1 W2 W3 : World} {x v' : Value} (hx : x = .int .i64 ((e.got + 1 : Nat) : Int)) (hW1 : W1 = W.setCell ⟨p, 3, none⟩ x)
    (hm : MapIs W2 m (put e.early ((e.got + 1 : Nat) : Int) none) (N + 1)) (hg : W1.drew.grownBy W2 (some m))
    (hsl : Sl W3 1 v' (out.length + 1) (out.map Value.string ++ [Value.string s]) (Grow (New w W) (W2.alloc (.cells #[.string s] 9)) W3)) (hch : Chg (New w W) (W2.alloc (.cells #[.string s] 9)) W3) :
    0 < kq ∧ LoopR w p F N sv m EF LF top (kq - 1) (Md.step e) (out ++ [s]) v' W3 := by
  have hu := h.upto.step hs
  have hk : 0 < kq := by have := h.meas; omega
  obtain ⟨k, rfl⟩ : ∃ k, kq = k + 1 := ⟨kq - 1, by omega⟩
  have hm1 : Mem W1 p { e with got := e.got + 1 } F (N + 1) sv m := by rw [hW1]; exact h.mem.got (e.got + 1) x hx
  have hm2 : Mem W2 p (Md.step e) F (N + 1) sv m := hm1.drew.map hm hg
  have hsz := hch.size
  have hs1 : W1.heap.size = W.heap.size := by rw [hW1, size_set]
  have hs2 := hg.size
  have hs2' : W1.heap.size ≤ W2.heap.size := hs2
  have hwW := h.chg.size
  have hm3 : Mem W3 p (Md.step e) F (N + 1) sv m := by
    refine (hm2.box (.cells #[.string s] 9)).keep hsz fun b hb hf => hch.block b hb fun hn => ?_
    have := hF b hf
    have := hn.1
    omega
  have hc1 : Chg F w W1 := by rw [hW1]; exact h.chg.setCell (.inl h.mem.fp) x
  have hc2 : Chg F w W2 := hc1.drew.trans (Chg.grown hg fun b hb => by injection hb with hb; rw [← hb]; exact h.mem.fm)
  have hc3 : Chg F w W3 := (hc2.alloc _).trans2 hch fun i hi hn => by have := hn.1; omega
  refine ⟨hk, hm3, hc3, ?_, ?_, ?_, ?_, hu.1, ?_, ?_, h.hi⟩
  · simp only [List.length_append, List.length_cons, List.length_nil, List.map_append, List.map_cons, List.map_nil]
    refine hsl.mono fun b hb hf => ⟨?_, hb⟩
    rcases hf with ⟨a, _⟩ | ⟨a, _⟩
    · exact a.1
    · rw [World.size_alloc] at a; omega
  · intro hnil
    exact absurd hnil (by simp)
  · rw [← h.dE]
    simp only [drainE, hs, Nat.add_sub_cancel]
  · rw [← h.dL]
    simp only [drainL, hs, Nat.add_sub_cancel, List.append_assoc, List.cons_append, List.nil_append]
  · have := h.meas
    show top + 1 ≤ k + 1 - 1 + (e.got + 1)
    omega
  · have := h.len
    simp only [List.length_append, List.length_cons, List.length_nil]
    omega
theorem loop_end (h : LoopR w p F N sv m EF LF top kq e out v W) (hs : e.early ((e.got : Int) + 1) = none) : EF = e ∧ LF = out := by
  have h1 := h.dE
  have h2 := h.dL
  cases kq with
  | zero => simp only [drainE, drainL, List.append_nil] at h1 h2; exact ⟨h1.symm, h2.symm⟩
  | succ k => simp only [drainE, drainL, hs, List.append_nil] at h1 h2; exact ⟨h1.symm, h2.symm⟩
theorem end_post {E : En} {g : Gr} (h : LoopR w p F N sv m (takeE E g) (takeL E g) top kq e out v W) (hs : e.early ((e.got : Int) + 1) = none) (he : rightErr E g = 0) (ho : Ok E N) : TakePost w p E F N g (.returned (.tuple #[v, .int .i64 0])) W := by
  obtain ⟨h1, h2⟩ := loop_end h hs
  refine ⟨v, by unfold takeErr; rw [he], ?_, ?_, h.chg, ?_⟩
  · have hm := h.mem
    rw [← h1] at hm
    exact grow_rep hm (Nat.le_refl _) (ho.take g)
  · rw [h2]; exact h.sl
  · rw [h2]; exact h.nil
end

/-- The laid text's state. -/
theorem laid_some {E E1 E2 : En} {c : Int} {u : Bool} {ep : Int} {sq ak : Nat} {b : ByteArray} (h1 : E1 = acked E (ak : Int)) (h2 : E2 = { E1 with owed := true }) (h0 : E2.early (sq : Int) = none) (hg : E2.got < sq) :
    laid (acked E (ak : Int)) ⟨c, u, ep, sq, ak, b⟩ = { E2 with early := put E2.early (sq : Int) (some b) } := by
  subst h1 h2
  unfold laid
  rw [if_pos ⟨h0, by show ((acked E (ak : Int)).got : Int) < (sq : Int); exact_mod_cast hg⟩]
theorem laid_none {E E1 E2 : En} {c : Int} {u : Bool} {ep : Int} {sq ak : Nat} {b : ByteArray} (h1 : E1 = acked E (ak : Int)) (h2 : E2 = { E1 with owed := true }) (h0 : ¬ (E2.early (sq : Int) = none ∧ E2.got < sq)) :
    laid (acked E (ak : Int)) ⟨c, u, ep, sq, ak, b⟩ = E2 := by
  subst h1 h2
  unfold laid
  rw [if_neg (fun x => h0 ⟨x.1, by have h3 : ((acked E (ak : Int)).got : Int) < (sq : Int) := x.2; show (acked E (ak : Int)).got < sq; omega⟩)]
theorem take_eqs {E : En} {c : Int} {u : Bool} {ep : Int} {sq ak : Nat} {b : ByteArray} (he : rightErr E ⟨c, u, ep, sq, ak, b⟩ = 0) (hs : ¬ sq = 0) :
    takeE E ⟨c, u, ep, sq, ak, b⟩ = drainE 33 (laid (acked E (ak : Int)) ⟨c, u, ep, sq, ak, b⟩) ∧ takeL E ⟨c, u, ep, sq, ak, b⟩ = drainL 33 (laid (acked E (ak : Int)) ⟨c, u, ep, sq, ak, b⟩) := by
  have h1 : ¬ ((sq : Int) = 0) := by omega
  constructor
  · unfold takeE
    rw [if_neg (by rw [he]; decide), if_neg h1]
  · unfold takeL
    rw [if_neg (by rw [he]; decide), if_neg h1]
theorem plain_start {w W : World} {B p : Nat} {E E1 E2 : En} {F : Nat → Prop} {N : Nat} {sv : Value} {m : Nat} {sq ak : Nat} {b : ByteArray} {c : Int} {u : Bool} {ep : Int} (h : Pre w B W p E2 F N sv m sq b) (h1 : E1 = acked E (ak : Int)) (h2 : E2 = { E1 with owed := true })
    (he : rightErr E ⟨c, u, ep, sq, ak, b⟩ = 0) (hs : ¬ sq = 0) (h0 : ¬ (E2.early (sq : Int) = none ∧ E2.got < sq)) (ho : Ok E N) :
    LoopR w p F N sv m (drainE 33 E2) (drainL 33 E2) (E2.got + 32) 33 E2 [] (.slice none 0 0) W ∧ drainE 33 E2 = takeE E ⟨c, u, ep, sq, ak, b⟩ ∧ drainL 33 E2 = takeL E ⟨c, u, ep, sq, ak, b⟩ := by
  obtain ⟨e1, e2⟩ := take_eqs he hs
  have hl : laid (acked E (ak : Int)) ⟨c, u, ep, sq, ak, b⟩ = E2 := laid_none h1 h2 h0
  rw [e1, e2, hl]
  refine ⟨loop_start h ?_, rfl, rfl⟩
  rw [← hl]
  exact (ho.acked _).laid _ he
theorem store_start {w W w7 : World} {B p : Nat} {E E1 E2 : En} {F : Nat → Prop} {N : Nat} {sv : Value} {m : Nat} {sq ak : Nat} {b : ByteArray} {c : Int} {u : Bool} {ep : Int} (h : Pre w B W p E2 F N sv m sq b)
    (hm : MapIs w7 m (put E2.early (sq : Int) (some b)) (N + 1)) (hg : W.drew.grownBy w7 (some m)) (h1 : E1 = acked E (ak : Int)) (h2 : E2 = { E1 with owed := true })
    (he : rightErr E ⟨c, u, ep, sq, ak, b⟩ = 0) (hs : ¬ sq = 0) (h0 : E2.early (sq : Int) = none) (hgt : E2.got < sq) (ho : Ok E N) :
    LoopR w p F N sv m (drainE 33 { E2 with early := put E2.early (sq : Int) (some b) }) (drainL 33 { E2 with early := put E2.early (sq : Int) (some b) }) (E2.got + 32) 33 { E2 with early := put E2.early (sq : Int) (some b) } [] (.slice none 0 0) w7 ∧
      drainE 33 { E2 with early := put E2.early (sq : Int) (some b) } = takeE E ⟨c, u, ep, sq, ak, b⟩ ∧ drainL 33 { E2 with early := put E2.early (sq : Int) (some b) } = takeL E ⟨c, u, ep, sq, ak, b⟩ := by
  obtain ⟨e1, e2⟩ := take_eqs he hs
  have hl : laid (acked E (ak : Int)) ⟨c, u, ep, sq, ak, b⟩ = { E2 with early := put E2.early (sq : Int) (some b) } := laid_some h1 h2 h0 hgt
  have hok : Ok { E2 with early := put E2.early (sq : Int) (some b) } N := by rw [← hl]; exact (ho.acked _).laid _ he
  rw [e1, e2, hl]
  refine ⟨⟨h.mem.drew.map hm hg, h.chg.drew.trans (Chg.grown hg fun x hx => by injection hx with hx; rw [← hx]; exact h.mem.fm), Sl.nil _ _ _, fun _ => rfl, rfl, rfl, hok.upto, ?_, by simp, ?_⟩, rfl, rfl⟩
  · show E2.got + 32 + 1 ≤ 33 + E2.got
    omega
  · have := hok.got
    show E2.got + 32 ≤ 33 * N + 32
    have e : ({ E2 with early := put E2.early (sq : Int) (some b) } : En).got = E2.got := rfl
    omega
theorem sl_later {w W8 W9 wA : World} {p m : Nat} {v x : Value} {n : Nat} {xs : List Value} {F : Nat → Prop} (h : Sl W8 1 v n xs (New w W8)) (fp : F p) (fm : F m) (hF : ∀ b, F b → b < w.heap.size) (hW : W9 = W8.setCell ⟨p, 3, none⟩ x) (hg : W9.drew.grownBy wA (some m)) : Sl wA 1 v n xs (New w W8) := by
  have hs9 : W9.heap.size = W8.heap.size := by rw [hW, size_set]
  have h9 : Sl W9 1 v n xs (New w W8) := h.keep (by omega) fun b hb hn => by
    rw [hW]
    exact Below.heap_setCell _ _ _ _ (fun e => by have e' : b = p := e; have := hF p fp; have := hn.1; omega)
  refine h9.keep hg.size fun b hb hn => hg.block b hb fun e => ?_
  injection e with e
  have := hF m fm
  have := hn.1
  omega
theorem sl_box1 {w : World} {n : Nat} {v : Value} {xs : List Value} {F : Nat → Prop} (h : Sl w 1 v n xs F) (o : Obj) : Sl (w.alloc o) 1 v n xs F :=
  h.keep (by simp) fun b hlt _ => Below.heap_alloc _ _ _ hlt

theorem end_post2 {w W : World} {p : Nat} {F : Nat → Prop} {N : Nat} {sv : Value} {m : Nat} {EF : En} {LF : List ByteArray} {top kq : Nat} {e : En} {out : List ByteArray} {v : Value} {E : En} {g : Gr} (h : LoopR w p F N sv m EF LF top kq e out v W) (h1 : EF = takeE E g) (h2 : LF = takeL E g)
    (hs : e.early ((e.got : Int) + 1) = none) (he : rightErr E g = 0) (ho : Ok E N) : TakePost w p E F N g (.returned (.tuple #[v, .int .i64 0])) W := by
  subst h1 h2
  exact end_post h hs he ho
theorem wf_succ (n : Nat) (h : n ≤ 100000000) : (Lit.int .i64 ((n : Int) + 1)).wf = true := by
  simp [Lit.wf, IntKind.min, IntKind.max, IntKind.bits, IntKind.signed]; omega

end Go.Proofs.Ytjlhipnlacfekaa.Wa
