/-
  Two ends that talk: the memory of a 'Talk'.
-/
import Derived.Test.YtjlhipnlacfekaaLb
import Derived.Test.YtjlhipnlacfekaaWi
import Derived.Test.YtjlhipnlacfekaaWe
namespace Go.Proofs.Ytjlhipnlacfekaa.Tm
open Go.RowKit Go.Maps Go.Proofs.Ytjlhipnlacfekaa.Md Go.Proofs.Ytjlhipnlacfekaa.Hp Go.Proofs.Ytjlhipnlacfekaa.Rp Go.Proofs.Ytjlhipnlacfekaa.Lbl Go.Proofs.Ytjlhipnlacfekaa.Wa
set_option linter.unusedSimpArgs false
set_option linter.unusedVariables false

/-- Two ends, what they were given, what came, and all datagrams. -/
structure Tk where
  a : En
  b : En
  toA : List ByteArray
  toB : List ByteArray
  atA : List ByteArray
  atB : List ByteArray
  pool : List (Gr × Bool)
def newT (ep : Int) : Tk := ⟨newE ep, newE ep, [], [], [], [], []⟩
def sendT (T : Tk) (first : Bool) (s : ByteArray) : Tk :=
  if first = true then { T with a := sent T.a s, toB := if sendErr T.a s = 0 then T.toB ++ [s] else T.toB }
  else { T with b := sent T.b s, toA := if sendErr T.b s = 0 then T.toA ++ [s] else T.toA }
def outs (T : Tk) (first : Bool) : List Gr := if first = true then outL T.a else outL T.b
def outT (T : Tk) (first : Bool) : Tk :=
  if first = true then { T with a := outE T.a, pool := T.pool ++ (outL T.a).map (·, true) }
  else { T with b := outE T.b, pool := T.pool ++ (outL T.b).map (·, false) }
def comeErr (T : Tk) (s : Gr × Bool) : Int := if s.2 = true then takeErr T.b s.1 else takeErr T.a s.1
def comeT (T : Tk) (s : Gr × Bool) : Tk :=
  if s.2 = true then { T with b := takeE T.b s.1, atB := T.atB ++ takeL T.b s.1 }
  else { T with a := takeE T.a s.1, atA := T.atA ++ takeL T.a s.1 }

def Sv (s : Gr × Bool) : Value := .agg #[.int .i64 s.1.client, .bool s.1.up, .int .i64 s.1.epoch, .int .i64 s.1.seq, .int .i64 s.1.ack, .string s.1.body, .bool s.2]
def scells (s : Gr × Bool) : List Value := [.int .i64 s.1.client, .bool s.1.up, .int .i64 s.1.epoch, .int .i64 s.1.seq, .int .i64 s.1.ack, .string s.1.body, .bool s.2]
def pcells (l : List (Gr × Bool)) : List Value := l.flatMap scells
theorem pcells_length (l : List (Gr × Bool)) : (pcells l).length = l.length * 7 := by
  induction l with
  | nil => rfl
  | cons g l ih =>
    unfold pcells at ih ⊢
    rw [List.flatMap_cons, List.length_append, ih, List.length_cons]
    show 7 + _ = _
    omega
theorem pcells_append (a b : List (Gr × Bool)) : pcells (a ++ b) = pcells a ++ pcells b := by simp [pcells]
/-- Cell f of the i-th. -/
theorem pcells_at : ∀ (l : List (Gr × Bool)) (i f : Nat) (s : Gr × Bool), l[i]? = some s → f < 7 → (pcells l)[i * 7 + f]? = (scells s)[f]?
  | [], i, f, s, h, _ => by simp at h
  | x :: l, 0, f, s, h, hf => by
    simp at h
    subst h
    show (scells x ++ pcells l)[0 * 7 + f]? = _
    rw [List.getElem?_append_left (by show 0 * 7 + f < 7; omega), Nat.zero_mul, Nat.zero_add]
  | x :: l, i + 1, f, s, h, hf => by
    show (scells x ++ pcells l)[(i + 1) * 7 + f]? = _
    rw [List.getElem?_append_right (by show 7 ≤ (i + 1) * 7 + f; omega)]
    rw [show (i + 1) * 7 + f - (scells x).length = i * 7 + f by show (i + 1) * 7 + f - 7 = _; omega]
    exact pcells_at l i f s (by simpa using h) hf

/-- The five lists, by the number of their field. -/
def Tk.xs (T : Tk) : Nat → List Value
  | 2 => T.toA.map .string
  | 3 => T.toB.map .string
  | 4 => T.atA.map .string
  | 5 => T.atB.map .string
  | _ => pcells T.pool
def Tk.ns (T : Tk) : Nat → Nat
  | 2 => T.toA.length
  | 3 => T.toB.length
  | 4 => T.atA.length
  | 5 => T.atB.length
  | _ => T.pool.length
def sz : Nat → Nat
  | 2 => 1
  | 3 => 1
  | 4 => 1
  | 5 => 1
  | _ => 7

/-- Block t is the Talk T. Labels: 1 its own block, 2 and 3 the ends, 4 to 8 the lists; 9 and more: others. -/
structure RepT (w0 : World) (L : Nat → Nat) (w : World) (t : Nat) (T : Tk) (N : Nat) (pa pb : Nat) (vs : Nat → Value) : Prop where
  lab : Lab w0 L w
  lt : L t = 1
  blk : w.heap[t]? = some (.cells #[.pointer (some ⟨pa, 0, none⟩), .pointer (some ⟨pb, 0, none⟩), vs 2, vs 3, vs 4, vs 5, vs 6] 37)
  ra : Rep w pa T.a (Lb L w 2) N
  rb : Rep w pb T.b (Lb L w 3) N
  sl : ∀ i, 2 ≤ i → i ≤ 6 → Sl w (sz i) (vs i) (T.ns i) (T.xs i) (Lb L w (i + 2))
def RT (w0 : World) (L : Nat → Nat) (w : World) (t : Nat) (T : Tk) (N : Nat) : Prop := ∃ pa pb vs, RepT w0 L w t T N pa pb vs

/-- What is none of the Talk's is as it was. -/
structure Kept (L : Nat → Nat) (w : World) (L' : Nat → Nat) (w' : World) : Prop where
  size : w.heap.size ≤ w'.heap.size
  lab : ∀ b, b < w.heap.size → L' b = L b
  block : ∀ b, b < w.heap.size → 9 ≤ L b → w'.heap[b]? = w.heap[b]?
theorem Kept.refl (L : Nat → Nat) (w : World) : Kept L w L w := ⟨Nat.le_refl _, fun _ _ => rfl, fun _ _ _ => rfl⟩
theorem Kept.trans {L L' L'' : Nat → Nat} {w w' w'' : World} (h : Kept L w L' w') (k : Kept L' w' L'' w'') : Kept L w L'' w'' := by
  refine ⟨Nat.le_trans h.size k.size, fun b hb => ?_, fun b hb hl => ?_⟩
  · rw [k.lab b (Nat.lt_of_lt_of_le hb h.size), h.lab b hb]
  · rw [k.block b (Nat.lt_of_lt_of_le hb h.size) (by rw [h.lab b hb]; exact hl), h.block b hb hl]
theorem Kept.rel {L : Nat → Nat} {w w' : World} {i : Nat} (hi : i < 9) (hc : Chg (Lb L w i) w w') (r : Nat) : Kept L w (rel L w r) w' :=
  ⟨hc.size, fun b hb => by unfold Lbl.rel; rw [if_pos hb], fun b hb hl => hc.block b hb fun x => by have := x.1; omega⟩
theorem Kept.stay {L : Nat → Nat} {w w' : World} (hb : Below w.heap.size w w') (r : Nat) : Kept L w (Lbl.rel L w r) w' :=
  ⟨hb.size, fun b hlt => by unfold Lbl.rel; rw [if_pos hlt], fun b hlt _ => hb.block b hlt⟩
theorem Kept.set {L : Nat → Nat} {w : World} {t i : Nat} (hl : L t = 1) (v : Value) : Kept L w L (w.setCell ⟨t, i, none⟩ v) :=
  ⟨by simp [World.setCell], fun _ _ => rfl, fun b hb h9 => Below.heap_setCell w _ v b (fun e => by subst e; omega)⟩
theorem Kept.same {L : Nat → Nat} {w w' : World} (e : w'.heap = w.heap) : Kept L w L w' := ⟨by rw [e]; exact Nat.le_refl _, fun _ _ => rfl, fun _ _ _ => by rw [e]⟩

section
variable {w0 : World} {L : Nat → Nat} {w w' : World} {t : Nat} {T : Tk} {N : Nat} {pa pb : Nat} {vs : Nat → Value}
theorem RepT.tlt (h : RepT w0 L w t T N pa pb vs) : t < w.heap.size := (Array.getElem?_eq_some_iff.1 h.blk).1
theorem RepT.c0 (h : RepT w0 L w t T N pa pb vs) : w.cell? ⟨t, 0, none⟩ = some (.pointer (some ⟨pa, 0, none⟩)) := blk_cell h.blk 0 _ rfl
theorem RepT.c1 (h : RepT w0 L w t T N pa pb vs) : w.cell? ⟨t, 1, none⟩ = some (.pointer (some ⟨pb, 0, none⟩)) := blk_cell h.blk 1 _ rfl
theorem RepT.c2 (h : RepT w0 L w t T N pa pb vs) : w.cell? ⟨t, 2, none⟩ = some (vs 2) := blk_cell h.blk 2 _ rfl
theorem RepT.c3 (h : RepT w0 L w t T N pa pb vs) : w.cell? ⟨t, 3, none⟩ = some (vs 3) := blk_cell h.blk 3 _ rfl
theorem RepT.c4 (h : RepT w0 L w t T N pa pb vs) : w.cell? ⟨t, 4, none⟩ = some (vs 4) := blk_cell h.blk 4 _ rfl
theorem RepT.c5 (h : RepT w0 L w t T N pa pb vs) : w.cell? ⟨t, 5, none⟩ = some (vs 5) := blk_cell h.blk 5 _ rfl
theorem RepT.c6 (h : RepT w0 L w t T N pa pb vs) : w.cell? ⟨t, 6, none⟩ = some (vs 6) := blk_cell h.blk 6 _ rfl
theorem RepT.fz (h : RepT w0 L w t T N pa pb vs) (i : Nat) : w.frozen? ⟨t, i, none⟩ = false := blk_free h.blk i
/-- The world's other parts turned. -/
theorem RepT.same (h : RepT w0 L w t T N pa pb vs) (e : w'.heap = w.heap) (e1 : w'.os = w.os) (e2 : w'.tape = w.tape) (e3 : w'.output = w.output) : RepT w0 L w' t T N pa pb vs := by
  have hs : w.heap.size ≤ w'.heap.size := by rw [e]; exact Nat.le_refl _
  have hk : ∀ b : Nat, w'.heap[b]? = w.heap[b]? := fun b => by rw [e]
  have hl : ∀ i b, Lb L w i b → Lb L w' i b := fun i b x => ⟨x.1, by rw [e]; exact x.2⟩
  exact ⟨⟨h.lab.bel.trans ⟨e1, e2, e3, hs, fun k _ => hk k⟩, h.lab.zero⟩, h.lt, by rw [hk]; exact h.blk, (h.ra.keep hs fun b _ _ => hk b).mono (fun b _ => hl 2 b) (Nat.le_refl _),
    (h.rb.keep hs fun b _ _ => hk b).mono (fun b _ => hl 3 b) (Nat.le_refl _), fun i h1 h2 => ((h.sl i h1 h2).keep hs fun b _ _ => hk b).mono fun b _ => hl (i + 2) b⟩
theorem RepT.drew (h : RepT w0 L w t T N pa pb vs) : RepT w0 L w.drew t T N pa pb vs := h.same rfl rfl rfl rfl
theorem RepT.drewN (h : RepT w0 L w t T N pa pb vs) (n : Nat) : RepT w0 L (w.drewN n) t T N pa pb vs := h.same rfl rfl rfl rfl
theorem RepT.mono (h : RepT w0 L w t T N pa pb vs) {M : Nat} (hM : N ≤ M) : RepT w0 L w t T M pa pb vs :=
  ⟨h.lab, h.lt, h.blk, h.ra.mono (fun _ _ x => x) hM, h.rb.mono (fun _ _ x => x) hM, h.sl⟩
/-- Something new, or something of another's (label i) turned. -/
theorem RepT.other (h : RepT w0 L w t T N pa pb vs) {i : Nat} (hi : 9 ≤ i) (hc : Chg (Lb L w i) w w') (r : Nat) : RepT w0 (rel L w r) w' t T N pa pb vs :=
  ⟨h.lab.step (by omega) hc r, by unfold rel; rw [if_pos h.tlt]; exact h.lt, by rw [hc.block t h.tlt fun x => by have := x.1; have := h.lt; omega]; exact h.blk,
    rep_other h.ra hc (by omega), rep_other h.rb hc (by omega), fun j h1 h2 => sl_other (h.sl j h1 h2) hc (by omega)⟩
theorem RepT.stay (h : RepT w0 L w t T N pa pb vs) (hb : Below w.heap.size w w') (r : Nat) : RepT w0 (rel L w r) w' t T N pa pb vs := h.other (i := 9) (Nat.le_refl _) (Chg.ofBelow hb) r
theorem RepT.alloc (h : RepT w0 L w t T N pa pb vs) (o : Obj) (r : Nat) : RepT w0 (rel L w r) (w.alloc o) t T N pa pb vs := h.stay ((Below.refl _ _).alloc (Nat.le_refl _) _) r
/-- The first end turned. -/
theorem RepT.turnA (h : RepT w0 L w t T N pa pb vs) {M : Nat} (hM : N ≤ M) {E : En} (hc : Chg (Lb L w 2) w w') {r : Nat} (hr : Rep w' pa E (Lb (rel L w r) w' 2) M) : RepT w0 (rel L w r) w' t { T with a := E } M pa pb vs :=
  ⟨h.lab.step (by decide) hc r, by unfold rel; rw [if_pos h.tlt]; exact h.lt, by rw [hc.block t h.tlt fun x => by have := x.1; have := h.lt; omega]; exact h.blk,
    hr, (rep_other h.rb hc (by decide)).mono (fun _ _ x => x) hM, fun j h1 h2 => sl_other (h.sl j h1 h2) hc (by omega)⟩
theorem RepT.turnB (h : RepT w0 L w t T N pa pb vs) {M : Nat} (hM : N ≤ M) {E : En} (hc : Chg (Lb L w 3) w w') {r : Nat} (hr : Rep w' pb E (Lb (rel L w r) w' 3) M) : RepT w0 (rel L w r) w' t { T with b := E } M pa pb vs :=
  ⟨h.lab.step (by decide) hc r, by unfold rel; rw [if_pos h.tlt]; exact h.lt, by rw [hc.block t h.tlt fun x => by have := x.1; have := h.lt; omega]; exact h.blk,
    (rep_other h.ra hc (by decide)).mono (fun _ _ x => x) hM, hr, fun j h1 h2 => sl_other (h.sl j h1 h2) hc (by omega)⟩
/-- A list grew, and its new head was laid into the Talk. -/
theorem RepT.push (h : RepT w0 L w t T N pa pb vs) (i : Nat) (h2 : 2 ≤ i) (h6 : i ≤ 6) {v : Value} {n : Nat} {xs : List Value} (hs : Sl w' (sz i) v n xs (Grow (Lb L w (i + 2)) w w')) (hc : Chg (Lb L w (i + 2)) w w') (T' : Tk)
    (ea : T'.a = T.a) (eb : T'.b = T.b) (en : T'.ns i = n) (ex : T'.xs i = xs) (eo : ∀ j, 2 ≤ j → j ≤ 6 → j ≠ i → T'.ns j = T.ns j ∧ T'.xs j = T.xs j) :
    RepT w0 (rel L w (i + 2)) (w'.setCell ⟨t, i, none⟩ v) t T' N pa pb (fun j => if j = i then v else vs j) := by
  have htl := h.tlt
  have hlt1 := h.lt
  have hl : rel L w (i + 2) t = 1 := by unfold rel; rw [if_pos htl]; exact hlt1
  have hb : w'.heap[t]? = some (.cells #[.pointer (some ⟨pa, 0, none⟩), .pointer (some ⟨pb, 0, none⟩), vs 2, vs 3, vs 4, vs 5, vs 6] 37) := by
    rw [hc.block t htl fun x => by have := x.1; omega]; exact h.blk
  have hsz : (w'.setCell ⟨t, i, none⟩ v).heap.size = w'.heap.size := size_set _ _ _
  have hk : ∀ b, b ≠ t → (w'.setCell ⟨t, i, none⟩ v).heap[b]? = w'.heap[b]? := fun b x => Below.heap_setCell _ _ _ _ x
  have hz : ∀ j b, Lb (rel L w (i + 2)) w' j b → Lb (rel L w (i + 2)) (w'.setCell ⟨t, i, none⟩ v) j b := fun j b x => ⟨x.1, by rw [hsz]; exact x.2⟩
  have hne : ∀ j b, j ≠ 1 → Lb (rel L w (i + 2)) w' j b → b ≠ t := fun j b hj x e => by subst e; have := x.1; omega
  have hlab := h.lab.step (by omega) hc (i + 2)
  refine ⟨⟨hlab.bel.trans ⟨rfl, rfl, rfl, by rw [hsz]; exact Nat.le_refl _, fun k hkk => hk k fun e => ?_⟩, hlab.zero⟩, hl, ?_, ?_, ?_, fun j hj2 hj6 => ?_⟩
  · subst e
    have := hlab.zero k hkk
    omega
  · rw [blk_set hb i v]
    obtain rfl | rfl | rfl | rfl | rfl : i = 2 ∨ i = 3 ∨ i = 4 ∨ i = 5 ∨ i = 6 := by omega
    all_goals rfl
  · rw [ea]
    exact ((rep_other (r := i + 2) h.ra hc (by omega)).keep (by rw [hsz]; exact Nat.le_refl _) fun b _ x => hk b (hne 2 b (by decide) x)).mono (fun b _ x => hz 2 b x) (Nat.le_refl _)
  · rw [eb]
    exact ((rep_other (r := i + 2) h.rb hc (by omega)).keep (by rw [hsz]; exact Nat.le_refl _) fun b _ x => hk b (hne 3 b (by decide) x)).mono (fun b _ x => hz 3 b x) (Nat.le_refl _)
  · by_cases hji : j = i
    · subst hji
      simp only [if_pos]
      rw [en, ex]
      exact ((sl_grown hs hc.size).keep (by rw [hsz]; exact Nat.le_refl _) fun b _ x => hk b (hne _ b (by omega) x)).mono fun b _ x => hz _ b x
    · simp only [if_neg hji]
      obtain ⟨e1, e2⟩ := eo j hj2 hj6 hji
      rw [e1, e2]
      exact ((sl_other (r := i + 2) (h.sl j hj2 hj6) hc (by omega)).keep (by rw [hsz]; exact Nat.le_refl _) fun b _ x => hk b (hne _ b (by omega) x)).mono fun b _ x => hz _ b x
end

/-- A slice that is read is a source. -/
theorem sl_src {w : World} {n : Nat} {v : Value} {xs : List Value} {F : Nat → Prop} {size : Nat} (h : Sl w size v n xs F) (h0 : n = 0 → v = .slice none 0 0) : Hp.Src w v n xs := by
  have hl := h.len
  by_cases hn : n = 0
  · obtain rfl := h0 hn
    subst hn
    exact .inl ⟨rfl, List.eq_nil_of_length_eq_zero (by simpa using hl), rfl⟩
  · obtain ⟨b, off, cap, rfl, _, _, _, hx⟩ := h.form (by omega)
    exact .inr ⟨by omega, _, cap, rfl, fun j u hj => by rw [Addr.add_lit]; exact hx j u hj⟩

theorem drainL_len : ∀ (k : Nat) (e : En), (drainL k e).length ≤ k
  | 0, _ => Nat.le_refl _
  | k + 1, e => by
    unfold drainL
    split
    · simp
    · have := drainL_len k (Md.step e)
      simp; omega
theorem takeL_len (e : En) (g : Gr) : (takeL e g).length ≤ 33 := by
  unfold takeL
  split
  · simp
  split
  · simp
  · exact drainL_len _ _
theorem outL_len {e : En} {N : Nat} (h : Ok e N) : (outL e).length ≤ 32 := by
  have := h.win
  unfold outL
  split
  · simp
  split
  · simp
  · rw [grams_G, G_length]; exact this

end Go.Proofs.Ytjlhipnlacfekaa.Tm
