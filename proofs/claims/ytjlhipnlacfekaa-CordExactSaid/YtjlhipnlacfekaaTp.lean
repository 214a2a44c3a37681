/-
  The plain law of two ends that talk: what has come is a beginning of what was given; nothing of the session is refused.
-/
import Derived.Test.YtjlhipnlacfekaaTm
namespace Go.Proofs.Ytjlhipnlacfekaa.Tm
open Go.RowKit Go.Proofs.Ytjlhipnlacfekaa.Md Go.Proofs.Ytjlhipnlacfekaa.Wa
set_option linter.unusedSimpArgs false
set_option linter.unusedVariables false

/-- x sends to y: the texts that x was given, those that came at y. -/
structure Dir (x y : En) (to come : List ByteArray) : Prop where
  given : x.given = to.length
  le : x.opn.length ≤ to.length
  opn : x.opn = to.drop (to.length - x.opn.length)
  ackd : to.length - x.opn.length ≤ y.got
  got : y.got ≤ to.length
  cm : come = to.take y.got
  early : ∀ (k : Int) (s : ByteArray), y.early k = some s → ∃ j : Nat, k = (j : Int) + 1 ∧ to[j]? = some s
/-- A datagram of x's. -/
structure Gok (ep : Int) (x : En) (to : List ByteArray) (g : Gr) : Prop where
  epoch : g.epoch = ep
  ack0 : 0 ≤ g.ack
  ack1 : g.ack ≤ (x.got : Int)
  seq : (g.seq = 0 ∧ g.body.size = 0) ∨ ∃ j : Nat, g.seq = (j : Int) + 1 ∧ to[j]? = some g.body
  size : g.body.size ≤ 16384

theorem Dir.new (ep ep' : Int) : Dir (newE ep) (newE ep') [] [] := ⟨rfl, Nat.le_refl _, rfl, Nat.le_refl _, Nat.le_refl _, rfl, fun k s h => by simp [newE] at h⟩
theorem Dir.congr {x y x' y' : En} {to come : List ByteArray} (h : Dir x y to come) (e1 : x'.given = x.given) (e2 : x'.opn = x.opn) (e3 : y'.got = y.got) (e4 : y'.early = y.early) : Dir x' y' to come :=
  ⟨e1.trans h.given, by rw [e2]; exact h.le, by rw [e2]; exact h.opn, by rw [e2, e3]; exact h.ackd, by rw [e3]; exact h.got, by rw [e3]; exact h.cm, by rw [e4]; exact h.early⟩
theorem Dir.send {x y : En} {to come : List ByteArray} (h : Dir x y to come) {s : ByteArray} (he : sendErr x s = 0) : Dir (sent x s) y (to ++ [s]) come := by
  have h1 := h.le
  have h2 := h.got
  have h3 := h.given
  have h4 := h.ackd
  unfold sent
  rw [if_pos he]
  refine ⟨by simp [h3], by simp; omega, ?_, by simp; omega, by simp; omega, ?_, ?_⟩
  · show x.opn ++ [s] = (to ++ [s]).drop ((to ++ [s]).length - (x.opn ++ [s]).length)
    have e : (to ++ [s]).length - (x.opn ++ [s]).length = to.length - x.opn.length := by simp
    rw [e, List.drop_append_of_le_length (by omega), ← h.opn]
  · show come = (to ++ [s]).take y.got
    rw [List.take_append_of_le_length h2]
    exact h.cm
  · intro k u hu
    obtain ⟨j, hj, hs⟩ := h.early k u hu
    exact ⟨j, hj, by rw [List.getElem?_append_left (List.getElem?_eq_some_iff.1 hs).1]; exact hs⟩
theorem Dir.acked {x y : En} {to come : List ByteArray} (h : Dir x y to come) {ack : Int} (h0 : 0 ≤ ack) (ha : ack ≤ (y.got : Int)) : Dir (acked x ack) y to come := by
  have h1 := h.le
  have h2 := h.got
  have h3 := h.given
  have h4 := h.ackd
  unfold Md.acked
  refine ⟨h3, ?_, ?_, ?_, h2, h.cm, h.early⟩
  · show (x.opn.drop _).length ≤ _
    rw [List.length_drop]; omega
  · show x.opn.drop _ = to.drop (to.length - (x.opn.drop _).length)
    rw [List.length_drop]
    generalize hk : x.opn.length - (x.given - ack.toNat) = k
    have : k ≤ x.opn.length := by omega
    rw [show to.length - (x.opn.length - k) = to.length - x.opn.length + k by omega, ← List.drop_drop, ← h.opn]
  · show to.length - (x.opn.drop _).length ≤ _
    rw [List.length_drop]; omega
theorem Dir.laid {x y : En} {to come : List ByteArray} (h : Dir x y to come) {g : Gr} {j : Nat} (hj : g.seq = (j : Int) + 1) (hs : to[j]? = some g.body) : Dir x (laid y g) to come := by
  unfold Md.laid
  split
  · refine ⟨h.given, h.le, h.opn, h.ackd, h.got, h.cm, ?_⟩
    intro k u hu
    simp only [put] at hu
    by_cases hk : k = g.seq
    · rw [if_pos hk] at hu
      obtain rfl := Option.some.inj hu
      exact ⟨j, by omega, hs⟩
    · rw [if_neg hk] at hu
      exact h.early k u hu
  · exact h.congr rfl rfl rfl rfl
theorem Dir.step {x e : En} {to come : List ByteArray} (h : Dir x e to come) {s : ByteArray} (hs : e.early ((e.got : Int) + 1) = some s) : Dir x (Md.step e) to (come ++ [s]) := by
  obtain ⟨j, hj, hg⟩ := h.early _ _ hs
  obtain rfl : j = e.got := by omega
  have hlt := (List.getElem?_eq_some_iff.1 hg).1
  have h4 := h.ackd
  refine ⟨h.given, h.le, h.opn, by show _ ≤ e.got + 1; omega, hlt, ?_, ?_⟩
  · show come ++ [s] = to.take (e.got + 1)
    rw [List.take_add_one, ← h.cm, hg]
    rfl
  · intro k u hu
    simp only [Md.step, put] at hu
    split at hu
    · cases hu
    · exact h.early k u hu
theorem Dir.drain {x : En} {to : List ByteArray} : ∀ (k : Nat) (e : En) (come : List ByteArray), Dir x e to come → Dir x (drainE k e) to (come ++ drainL k e)
  | 0, e, come, h => by simpa [drainE, drainL] using h
  | k + 1, e, come, h => by
    cases hs : e.early ((e.got : Int) + 1) with
    | none =>
      simp only [drainE, drainL, hs, List.append_nil]
      exact h
    | some s =>
      simp only [drainE, drainL, hs]
      have := Dir.drain k _ _ (h.step hs)
      simpa using this
theorem drain_old : ∀ (k : Nat) (e : En), (drainE k e).opn = e.opn ∧ (drainE k e).given = e.given ∧ (drainE k e).epoch = e.epoch ∧ (drainE k e).owed = e.owed ∧ e.got ≤ (drainE k e).got
  | 0, e => ⟨rfl, rfl, rfl, rfl, Nat.le_refl _⟩
  | k + 1, e => by
    cases hs : e.early ((e.got : Int) + 1) with
    | none =>
      have hd : drainE (k + 1) e = e := by simp only [drainE, hs]
      rw [hd]
      exact ⟨rfl, rfl, rfl, rfl, Nat.le_refl _⟩
    | some s =>
      simp only [drainE, hs]
      obtain ⟨a, b, c, d, f⟩ := drain_old k (Md.step e)
      exact ⟨a, b, c, d, Nat.le_trans (Nat.le_succ _) f⟩
theorem laid_old (e : En) (g : Gr) : (laid e g).opn = e.opn ∧ (laid e g).given = e.given ∧ (laid e g).epoch = e.epoch ∧ (laid e g).owed = true ∧ (laid e g).got = e.got := by
  unfold Md.laid
  by_cases hc : e.early g.seq = none ∧ (e.got : Int) < g.seq
  · rw [if_pos hc]; exact ⟨rfl, rfl, rfl, rfl, rfl⟩
  · rw [if_neg hc]; exact ⟨rfl, rfl, rfl, rfl, rfl⟩

theorem take_ok {x y : En} {to come to' come' : List ByteArray} {N : Nat} {g : Gr} (hxy : Dir x y to come) (hyx : Dir y x to' come') (ho : Ok x N) (hg : Gok y.epoch x to g) : takeErr y g = 0 := by
  have h1 := hxy.ackd
  have h2 := hyx.got
  have h3 := hyx.given
  have h4 := ho.win
  have h5 := hg.ack0
  have h6 := hg.ack1
  have h7 := hg.size
  have hb : bad y g = false := by
    refine decide_eq_false ?_
    rcases hg.seq with ⟨e1, e2⟩ | ⟨j, e1, e2⟩
    · rintro (k | k | k | k | ⟨_, k⟩) <;> omega
    · have := (List.getElem?_eq_some_iff.1 e2).1
      rintro (k | k | k | k | ⟨k, _⟩) <;> omega
  unfold takeErr rightErr
  rw [if_neg (by rw [hg.epoch]; simp), if_neg (by rw [hb]; decide), if_neg (by omega)]
theorem take_dir {x y : En} {to come to' come' : List ByteArray} {g : Gr} (hxy : Dir x y to come) (hyx : Dir y x to' come') (he : takeErr y g = 0) (hg : Gok y.epoch x to g) :
    Dir x (takeE y g) to (come ++ takeL y g) ∧ Dir (takeE y g) x to' come' ∧ y.got ≤ (takeE y g).got ∧ (takeE y g).epoch = y.epoch ∧ (takeE y g).given = y.given := by
  have ha := hyx.acked hg.ack0 hg.ack1
  have hx2 : Dir x (Md.acked y g.ack) to come := hxy.congr rfl rfl rfl rfl
  unfold takeErr at he
  have t1 : takeE y g = if g.seq = 0 then Md.acked y g.ack else drainE 33 (Md.laid (Md.acked y g.ack) g) := by unfold takeE; rw [if_neg (by rw [he]; decide)]
  have t2 : takeL y g = if g.seq = 0 then [] else drainL 33 (Md.laid (Md.acked y g.ack) g) := by unfold takeL; rw [if_neg (by rw [he]; decide)]
  rw [t1, t2]
  rcases hg.seq with ⟨e1, e2⟩ | ⟨j, e1, e2⟩
  · rw [if_pos e1, if_pos e1, List.append_nil]
    exact ⟨hx2, ha, Nat.le_refl _, rfl, rfl⟩
  · rw [if_neg (by omega), if_neg (by omega)]
    obtain ⟨a, b, c, d, f⟩ := drain_old 33 (Md.laid (Md.acked y g.ack) g)
    obtain ⟨a', b', c', d', f'⟩ := laid_old (Md.acked y g.ack) g
    exact ⟨Dir.drain 33 _ _ (hx2.laid e1 e2), ha.congr (b.trans b') (a.trans a') rfl rfl, by rw [f'] at f; exact f, c.trans c', b.trans b'⟩

theorem Gok.mono {ep : Int} {x x' : En} {to to' : List ByteArray} {g : Gr} (h : Gok ep x to g) (h1 : x.got ≤ x'.got) (h2 : ∀ (j : Nat) s, to[j]? = some s → to'[j]? = some s) : Gok ep x' to' g :=
  ⟨h.epoch, h.ack0, by have := h.ack1; omega, h.seq.imp id fun ⟨j, a, b⟩ => ⟨j, a, h2 j _ b⟩, h.size⟩
theorem out_gok {x y : En} {to come : List ByteArray} {N : Nat} (h : Dir x y to come) (ho : Ok x N) : ∀ g ∈ outL x, Gok x.epoch x to g := by
  intro g hg
  unfold outL at hg
  split at hg
  · simp at hg
  split at hg
  · simp at hg
    subst hg
    exact ⟨rfl, by simp [gram], by simp [gram], .inl ⟨rfl, rfl⟩, by simp [gram]⟩
  · rw [grams_G] at hg
    simp only [G, List.mem_map, List.mem_range] at hg
    obtain ⟨i, hi, rfl⟩ := hg
    have hle := h.le
    have hgv := h.given
    have hb : x.opn[i]? = some (x.opn.getD i ByteArray.empty) := by
      rw [List.getD_eq_getElem?_getD, List.getElem?_eq_getElem hi]
      rfl
    refine ⟨rfl, by simp [gi, gram], by simp [gi, gram], .inr ⟨to.length - x.opn.length + i, ?_, ?_⟩, ?_⟩
    · show (x.given : Int) - x.opn.length + 1 + i = _
      omega
    · show _ = some (x.opn.getD i ByteArray.empty)
      rw [← hb]
      have e : x.opn[i]? = (to.drop (to.length - x.opn.length))[i]? := by rw [← h.opn]
      rw [e, List.getElem?_drop]
    · exact ho.opn _ (List.mem_of_getElem? hb)

/-- What every datagram of the pool is. -/
def Pok (ep : Int) (T : Tk) (s : Gr × Bool) : Prop := if s.2 = true then Gok ep T.a T.toB s.1 else Gok ep T.b T.toA s.1
structure Inv (ep : Int) (T : Tk) : Prop where
  ea : T.a.epoch = ep
  eb : T.b.epoch = ep
  ab : Dir T.a T.b T.toB T.atB
  ba : Dir T.b T.a T.toA T.atA
  pool : ∀ s ∈ T.pool, Pok ep T s
theorem Inv.new (ep : Int) : Inv ep (newT ep) := ⟨rfl, rfl, Dir.new _ _, Dir.new _ _, fun s h => by simp [newT] at h⟩
theorem Pok.mono {ep : Int} {T T' : Tk} {s : Gr × Bool} (h : Pok ep T s) (h1 : T.a.got ≤ T'.a.got) (h2 : T.b.got ≤ T'.b.got) (h3 : ∀ (j : Nat) s, T.toA[j]? = some s → T'.toA[j]? = some s) (h4 : ∀ (j : Nat) s, T.toB[j]? = some s → T'.toB[j]? = some s) : Pok ep T' s := by
  unfold Pok at h ⊢
  split
  · rename_i hs; rw [if_pos hs] at h; exact h.mono h1 h4
  · rename_i hs; rw [if_neg hs] at h; exact h.mono h2 h3
theorem app_some {l : List ByteArray} {s : ByteArray} (j : Nat) (u : ByteArray) (h : l[j]? = some u) : (l ++ [s])[j]? = some u := by
  rw [List.getElem?_append_left (List.getElem?_eq_some_iff.1 h).1]; exact h
theorem sent_got (e : En) (s : ByteArray) : (sent e s).got = e.got ∧ (sent e s).early = e.early ∧ (sent e s).epoch = e.epoch := by
  unfold sent; split <;> exact ⟨rfl, rfl, rfl⟩
theorem sent_not {e : En} {s : ByteArray} (h : ¬ sendErr e s = 0) : sent e s = e := by unfold sent; rw [if_neg h]
theorem Inv.send {ep : Int} {T : Tk} (h : Inv ep T) (f : Bool) (s : ByteArray) : Inv ep (sendT T f s) := by
  unfold sendT
  split
  · obtain ⟨e1, e2, e3⟩ := sent_got T.a s
    by_cases he : sendErr T.a s = 0
    · rw [if_pos he]
      exact ⟨e3.trans h.ea, h.eb, h.ab.send he, h.ba.congr rfl rfl e1 e2, fun u hu => (h.pool u hu).mono (Nat.le_of_eq e1.symm) (Nat.le_refl _) (fun _ _ x => x) app_some⟩
    · rw [if_neg he, sent_not he]
      exact h
  · obtain ⟨e1, e2, e3⟩ := sent_got T.b s
    by_cases he : sendErr T.b s = 0
    · rw [if_pos he]
      exact ⟨h.ea, e3.trans h.eb, h.ab.congr rfl rfl e1 e2, h.ba.send he, fun u hu => (h.pool u hu).mono (Nat.le_refl _) (Nat.le_of_eq e1.symm) app_some (fun _ _ x => x)⟩
    · rw [if_neg he, sent_not he]
      exact h
theorem Inv.out {ep : Int} {T : Tk} (h : Inv ep T) {N : Nat} (oa : Ok T.a N) (ob : Ok T.b N) (f : Bool) : Inv ep (outT T f) := by
  unfold outT
  split
  · refine ⟨h.ea, h.eb, h.ab.congr rfl rfl rfl rfl, h.ba.congr rfl rfl rfl rfl, fun u hu => ?_⟩
    rcases List.mem_append.1 hu with hu | hu
    · exact (h.pool u hu).mono (Nat.le_refl _) (Nat.le_refl _) (fun _ _ x => x) (fun _ _ x => x)
    · obtain ⟨g, hg, rfl⟩ := List.mem_map.1 hu
      have := out_gok h.ab oa g hg
      rw [h.ea] at this
      unfold Pok
      rw [if_pos rfl]
      exact this.mono (Nat.le_refl _) (fun _ _ x => x)
  · refine ⟨h.ea, h.eb, h.ab.congr rfl rfl rfl rfl, h.ba.congr rfl rfl rfl rfl, fun u hu => ?_⟩
    rcases List.mem_append.1 hu with hu | hu
    · exact (h.pool u hu).mono (Nat.le_refl _) (Nat.le_refl _) (fun _ _ x => x) (fun _ _ x => x)
    · obtain ⟨g, hg, rfl⟩ := List.mem_map.1 hu
      have := out_gok h.ba ob g hg
      rw [h.eb] at this
      unfold Pok
      rw [if_neg (by simp)]
      exact this.mono (Nat.le_refl _) (fun _ _ x => x)
theorem Inv.come {ep : Int} {T : Tk} (h : Inv ep T) {N : Nat} (oa : Ok T.a N) (ob : Ok T.b N) {s : Gr × Bool} (hs : Pok ep T s) : comeErr T s = 0 ∧ Inv ep (comeT T s) := by
  unfold Pok at hs
  unfold comeErr comeT
  split
  · rename_i hf
    rw [if_pos hf] at hs
    have hs' := hs
    rw [← h.eb] at hs'
    have he := take_ok h.ab h.ba oa hs'
    obtain ⟨a, b, c, d, _⟩ := take_dir h.ab h.ba he hs'
    exact ⟨he, h.ea, d.trans h.eb, a, b, fun u hu => (h.pool u hu).mono (Nat.le_refl _) c (fun _ _ x => x) (fun _ _ x => x)⟩
  · rename_i hf
    rw [if_neg hf] at hs
    have hs' := hs
    rw [← h.ea] at hs'
    have he := take_ok h.ba h.ab ob hs'
    obtain ⟨a, b, c, d, _⟩ := take_dir h.ba h.ab he hs'
    exact ⟨he, d.trans h.ea, h.eb, b, a, fun u hu => (h.pool u hu).mono c (Nat.le_refl _) (fun _ _ x => x) (fun _ _ x => x)⟩
theorem Dir.begins {x y : En} {to come : List ByteArray} (h : Dir x y to come) : come.length ≤ to.length ∧ come = to.take come.length ∧ come.length = y.got := by
  have h1 := h.got
  have e : come.length = y.got := by rw [h.cm, List.length_take]; omega
  exact ⟨by omega, by rw [e]; exact h.cm, e⟩

end Go.Proofs.Ytjlhipnlacfekaa.Tm
