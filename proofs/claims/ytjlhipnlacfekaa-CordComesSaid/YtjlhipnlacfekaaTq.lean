/-
  The plain law of the end of a talk: three rounds bring everything, and then nothing is owed.
-/
import Derived.Test.YtjlhipnlacfekaaTp
namespace Go.Proofs.Ytjlhipnlacfekaa.Tm
open Go.RowKit Go.Proofs.Ytjlhipnlacfekaa.Md Go.Proofs.Ytjlhipnlacfekaa.Wa
set_option linter.unusedSimpArgs false
set_option linter.unusedVariables false

def runY (y : En) (l : List Gr) : En := l.foldl takeE y
def comesAll (T : Tk) (l : List (Gr × Bool)) : Tk := l.foldl comeT T

theorem take_parts {y : En} {g : Gr} (he : takeErr y g = 0) : (takeE y g).opn = (acked y g.ack).opn ∧ (g.seq ≠ 0 → (takeE y g).owed = true) ∧ (g.seq = 0 → (takeE y g).owed = y.owed) ∧ y.got ≤ (takeE y g).got ∧ (g.seq = (y.got : Int) + 1 → y.got + 1 ≤ (takeE y g).got) := by
  unfold takeErr at he
  have t1 : takeE y g = if g.seq = 0 then acked y g.ack else drainE 33 (laid (acked y g.ack) g) := by unfold takeE; rw [if_neg (by rw [he]; decide)]
  rw [t1]
  by_cases hs : g.seq = 0
  · rw [if_pos hs]
    exact ⟨rfl, fun h => absurd hs h, fun _ => rfl, Nat.le_refl _, fun h => by omega⟩
  · rw [if_neg hs]
    obtain ⟨a, b, c, d, f⟩ := drain_old 33 (laid (acked y g.ack) g)
    obtain ⟨a', b', c', d', f'⟩ := laid_old (acked y g.ack) g
    refine ⟨a.trans a', fun _ => d.trans d', fun h => absurd h hs, by rw [f'] at f; exact f, fun hq => ?_⟩
    have hsome : ∃ s, (laid (acked y g.ack) g).early (((laid (acked y g.ack) g).got : Int) + 1) = some s := by
      rw [f', show ((acked y g.ack).got : Int) = (y.got : Int) from rfl, ← hq]
      unfold Md.laid
      by_cases hc : (acked y g.ack).early g.seq = none ∧ ((acked y g.ack).got : Int) < g.seq
      · rw [if_pos hc]
        exact ⟨g.body, by simp [put]⟩
      · rw [if_neg hc]
        have hlt : ((acked y g.ack).got : Int) < g.seq := by show (y.got : Int) < g.seq; omega
        cases hh : (acked y g.ack).early g.seq with
        | none => exact absurd ⟨hh, hlt⟩ hc
        | some s => exact ⟨s, rfl⟩
    obtain ⟨s, hs2⟩ := hsome
    have hd : drainE 33 (laid (acked y g.ack) g) = drainE 32 (Md.step (laid (acked y g.ack) g)) := by
      show (match (laid (acked y g.ack) g).early (((laid (acked y g.ack) g).got : Int) + 1) with | none => _ | some _ => _) = _
      rw [hs2]
    rw [hd]
    have := (drain_old 32 (Md.step (laid (acked y g.ack) g))).2.2.2.2
    have e : (Md.step (laid (acked y g.ack) g)).got = y.got + 1 := by show (laid (acked y g.ack) g).got + 1 = _; rw [f']; rfl
    omega

structure Ran (x y y' : En) (to to' come' : List ByteArray) (l : List Gr) : Prop where
  dir : ∃ come, Dir x y' to come
  rid : Dir y' x to' come'
  given : y'.given = y.given
  epoch : y'.epoch = y.epoch
  opn0 : y.opn = [] → y'.opn = []
  ackd : l ≠ [] → y'.opn.length + x.got ≤ y.given
  owed1 : (∀ g ∈ l, g.seq ≠ 0) → l ≠ [] → y'.owed = true
  owed0 : (∀ g ∈ l, g.seq = 0) → y'.owed = y.owed
theorem run_all {x : En} {to to' come' : List ByteArray} {N : Nat} (ho : Ok x N) : ∀ (l : List Gr) (y : En) (come : List ByteArray), Dir x y to come → Dir y x to' come' → (∀ g ∈ l, Gok y.epoch x to g ∧ g.ack = (x.got : Int)) → Ran x y (runY y l) to to' come' l
  | [], y, come, h1, h2, _ => ⟨⟨come, h1⟩, h2, rfl, rfl, fun h => h, fun h => absurd rfl h, fun _ h => absurd rfl h, fun _ => rfl⟩
  | g :: l, y, come, h1, h2, hg => by
    obtain ⟨hg0, hgl⟩ := List.forall_mem_cons.1 hg
    have he := take_ok h1 h2 ho hg0.1
    obtain ⟨a, b, c, d, e⟩ := take_dir h1 h2 he hg0.1
    obtain ⟨p1, p2, p3, p4, _⟩ := take_parts he
    have ih := run_all ho l (takeE y g) _ a b (fun g' hg' => by rw [d]; exact hgl g' hg')
    have hop : (takeE y g).opn.length + x.got ≤ y.given := by
      rw [p1]
      show (y.opn.drop _).length + x.got ≤ y.given
      rw [List.length_drop]
      have q1 := h2.got
      have q2 := h2.given
      rw [hg0.2]
      omega
    have hz : y.opn = [] → (takeE y g).opn = [] := fun h => by rw [p1]; show y.opn.drop _ = []; rw [h]; simp
    refine ⟨ih.dir, ih.rid, ih.given.trans e, ih.epoch.trans d, fun h => ih.opn0 (hz h), fun _ => ?_, fun h _ => ?_, fun h => ?_⟩
    · by_cases hl : l = []
      · subst hl
        exact hop
      · have := ih.ackd hl
        rw [e] at this
        exact this
    · obtain ⟨k1, k2⟩ := List.forall_mem_cons.1 h
      by_cases hl : l = []
      · subst hl
        exact p2 k1
      · exact ih.owed1 k2 hl
    · obtain ⟨k1, k2⟩ := List.forall_mem_cons.1 h
      exact (ih.owed0 k2).trans (p3 k1)
theorem run_got {x : En} {to to' come' : List ByteArray} {N : Nat} (ho : Ok x N) : ∀ (l : List Gr) (y : En) (come : List ByteArray) (m : Nat), Dir x y to come → Dir y x to' come' → (∀ g ∈ l, Gok y.epoch x to g) → (∀ (k : Nat) g, l[k]? = some g → g.seq = ((m + k : Nat) : Int) + 1) → m ≤ y.got → m + l.length ≤ (runY y l).got
  | [], y, come, m, _, _, _, _, hm => by show m + 0 ≤ y.got; omega
  | g :: l, y, come, m, h1, h2, hg, hq, hm => by
    obtain ⟨hg0, hgl⟩ := List.forall_mem_cons.1 hg
    have he := take_ok h1 h2 ho hg0
    obtain ⟨a, b, c, d, e⟩ := take_dir h1 h2 he hg0
    obtain ⟨p1, p2, p3, p4, p5⟩ := take_parts he
    have h0 := hq 0 g rfl
    have hm1 : m + 1 ≤ (takeE y g).got := by
      by_cases hlt : m + 1 ≤ y.got
      · omega
      · have := p5 (by rw [h0]; omega)
        omega
    have ih := run_got ho l (takeE y g) _ (m + 1) a b (fun g' hg' => by rw [d]; exact hgl g' hg') (fun k g' hk => by
      have := hq (k + 1) g' (by simpa using hk)
      rw [this]; omega) hm1
    show m + (l.length + 1) ≤ (runY (takeE y g) l).got
    omega

theorem out_facts {x y : En} {to come : List ByteArray} (h : Dir x y to come) : (∀ g ∈ outL x, g.ack = (x.got : Int)) ∧ (owes x = true → outL x ≠ []) ∧ (owes x = false → outL x = []) ∧ (x.opn = [] → ∀ g ∈ outL x, g.seq = 0) ∧
    (x.opn ≠ [] → (outL x).length = x.opn.length ∧ ∀ (k : Nat) g, (outL x)[k]? = some g → g.seq = ((to.length - x.opn.length + k : Nat) : Int) + 1) := by
  have hle := h.le
  have hgv := h.given
  by_cases ho : owes x = false
  · have e : outL x = [] := by unfold outL; rw [if_pos ho]
    rw [e]
    refine ⟨by simp, fun h => by simp [ho] at h, fun _ => rfl, by simp, fun hne => ?_⟩
    unfold owes at ho
    simp at ho
    exact absurd ho.2 hne
  · have ho' : owes x = true := by simpa using ho
    by_cases hn : x.opn = []
    · have e : outL x = [gram x 0 ByteArray.empty] := by unfold outL; rw [if_neg ho, if_pos hn]
      rw [e]
      refine ⟨?_, fun _ => by simp, fun h => absurd h ho, ?_, fun h => absurd hn h⟩
      · intro g hg; simp at hg; subst hg; rfl
      · intro _ g hg; simp at hg; subst hg; rfl
    · have e : outL x = G x x.opn.length := by unfold outL; rw [if_neg ho, if_neg hn, grams_G]
      rw [e]
      refine ⟨?_, fun _ hh => ?_, fun h => absurd h ho, fun h => absurd h hn, fun _ => ⟨G_length _ _, ?_⟩⟩
      · intro g hg
        simp only [G, List.mem_map] at hg
        obtain ⟨i, _, rfl⟩ := hg
        rfl
      · have := G_length x x.opn.length
        rw [hh] at this
        exact hn (List.eq_nil_of_length_eq_zero this.symm)
      · intro k g hk
        simp only [G, List.getElem?_map] at hk
        have hlt : k < x.opn.length := by
          by_cases hlt : k < x.opn.length
          · exact hlt
          · rw [List.getElem?_eq_none (by simp; omega)] at hk; cases hk
        rw [List.getElem?_range hlt] at hk
        simp at hk
        subst hk
        show (x.given : Int) - x.opn.length + 1 + k = _
        omega

/-- A round: x sends, all comes to y. -/
theorem round_all {x y : En} {to come to' come' : List ByteArray} {N : Nat} (h1 : Dir x y to come) (h2 : Dir y x to' come') (ho : Ok x N) (hep : x.epoch = y.epoch) :
    Ran x y (runY y (outL x)) to to' come' (outL x) ∧ (runY y (outL x)).got = to.length := by
  obtain ⟨f1, f2, f3, f4, f5⟩ := out_facts h1
  have hg := out_gok h1 ho
  rw [hep] at hg
  have hr := run_all ho (outL x) y come h1 h2 fun g hgg => ⟨hg g hgg, f1 g hgg⟩
  obtain ⟨cm, hd⟩ := hr.dir
  have hu := hd.got
  refine ⟨hr, ?_⟩
  by_cases hn : x.opn = []
  · have := hd.ackd
    rw [hn] at this
    simp at this
    omega
  · obtain ⟨q1, q2⟩ := f5 hn
    have := run_got ho (outL x) y come (to.length - x.opn.length) h1 h2 hg q2 h1.ackd
    have := h1.le
    omega

theorem come_all_true : ∀ (l : List Gr) (T : Tk), (comesAll T (l.map (·, true))).a = T.a ∧ (comesAll T (l.map (·, true))).b = runY T.b l ∧ (comesAll T (l.map (·, true))).toA = T.toA ∧ (comesAll T (l.map (·, true))).toB = T.toB
  | [], T => ⟨rfl, rfl, rfl, rfl⟩
  | g :: l, T => come_all_true l (comeT T (g, true))
theorem come_all_false : ∀ (l : List Gr) (T : Tk), (comesAll T (l.map (·, false))).b = T.b ∧ (comesAll T (l.map (·, false))).a = runY T.a l ∧ (comesAll T (l.map (·, false))).toA = T.toA ∧ (comesAll T (l.map (·, false))).toB = T.toB
  | [], T => ⟨rfl, rfl, rfl, rfl⟩
  | g :: l, T => come_all_false l (comeT T (g, false))

def Phase (r : Nat) (T : Tk) : Prop :=
  match r with
  | 0 => True
  | 1 => T.b.got = T.toB.length ∧ (T.a.opn = [] ∨ T.b.owed = true) ∧ T.a.owed = false
  | 2 => T.a.opn = [] ∧ T.a.got = T.toA.length ∧ T.b.owed = false ∧ T.b.got = T.toB.length ∧ (T.b.opn = [] ∨ T.a.owed = true)
  | _ => T.b.opn = [] ∧ T.a.owed = false ∧ T.b.owed = false ∧ T.a.opn = [] ∧ T.a.got = T.toA.length ∧ T.b.got = T.toB.length
def roundT (T : Tk) (f : Bool) : Tk := comesAll (outT T f) ((outs T f).map (·, f))
theorem len0 {l : List ByteArray} {n k : Nat} (h : l.length + n ≤ k) (hk : k = n) : l = [] := List.eq_nil_of_length_eq_zero (by omega)

theorem phase_next {ep : Int} {T : Tk} {N : Nat} (h : Inv ep T) (oa : Ok T.a N) (ob : Ok T.b N) (r : Nat) (hp : Phase r T) : Phase (r + 1) (roundT T (decide (r % 2 = 0))) := by
  have hA := round_all h.ab h.ba oa (h.ea.trans h.eb.symm)
  have hB := round_all h.ba h.ab ob (h.eb.trans h.ea.symm)
  have fA := out_facts h.ab
  have fB := out_facts h.ba
  have ct := come_all_true (outL T.a) (outT T true)
  have cf := come_all_false (outL T.b) (outT T false)
  have gA := h.ab.given
  have gB := h.ba.given
  have ea : ∀ e : En, outE e = { e with owed := false } := fun _ => rfl
  have htrue : (roundT T true).a = outE T.a ∧ (roundT T true).b = runY T.b (outL T.a) ∧ (roundT T true).toA = T.toA ∧ (roundT T true).toB = T.toB := ct
  have hfalse : (roundT T false).b = outE T.b ∧ (roundT T false).a = runY T.a (outL T.b) ∧ (roundT T false).toA = T.toA ∧ (roundT T false).toB = T.toB := cf
  obtain ⟨t1, t2, t3, t4⟩ := htrue
  obtain ⟨u1, u2, u3, u4⟩ := hfalse
  match r, hp with
  | 0, _ =>
    show (roundT T true).b.got = (roundT T true).toB.length ∧ ((roundT T true).a.opn = [] ∨ (roundT T true).b.owed = true) ∧ (roundT T true).a.owed = false
    rw [t1, t2, t4]
    refine ⟨hA.2, ?_, rfl⟩
    by_cases hn : T.a.opn = []
    · exact .inl hn
    · refine .inr (hA.1.owed1 ?_ ?_)
      · intro g hg
        obtain ⟨k, hk⟩ := List.getElem?_of_mem hg
        rw [(fA.2.2.2.2 hn).2 k g hk]
        omega
      · exact fA.2.1 (by unfold owes; rw [decide_eq_true (List.length_pos_iff.2 hn)]; simp)
  | 1, ⟨p1, p2, p3⟩ =>
    show (roundT T false).a.opn = [] ∧ (roundT T false).a.got = (roundT T false).toA.length ∧ (roundT T false).b.owed = false ∧ (roundT T false).b.got = (roundT T false).toB.length ∧ ((roundT T false).b.opn = [] ∨ (roundT T false).a.owed = true)
    rw [u1, u2, u3, u4]
    refine ⟨?_, hB.2, rfl, p1, ?_⟩
    · by_cases ho : owes T.b = true
      · exact len0 (hB.1.ackd (fB.2.1 ho)) (by rw [gA, p1])
      · have : T.b.owed = false := by unfold owes at ho; simp at ho; exact ho.1
        rcases p2 with p2 | p2
        · exact hB.1.opn0 p2
        · rw [this] at p2; cases p2
    · by_cases hn : T.b.opn = []
      · exact .inl hn
      · refine .inr (hB.1.owed1 ?_ ?_)
        · intro g hg
          obtain ⟨k, hk⟩ := List.getElem?_of_mem hg
          rw [(fB.2.2.2.2 hn).2 k g hk]
          omega
        · exact fB.2.1 (by unfold owes; rw [decide_eq_true (List.length_pos_iff.2 hn)]; simp)
  | 2, ⟨p1, p2, p3, p4, p5⟩ =>
    show (roundT T true).b.opn = [] ∧ (roundT T true).a.owed = false ∧ (roundT T true).b.owed = false ∧ (roundT T true).a.opn = [] ∧ (roundT T true).a.got = (roundT T true).toA.length ∧ (roundT T true).b.got = (roundT T true).toB.length
    rw [t1, t2, t3, t4]
    refine ⟨?_, rfl, (hA.1.owed0 (fA.2.2.2.1 p1)).trans p3, p1, p2, hA.2⟩
    rcases p5 with p5 | p5
    · exact hA.1.opn0 p5
    · exact len0 (hA.1.ackd (fA.2.1 (by unfold owes; rw [p5]; rfl))) (by rw [gB, p2])
  | r + 3, ⟨p1, p2, p3, p4, p5, p6⟩ =>
    have wa : owes T.a = false := by unfold owes; rw [p2, p4]; rfl
    have wb : owes T.b = false := by unfold owes; rw [p3, p1]; rfl
    have la := fA.2.2.1 wa
    have lb := fB.2.2.1 wb
    by_cases hr : (r + 3) % 2 = 0
    · rw [decide_eq_true hr]
      show (roundT T true).b.opn = [] ∧ (roundT T true).a.owed = false ∧ (roundT T true).b.owed = false ∧ (roundT T true).a.opn = [] ∧ (roundT T true).a.got = (roundT T true).toA.length ∧ (roundT T true).b.got = (roundT T true).toB.length
      rw [t1, t2, t3, t4, la]
      exact ⟨p1, rfl, p3, p4, p5, p6⟩
    · rw [decide_eq_false hr]
      show (roundT T false).b.opn = [] ∧ (roundT T false).a.owed = false ∧ (roundT T false).b.owed = false ∧ (roundT T false).a.opn = [] ∧ (roundT T false).a.got = (roundT T false).toA.length ∧ (roundT T false).b.got = (roundT T false).toB.length
      rw [u1, u2, u3, u4, lb]
      exact ⟨p1, p2, rfl, p4, p5, p6⟩

end Go.Proofs.Ytjlhipnlacfekaa.Tm
