/-
  An end of a session, as plain data: what each call does to it and answers. No program is in sight.
-/
import Derived.WalkKit
namespace Go.Proofs.Ytjlhipnlacfekaa.Md
open Go.RowKit
set_option linter.unusedSimpArgs false
set_option linter.unusedVariables false

/-- A datagram. -/
structure Gr where
  client : Int
  up : Bool
  epoch : Int
  seq : Int
  ack : Int
  body : ByteArray
/-- An end. -/
structure En where
  epoch : Int
  opn : List ByteArray
  given : Nat
  got : Nat
  early : Int → Option ByteArray
  owed : Bool

def put (f : Int → Option ByteArray) (k : Int) (x : Option ByteArray) : Int → Option ByteArray := fun j => if j = k then x else f j
def newE (epoch : Int) : En := ⟨epoch, [], 0, 0, fun _ => none, false⟩
def sendErr (e : En) (body : ByteArray) : Int := if 16384 < body.size then 5 else if 32 ≤ e.opn.length then 11 else 0
def sent (e : En) (body : ByteArray) : En := if sendErr e body = 0 then { e with opn := e.opn ++ [body], given := e.given + 1 } else e
def owes (e : En) : Bool := e.owed || decide (0 < e.opn.length)
def gram (e : En) (seq : Int) (body : ByteArray) : Gr := ⟨0, false, e.epoch, seq, e.got, body⟩
/-- The datagrams of the open texts, from the i-th on. -/
def grams (e : En) : Nat → List ByteArray → List Gr
  | _, [] => []
  | i, b :: l => gram e ((e.given : Int) - e.opn.length + 1 + i) b :: grams e (i + 1) l
def outL (e : En) : List Gr := if owes e = false then [] else if e.opn = [] then [gram e 0 ByteArray.empty] else grams e 0 e.opn
def outE (e : En) : En := { e with owed := false }
def bad (e : En) (g : Gr) : Bool := decide (g.ack < 0 ∨ (e.given : Int) < g.ack ∨ g.seq < 0 ∨ (e.got : Int) + 32 < g.seq ∨ (g.seq = 0 ∧ g.body.size ≠ 0))
def rightErr (e : En) (g : Gr) : Int := if g.epoch ≠ e.epoch then 23 else if bad e g = true then 4 else if 16384 < g.body.size then 5 else 0
def acked (e : En) (ack : Int) : En := { e with opn := e.opn.drop (e.opn.length - (e.given - ack.toNat)) }
def laid (e : En) (g : Gr) : En := if e.early g.seq = none ∧ (e.got : Int) < g.seq then { e with owed := true, early := put e.early g.seq (some g.body) } else { e with owed := true }
def step (e : En) : En := { e with got := e.got + 1, early := put e.early ((e.got : Int) + 1) none }
/-- The texts that have come, in order. -/
def drainE : Nat → En → En
  | 0, e => e
  | k + 1, e => match e.early ((e.got : Int) + 1) with
    | none => e
    | some _ => drainE k (step e)
def drainL : Nat → En → List ByteArray
  | 0, _ => []
  | k + 1, e => match e.early ((e.got : Int) + 1) with
    | none => []
    | some s => s :: drainL k (step e)
def takeErr (e : En) (g : Gr) : Int := rightErr e g
def takeE (e : En) (g : Gr) : En := if rightErr e g ≠ 0 then e else if g.seq = 0 then acked e g.ack else drainE 33 (laid (acked e g.ack) g)
def takeL (e : En) (g : Gr) : List ByteArray := if rightErr e g ≠ 0 then [] else if g.seq = 0 then [] else drainL 33 (laid (acked e g.ack) g)

/-- What holds of every end, behind at most N calls. -/
structure Ok (e : En) (N : Nat) : Prop where
  win : e.opn.length ≤ 32
  le : e.opn.length ≤ e.given
  given : e.given ≤ N
  got : e.got ≤ 33 * N
  early : ∀ k s, e.early k = some s → (e.got : Int) < k ∧ k ≤ (e.got : Int) + 32 ∧ s.size ≤ 16384
  opn : ∀ s ∈ e.opn, s.size ≤ 16384

theorem Ok.mono {e : En} {N M : Nat} (h : Ok e N) (hm : N ≤ M) : Ok e M := ⟨h.win, h.le, Nat.le_trans h.given hm, Nat.le_trans h.got (Nat.mul_le_mul_left _ hm), h.early, h.opn⟩
theorem Ok.new (epoch : Int) (N : Nat) : Ok (newE epoch) N := ⟨Nat.zero_le _, Nat.zero_le _, Nat.zero_le _, Nat.zero_le _, fun _ _ h => by simp [newE] at h, fun s h => by simp [newE] at h⟩
theorem Ok.sent {e : En} {N : Nat} (h : Ok e N) (b : ByteArray) : Ok (sent e b) (N + 1) := by
  unfold Md.sent
  split
  · rename_i hs
    unfold sendErr at hs
    have h1 : ¬ 16384 < b.size := fun x => by rw [if_pos x] at hs; cases hs
    rw [if_neg h1] at hs
    have h2 : ¬ 32 ≤ e.opn.length := fun x => by rw [if_pos x] at hs; cases hs
    have := h.win
    have := h.le
    have := h.given
    refine ⟨by simp; omega, by simp; omega, by simp; omega, Nat.le_trans h.got (Nat.mul_le_mul_left _ (by omega)), h.early, ?_⟩
    intro s hs
    rcases List.mem_append.1 hs with hs | hs
    · exact h.opn s hs
    · simp at hs; subst hs; omega
  · exact h.mono (by omega)
theorem Ok.out {e : En} {N : Nat} (h : Ok e N) : Ok (outE e) N := ⟨h.win, h.le, h.given, h.got, h.early, h.opn⟩
theorem Ok.acked {e : En} {N : Nat} (h : Ok e N) (a : Int) : Ok (acked e a) N := by
  have h1 := h.win
  have h2 := h.le
  refine ⟨?_, ?_, h.given, h.got, h.early, fun s hs => h.opn s (List.mem_of_mem_drop hs)⟩
  · simp only [Md.acked, List.length_drop]; omega
  · simp only [Md.acked, List.length_drop]; omega
theorem Ok.laid {e : En} {N : Nat} (h : Ok e N) (g : Gr) (hr : rightErr e g = 0) : Ok (laid e g) N := by
  unfold Md.laid
  split
  · rename_i hc
    refine ⟨h.win, h.le, h.given, h.got, ?_, h.opn⟩
    intro k s hk
    simp only [put] at hk
    by_cases hkg : k = g.seq
    · rw [if_pos hkg] at hk
      obtain rfl := Option.some.inj hk
      unfold rightErr at hr
      by_cases x1 : g.epoch ≠ e.epoch
      · rw [if_pos x1] at hr; cases hr
      rw [if_neg x1] at hr
      by_cases x2 : bad e g = true
      · rw [if_pos x2] at hr; cases hr
      rw [if_neg x2] at hr
      by_cases x3 : 16384 < g.body.size
      · rw [if_pos x3] at hr; cases hr
      have x4 : ¬ ((e.got : Int) + 32 < g.seq) := fun y => x2 (decide_eq_true (.inr (.inr (.inr (.inl y)))))
      exact ⟨by show (e.got : Int) < k; omega, by show k ≤ (e.got : Int) + 32; omega, by omega⟩
    · rw [if_neg hkg] at hk
      exact h.early k s hk
  · exact ⟨h.win, h.le, h.given, h.got, h.early, h.opn⟩

/-- The drain's measure: no text lies further than 'top'. -/
structure Upto (e : En) (top : Nat) : Prop where
  early : ∀ k s, e.early k = some s → (e.got : Int) < k ∧ k ≤ (top : Int) ∧ s.size ≤ 16384
  got : e.got ≤ top
theorem Ok.upto {e : En} {N : Nat} (h : Ok e N) : Upto e (e.got + 32) := ⟨fun k s hk => by have := h.early k s hk; omega, by omega⟩
theorem Upto.step {e : En} {top : Nat} (h : Upto e top) {s : ByteArray} (hs : e.early ((e.got : Int) + 1) = some s) : Upto (step e) top ∧ e.got < top := by
  have h1 := h.early _ _ hs
  refine ⟨⟨fun k x hk => ?_, by show e.got + 1 ≤ top; omega⟩, by omega⟩
  simp only [Md.step, put] at hk
  by_cases hkk : k = (e.got : Int) + 1
  · rw [if_pos hkk] at hk; cases hk
  · rw [if_neg hkk] at hk
    have := h.early k x hk
    refine ⟨by show ((e.got + 1 : Nat) : Int) < k; omega, this.2.1, this.2.2⟩
theorem Ok.drain {N : Nat} {e0 : En} (h0 : Ok e0 N) : ∀ (k : Nat) (e : En), e.opn = e0.opn → e.given = e0.given → Upto e (e0.got + 32) → e0.got ≤ e.got → e0.got + 33 ≤ k + e.got → Ok (drainE k e) (N + 1) := by
  intro k
  induction k with
  | zero => intro e h1 h2 hu hl hk; have := hu.got; omega
  | succ k ih =>
    intro e h1 h2 hu hl hk
    have hg := hu.got
    have hg0 := h0.got
    cases hs : e.early ((e.got : Int) + 1) with
    | none =>
      have hd : drainE (k + 1) e = e := by simp only [drainE, hs]
      rw [hd]
      refine ⟨by rw [h1]; exact h0.win, by rw [h1, h2]; exact h0.le, by rw [h2]; exact Nat.le_trans h0.given (by omega), by omega, ?_, by rw [h1]; exact h0.opn⟩
      intro k s hks
      have := hu.early k s hks
      exact ⟨by omega, by omega, by omega⟩
    | some s =>
      have hd : drainE (k + 1) e = drainE k (step e) := by simp only [drainE, hs]
      have h5 := hu.step hs
      rw [hd]
      exact ih (step e) h1 h2 h5.1 (by show e0.got ≤ e.got + 1; omega) (by show e0.got + 33 ≤ k + (e.got + 1); omega)
theorem Ok.take {e : En} {N : Nat} (h : Ok e N) (g : Gr) : Ok (takeE e g) (N + 1) := by
  unfold takeE
  by_cases hr : rightErr e g ≠ 0
  · rw [if_pos hr]; exact h.mono (by omega)
  · rw [if_neg hr]
    by_cases hq : g.seq = 0
    · rw [if_pos hq]; exact (h.acked g.ack).mono (by omega)
    · rw [if_neg hq]
      have h1 : Ok (Md.laid (Md.acked e g.ack) g) N := (h.acked g.ack).laid g (by show rightErr e g = 0; simpa using hr)
      exact Ok.drain h1 33 _ rfl rfl h1.upto (Nat.le_refl _) (by omega)

end Go.Proofs.Ytjlhipnlacfekaa.Md
