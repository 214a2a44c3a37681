/-
  The reference's 'New' and 'Send'.
-/
import Derived.Test.YtjlhipnlacfekaaRm
import Derived.Test.YtjlhipnlacfekaaTf
namespace Go.Proofs.Ytjlhipnlacfekaa.Rf
open Go.RowKit Go.Maps Go.Proofs.Ytjlhipnlacfekaa.Md Go.Proofs.Ytjlhipnlacfekaa.Hp Go.Proofs.Ytjlhipnlacfekaa.Rp Go.Proofs.Ytjlhipnlacfekaa.Lbl Go.Proofs.Ytjlhipnlacfekaa.Wa Go.Proofs.Ytjlhipnlacfekaa.Tm
set_option linter.unusedSimpArgs false
set_option linter.unusedVariables false

def newR (ep : Int) : Re := ⟨ep, [], 0, 0, [], false⟩
def rsendErr (R : Re) (s : ByteArray) : Int := if 16384 < s.size then 5 else if 32 ≤ R.l.length then 11 else 0
def rsent (R : Re) (s : ByteArray) : Re := if rsendErr R s = 0 then { R with l := R.l ++ [(((R.given + 1 : Nat) : Int), s)], given := R.given + 1 } else R
def RR (w0 : World) (L : Nat → Nat) (w : World) (p : Nat) (R : Re) : Prop := ∃ v1 v4, RepR w0 L w p R v1 v4

theorem rnew_none (ep : Int) (h : ep < 1 ∨ 1073741824 < ep) (w : World) : Calls Try.prog 18 #[.int .i64 ep] w fun e w' => e = .returned (.pointer none) ∧ w = w' := by
  rcases h with h | h
  · go_enter Try.func18, Try.ntmps18
    go_wp2_with fail
    go_ret
    exact ⟨rfl, rfl⟩
  · have h1 : ¬ ep < 1 := by omega
    go_enter Try.func18, Try.ntmps18
    go_wp2_with fail
    go_ret
    exact ⟨rfl, rfl⟩
theorem rnew_some (ep : Int) (h1 : 1 ≤ ep) (h2 : ep ≤ 1073741824) (w : World) :
    Calls Try.prog 18 #[.int .i64 ep] w fun e w' => e = .returned (.pointer (some ⟨w.heap.size, 0, none⟩)) ∧ w' = w.alloc (.cells #[.int .i64 ep, .slice none 0 0, .int .i64 0, .int .i64 0, .slice none 0 0, .bool false] 57) := by
  have h3 : ¬ ep < 1 := by omega
  have h4 : ¬ 1073741824 < ep := by omega
  go_enter Try.func18, Try.ntmps18
  go_wp2_with fail
  go_ret
  exact ⟨rfl, rfl⟩
theorem rr_new {w0 w : World} {L : Nat → Nat} (ep : Int) (h : Lab w0 L w) : RR w0 (rel L w 12) (w.alloc (.cells #[.int .i64 ep, .slice none 0 0, .int .i64 0, .int .i64 0, .slice none 0 0, .bool false] 57)) w.heap.size (newR ep) :=
  ⟨.slice none 0 0, .slice none 0 0, ⟨h.stay ((Below.refl _ _).alloc (Nat.le_refl _) _) 12, rel_fresh _ _ _, heap_alloc_new _ _⟩, Sl.nil _ _ _, Sl.nil _ _ _⟩

theorem rsend_post {w0 : World} {L2 : Nat → Nat} {L : Nat → Nat} {w w2 w7 : World} {p k : Nat} {R : Re} {v1 v4 v7 : Value} {s : ByteArray} (hk : k = R.given + 1) (hk2 : KeptR L w L2 w2) (h : Core w0 L2 w2 p { R with given := k } v1 v4) (s4 : Sl w2 2 v4 R.early.length (tcells R.early) (Lb L2 w2 14)) (he : rsendErr R s = 0)
    (hs : Sl w7 2 v7 (R.l.length + 1) (tcells R.l ++ (#[.int .i64 (k : Int), .string s] : Array Value).toList) (Grow (Lb L2 w2 13) w2 w7)) (hc : Chg (Lb L2 w2 13) w2 w7) :
    ∃ L', RR w0 L' (w7.setCell ⟨p, 1, none⟩ v7) p (rsent R s) ∧ KeptR L w L' (w7.setCell ⟨p, 1, none⟩ v7) := by
  subst hk
  have hr : rsent R s = { R with l := R.l ++ [(((R.given + 1 : Nat) : Int), s)], given := R.given + 1 } := by unfold rsent; rw [if_pos he]
  have a3 := h.step (i := 13) (by decide) (by decide) hc 13
  have s43 := sl_other (r := 13) s4 hc (by decide)
  have s13 := sl_grown hs hc.size
  have hp := a3.lp
  refine ⟨_, ⟨v7, v4, ?_⟩, (hk2.trans (KeptR.rel (by decide) (by decide) hc 13)).trans (KeptR.set hp v7)⟩
  rw [hr]
  refine ⟨a3.set1 v7 _, ?_, sl_set12 s43 (by decide) hp⟩
  have e1 : (R.l ++ [(((R.given + 1 : Nat) : Int), s)]).length = R.l.length + 1 := by simp
  have e2 : tcells (R.l ++ [(((R.given + 1 : Nat) : Int), s)]) = tcells R.l ++ (#[.int .i64 ((R.given + 1 : Nat) : Int), .string s] : Array Value).toList := by rw [tcells_append]; rfl
  show Sl _ 2 v7 (R.l ++ [(((R.given + 1 : Nat) : Int), s)]).length (tcells (R.l ++ [(((R.given + 1 : Nat) : Int), s)])) _
  rw [e1, e2]
  exact sl_set12 s13 (by decide) hp
theorem Core.stay {w0 : World} {L : Nat → Nat} {w w' : World} {p : Nat} {R : Re} {v1 v4 : Value} (h : Core w0 L w p R v1 v4) (hb : Below w.heap.size w w') (r : Nat) : Core w0 (rel L w r) w' p R v1 v4 := h.step (i := 1) (by decide) (by decide) (Chg.ofBelow hb) r

set_option maxHeartbeats 1000000 in
theorem rsend_any {w0 : World} {L : Nat → Nat} {w : World} {p : Nat} {R : Re} (h : RR w0 L w p R) (hg : R.given ≤ 100000) (s : ByteArray) :
    Calls Try.prog 19 #[.pointer (some ⟨p, 0, none⟩), .string s] w fun e w' => e = .returned (.int .i64 (rsendErr R s)) ∧ ∃ L', RR w0 L' w' p (rsent R s) ∧ KeptR L w L' w' := by
  have same : rsendErr R s ≠ 0 → ∃ L', RR w0 L' w p (rsent R s) ∧ KeptR L w L' w := by
    intro hne
    unfold rsent
    rw [if_neg hne]
    exact ⟨L, h, KeptR.refl _ _⟩
  by_cases a1 : 16384 < s.size
  · have he : rsendErr R s = 5 := by unfold rsendErr; rw [if_pos a1]
    rw [he] at same ⊢
    have same' := Lib.hid (same (by decide))
    clear same he h
    go_enter Try.func19, Try.ntmps19
    go_wp2_with fail
    go_ret
    exact ⟨rfl, same'.out⟩
  · obtain ⟨v1, v4, hr⟩ := h
    have k1 := hr.c1
    obtain ⟨ao, cap, rfl⟩ := hr.s1.slice
    by_cases a2 : 32 ≤ R.l.length
    · have he : rsendErr R s = 11 := by unfold rsendErr; rw [if_neg a1, if_pos a2]
      rw [he] at same ⊢
      have same' := Lib.hid (same (by decide))
      clear same he hr
      go_enter Try.func19, Try.ntmps19
      go_wp2_with fail
      go_ret
      exact ⟨rfl, same'.out⟩
    · have he : rsendErr R s = 0 := by unfold rsendErr; rw [if_neg a1, if_neg a2]
      clear same
      have HE := Lib.hid he
      have HR := Lib.hid hr
      have k2 := hr.c2
      have f2 := hr.fz 2
      rw [he]
      clear he hr
      go_enter Try.func19, Try.ntmps19
      go_wp2_with fail
      obtain ⟨k, hk⟩ : ∃ k, k = R.given + 1 := ⟨_, rfl⟩
      have H2 := Lib.hid (HR.out.toCore.set2 k (.int .i64 ((R.given : Int) + 1)) (by rw [hk]; rfl))
      have S12 := Lib.hid (sl_set12 (f := 2) (u := .int .i64 ((R.given : Int) + 1)) HR.out.s1 (by decide) HR.out.lp)
      have S42 := Lib.hid (sl_set12 (f := 2) (u := .int .i64 ((R.given : Int) + 1)) HR.out.s4 (by decide) HR.out.lp)
      have K2 := Lib.hid (KeptR.set (w := w) (i := 2) HR.out.lp (.int .i64 ((R.given : Int) + 1)))
      generalize w.setCell ⟨p, 2, none⟩ (.int .i64 ((R.given : Int) + 1)) = w2 at H2 S12 S42 K2 ⊢
      clear HR k1 k2 f2
      have HK := Lib.hid hk
      clear hk
      have y1 := H2.out.c1
      have y2 := H2.out.c2
      have B3 := Lib.hid (((Below.refl w2.heap.size w2).alloc (Nat.le_refl _) (.cells #[.int .i64 (k : Int), .string s] 71)).drew)
      have H3 := Lib.hid (H2.out.stay B3.out 9)
      have S13 := Lib.hid (sl_stay (r := 9) S12.out B3.out)
      have S43 := Lib.hid (sl_stay (r := 9) S42.out B3.out)
      have K3 := Lib.hid (K2.out.trans (KeptR.stay B3.out 9))
      generalize rel L w2 9 = L3 at H3 S13 S43 K3
      have z1 : (w2.alloc (.cells #[.int .i64 (k : Int), .string s] 71)).cell? ⟨p, 1, none⟩ = some (.slice ao R.l.length cap) := by have := H3.out.c1; exact this
      have HSR : Hid (Hp.Src (w2.alloc (.cells #[.int .i64 (k : Int), .string s] 71)).drew (.slice (some ⟨w2.heap.size, 0, none⟩) 1 1) 1 (#[.int .i64 (k : Int), .string s] : Array Value).toList) := Lib.hid (src_many w2 _ 71)
      have q1 : R.l.length + 1 ≤ maxLen := by unfold maxLen; omega
      have q2 : (R.l.length + 1) * 24 ≤ 140737488355328 := by omega
      clear H2 S12 S42 K2
      go_region_law (refine step_append_sl rfl _ _ 55 rfl 71 _ 2 24 Try.underlying55 info71 rfl (by decide) rfl rfl S13.out HSR.out rfl (one_tx k s) q1 q2 ?_; intro v7 w7 hsl hch; obtain ⟨ao7, cap7, rfl⟩ := hsl.slice; have HA := Lib.hid (H3.out.step (by decide) (by decide) hch 13); have z7 := HA.out.c1; have f7 := HA.out.fz 1; have HS7 := Lib.hid hsl; have HC7 := Lib.hid hch; clear hsl hch q1 q2 HA)
      all_goals
        go_wp2_with fail
        go_ret
        exact ⟨rfl, rsend_post HK.out K3.out H3.out S43.out HE.out HS7.out HC7.out⟩

end Go.Proofs.Ytjlhipnlacfekaa.Rf
