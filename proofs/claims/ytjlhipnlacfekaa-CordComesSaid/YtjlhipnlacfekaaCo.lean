/-
  CordComes: all comes in the end: the walk.
-/
import Derived.Test.YtjlhipnlacfekaaOr
import Derived.Test.YtjlhipnlacfekaaTq
namespace Go.Proofs.Ytjlhipnlacfekaa.Tm
open Go.RowKit Go.Maps Go.Proofs.Ytjlhipnlacfekaa.Md Go.Proofs.Ytjlhipnlacfekaa.Hp Go.Proofs.Ytjlhipnlacfekaa.Rp Go.Proofs.Ytjlhipnlacfekaa.Lbl Go.Proofs.Ytjlhipnlacfekaa.Wa
set_option linter.unusedSimpArgs false
set_option linter.unusedVariables false

theorem sl_kept {L L' : Nat → Nat} {w w' : World} {i size n : Nat} {v : Value} {xs : List Value} (hi : 9 ≤ i) (h : Sl w size v n xs (Lb L w i)) (hk : Kept L w L' w') : Sl w' size v n xs (Lb L' w' i) :=
  (h.keep hk.size fun b hb hf => hk.block b hb (by have := hf.1; omega)).mono fun b _ hf => ⟨(hk.lab b hf.2).trans hf.1, Nat.lt_of_lt_of_le hf.2 hk.size⟩
theorem come_pool (T : Tk) (s : Gr × Bool) : (comeT T s).pool = T.pool := by unfold comeT; split <;> rfl
theorem comes_pool : ∀ (l : List (Gr × Bool)) (T : Tk), (comesAll T l).pool = T.pool
  | [], _ => rfl
  | s :: l, T => (comes_pool l (comeT T s)).trans (come_pool T s)
theorem comes_snoc (T : Tk) (l : List (Gr × Bool)) (i : Nat) (s : Gr × Bool) (h : l[i]? = some s) : comesAll T (l.take (i + 1)) = comeT (comesAll T (l.take i)) s := by
  rw [List.take_add_one, h]
  unfold comesAll
  rw [List.foldl_append]
  rfl
theorem out_mem (T : Tk) (f : Bool) : ∀ s ∈ (outs T f).map (·, f), s ∈ (outT T f).pool := by
  intro s hs
  unfold outs at hs
  unfold outT
  split
  · rename_i hf
    rw [if_pos hf] at hs
    subst hf
    exact List.mem_append_right _ hs
  · rename_i hf
    rw [if_neg hf] at hs
    obtain rfl : f = false := by simpa using hf
    exact List.mem_append_right _ hs
theorem small {ep : Int} {T : Tk} {N : Nat} (h : Inv ep T) (oa : Ok T.a N) (ob : Ok T.b N) : T.atA.length ≤ N ∧ T.atB.length ≤ N ∧ T.toA.length ≤ N ∧ T.toB.length ≤ N := by
  have := h.ba.begins.1
  have := h.ab.begins.1
  have := h.ba.given
  have := h.ab.given
  have := oa.given
  have := ob.given
  omega
theorem all_come {x y : En} {to come : List ByteArray} (h : Dir x y to come) (hg : y.got = to.length) : come = to := by
  rw [h.cm, hg, List.take_length]

/-- The last look: nothing is left, nothing is owed. -/
theorem ends_quiet {w0 : World} {L : Nat → Nat} {w : World} {t : Nat} {T : Tk} {N : Nat} {pa pb : Nat} {vs : Nat → Value} {ep : Int} (h : RepT w0 L w t T N pa pb vs) (hi : Inv ep T)
    (hp : T.b.opn = [] ∧ T.a.owed = false ∧ T.b.owed = false ∧ T.a.opn = [] ∧ T.a.got = T.toA.length ∧ T.b.got = T.toB.length) (hN : N ≤ 10000 := by omega) :
    (∀ n, Calls Try.prog 23 #[vs 4, vs 2] (w.drewN n) fun e w' => e = .returned (.bool true) ∧ ∃ m, w' = (w.drewN n).drewN m) ∧
    (∀ n, Calls Try.prog 23 #[vs 5, vs 3] (w.drewN n) fun e w' => e = .returned (.bool true) ∧ ∃ m, w' = (w.drewN n).drewN m) ∧
    (∀ n, Calls Try.prog 14 #[.pointer (some ⟨pa, 0, none⟩)] (w.drewN n) fun e w' => e = .returned (.int .i64 0) ∧ ∃ m, w' = (w.drewN n).drewN m) ∧
    (∀ n, Calls Try.prog 14 #[.pointer (some ⟨pb, 0, none⟩)] (w.drewN n) fun e w' => e = .returned (.int .i64 0) ∧ ∃ m, w' = (w.drewN n).drewN m) ∧
    (∀ n, Calls Try.prog 17 #[.pointer (some ⟨pa, 0, none⟩)] (w.drewN n) fun e w' => e = .returned (.bool false) ∧ ∃ m, w' = (w.drewN n).drewN m) ∧
    (∀ n, Calls Try.prog 17 #[.pointer (some ⟨pb, 0, none⟩)] (w.drewN n) fun e w' => e = .returned (.bool false) ∧ ∃ m, w' = (w.drewN n).drewN m) := by
  obtain ⟨p1, p2, p3, p4, p5, p6⟩ := hp
  obtain ⟨_, _, z3, z4⟩ := small hi h.ra.ok h.rb.ok
  have eA := all_come hi.ba p5
  have eB := all_come hi.ab p6
  refine ⟨fun n => ?_, fun n => ?_, fun n => ?_, fun n => ?_, fun n => ?_, fun n => ?_⟩
  · have a : Sl (w.drewN n) 1 (vs 4) T.atA.length (T.atA.map .string) (Lb L (w.drewN n) 6) := (h.drewN n).sl 4 (by decide) (by decide)
    rw [eA] at a
    exact (texts_same a ((h.drewN n).sl 2 (by decide) (by decide)) (by omega)).mono fun _ _ x => x
  · have a : Sl (w.drewN n) 1 (vs 5) T.atB.length (T.atB.map .string) (Lb L (w.drewN n) 7) := (h.drewN n).sl 5 (by decide) (by decide)
    rw [eB] at a
    exact (texts_same a ((h.drewN n).sl 3 (by decide) (by decide)) (by omega)).mono fun _ _ x => x
  · have a := open_any (h.drewN n).ra
    rw [p4] at a
    exact a.mono fun _ _ x => ⟨x.1, 0, x.2.symm⟩
  · have a := open_any (h.drewN n).rb
    rw [p1] at a
    exact a.mono fun _ _ x => ⟨x.1, 0, x.2.symm⟩
  · have a := owes_any (h.drewN n).ra
    rw [show owes T.a = false by unfold owes; rw [p2, p4]; rfl] at a
    exact a.mono fun _ _ x => ⟨x.1, 0, x.2.symm⟩
  · have a := owes_any (h.drewN n).rb
    rw [show owes T.b = false by unfold owes; rw [p3, p1]; rfl] at a
    exact a.mono fun _ _ x => ⟨x.1, 0, x.2.symm⟩

set_option maxHeartbeats 1500000 in
set_option maxRecDepth 20000 in
theorem comes_walk (c : Int) (ax : Option Addr) (n cx : Nat) (w : World) (hn : n ≤ maxLen) (hx : Evs w ax n) :
    Calls Try.prog 7 #[.int .i64 c, .slice ax n cx] w fun e w' => e = .returned (.bool true) ∧ Below w.heap.size w w' := by
  have HX := Lib.hid hx
  have hn2 : n ≤ 9223372036854775807 := by have := hn; unfold maxLen at this; omega
  have HN := Lib.hid hn
  clear hx hn
  obtain ⟨ep, hep, e1, e2⟩ := epoch_of c
  have HT := Lib.hid (fun W hx => talked_any (ep : Int) (by omega) (by omega) ax n cx W HN.out hx)
  clear e1 e2
  go_enter Try.func7, Try.ntmps7
  go_wp2_with fail
  refine (awake_any w).mono ?_
  rintro e w1 ⟨rfl, hb1⟩
  have HB1 := Lib.hid hb1
  have HX1 := Lib.hid (HX.out.keep hb1)
  clear hb1
  go_wp2_with fail
  go_loopg [5] 120 (fun kq v5 wr => ∃ i : Nat, v5 = .int .i64 (i : Int) ∧ kq + i ≤ 120 ∧ 120 ≤ kq + i ∧ wr = w1)
  case atStart => exact ⟨0, rfl, by omega, by omega, rfl⟩
  case round =>
    obtain ⟨i, rfl, hk1, hk2, rfl⟩ := hrel
    by_cases hgo : i < n ∧ i < 120
    · obtain ⟨hi, h120⟩ := hgo
      obtain ⟨x, k, m, s, rfl, -, -, x2⟩ := HX1.out i hi
      have d1 : decide (i < n) = true := decide_eq_true hi
      have d2 : decide ((i : Int) < 120) = true := decide_eq_true (by omega)
      by_cases hs : 1024 < s.size
      · go_wp2_with fail
        go_ret
        exact ⟨rfl, HB1.out⟩
      · go_wp2_with fail
        go_roundg (gk - 1)
        case measure => omega
        case rel => exact ⟨i + 1, by go_num, by omega, by omega, rfl⟩
    · have hcase : (decide (i < n) = false) ∨ (decide (i < n) = true ∧ decide ((i : Int) < 120) = false) := by
        by_cases hi : i < n
        · exact .inr ⟨decide_eq_true hi, decide_eq_false (by omega)⟩
        · exact .inl (decide_eq_false hi)
      clear hgo
      rcases hcase with d1 | ⟨d1, d2⟩
      all_goals
        go_wp2_with fail
        refine (HT.out _ HX1.out).mono ?_
        rintro e w2 ⟨t, L, T, rfl, hrt, hinv, hpl⟩
        have HR := Lib.hid hrt
        have HI := Lib.hid hinv
        clear hrt hinv
        go_wp2_with fail
        obtain ⟨wo, rfl⟩ : ∃ wo : World, wo = wr := ⟨_, rfl⟩
        go_loopg [8] 6 (fun kq v8 wq => ∃ (r : Nat) (L5 : Nat → Nat) (T5 : Tk), v8 = .int .i64 (r : Int) ∧ kq + r ≤ 6 ∧ 6 ≤ kq + r ∧ Hid (RT wo L5 wq t T5 (200 + 40 * r)) ∧ Hid (Inv ep T5) ∧ Hid (Phase r T5) ∧ T5.pool.length ≤ 5000 + 40 * r)
        case atStart => exact ⟨0, L, T, rfl, by omega, by omega, HR, HI, Lib.hid trivial, by omega⟩
        case round =>
          clear HR HI hpl
          obtain ⟨r, L5, T5, rfl, hk3, hk4, HR, HI, HP, hpl⟩ := hrel
          by_cases hr : r < 6
          · obtain ⟨f, hf⟩ : ∃ f, f = decide (r % 2 = 0) := ⟨_, rfl⟩
            have hf2 : ((r : Int) % 2 == 0) = f := by
              rw [hf]
              by_cases h2 : r % 2 = 0
              · rw [decide_eq_true h2]; exact beq_iff_eq.2 (by omega)
              · rw [decide_eq_false h2]; exact beq_eq_false_iff_ne.2 (by omega)
            have HPN := Lib.hid (fun oa ob => phase_next HI.out (N := 200 + 40 * r) oa ob r HP.out)
            rw [← hf] at HPN
            have HS := Lib.hid (sends_any HR.out (by omega) (by omega) f)
            have HIo := Lib.hid (HI.out.out HR.out.oks.1 HR.out.oks.2 f)
            have hpo := pool_out T5 f
            have hol := outs_len HR.out.oks.1 HR.out.oks.2 f
            have HMEM := Lib.hid (out_mem T5 f)
            obtain ⟨T6, hT6⟩ : ∃ T6, T6 = outT T5 f := ⟨_, rfl⟩
            obtain ⟨l, hl⟩ : ∃ l, l = (outs T5 f).map (·, f) := ⟨_, rfl⟩
            have hln : l.length = (outs T5 f).length := by rw [hl, List.length_map]
            have HPH : Hid (Phase (r + 1) (comesAll T6 l)) := Lib.hid (by rw [hT6, hl]; exact HPN.out HR.out.oks.1 HR.out.oks.2)
            rw [← hln, ← hl, ← hT6] at HS
            rw [← hT6] at HIo hpo
            rw [← hln] at hpo hol
            rw [← hl, ← hT6] at HMEM
            clear HPN hf hT6 hl hln HI HP
            go_wp2_with fail
            refine HS.out.mono ?_
            rintro e w3 ⟨v3, L6, rfl, hrt, hsl, hk⟩
            have HR6 := Lib.hid hrt
            have HS6 := Lib.hid hsl
            obtain ⟨al, cl, rfl⟩ := hsl.slice
            clear hrt hsl hk HS HR
            go_wp2_with fail
            obtain ⟨wp, rfl⟩ : ∃ wp : World, wp = wr := ⟨_, rfl⟩
            go_loopg [10] l.length (fun kq v10 wq => ∃ (j : Nat) (L7 : Nat → Nat), v10 = .int .i64 (j : Int) ∧ kq + j ≤ l.length ∧ l.length ≤ kq + j ∧ Hid (RT wo L7 wq t (comesAll T6 (l.take j)) (200 + 40 * r + j)) ∧ Hid (Inv ep (comesAll T6 (l.take j))) ∧ Hid (Sl wq 7 (.slice al l.length cl) l.length (pcells l) (Lb L7 wq 10)))
            case atStart => exact ⟨0, L6, rfl, by omega, by omega, HR6, HIo, HS6⟩
            case round =>
              clear HR6 HS6 HIo
              obtain ⟨j, L7, rfl, hk5, hk6, HR, HI, HS⟩ := hrel
              by_cases hj : j < l.length
              · obtain ⟨b6, o6, c6, hv6, _, _, _, hx6⟩ := HS.out.form (by omega)
                injection hv6 with hv6 _ hv7
                subst hv6 hv7
                obtain ⟨g, hg⟩ : ∃ g, l[j]? = some g := ⟨_, List.getElem?_eq_getElem hj⟩
                have hc2 : ∀ f, f < 7 → ∀ u, (scells g)[f]? = some u → wr.cell? ⟨b6, o6 + j * 7 + f, none⟩ = some u := by
                  intro f hf u hu
                  rw [Nat.add_assoc]
                  exact hx6 _ u (by rw [pcells_at _ j f g hg hf]; exact hu)
                obtain ⟨oa, ob⟩ := HR.out.oks
                obtain ⟨z1, z2, _, _⟩ := small HI.out oa ob
                obtain ⟨he, hinv⟩ := HI.out.come oa ob (HI.out.pool g (by rw [comes_pool]; exact HMEM.out g (List.mem_of_getElem? hg)))
                have HC := Lib.hid (comes_any HR.out (by omega) (by omega) (by omega) g he)
                rw [← comes_snoc T6 l j g hg] at HC hinv
                have HI' := Lib.hid hinv
                obtain ⟨⟨c0, u0, ep0, sq0, ak0, b0⟩, f0⟩ := g
                unfold Sv at HC
                have g0 : wr.cell? ⟨b6, o6 + j * 7, none⟩ = _ := hc2 0 (by decide) _ rfl
                have g1 : wr.cell? ⟨b6, o6 + j * 7 + 1, none⟩ = _ := hc2 1 (by decide) _ rfl
                have g2 : wr.cell? ⟨b6, o6 + j * 7 + 2, none⟩ = _ := hc2 2 (by decide) _ rfl
                have g3 : wr.cell? ⟨b6, o6 + j * 7 + 3, none⟩ = _ := hc2 3 (by decide) _ rfl
                have g4 : wr.cell? ⟨b6, o6 + j * 7 + 4, none⟩ = _ := hc2 4 (by decide) _ rfl
                have g5 : wr.cell? ⟨b6, o6 + j * 7 + 5, none⟩ = _ := hc2 5 (by decide) _ rfl
                have g6 : wr.cell? ⟨b6, o6 + j * 7 + 6, none⟩ = _ := hc2 6 (by decide) _ rfl
                clear hc2 hx6 hg he hinv oa ob z1 z2 HI
                go_wp2_with fail
                with_reducible refine HC.out.mono ?_
                rintro e w5 ⟨rfl, L8, hrt, hk⟩
                have HR5 := Lib.hid hrt
                have HS5 := Lib.hid (sl_kept (by decide) HS.out hk)
                clear hrt hk HC HS HR g0 g1 g2 g3 g4 g5 g6
                go_wp2_with fail
                go_roundg (gk - 1)
                case measure => omega
                case rel => exact ⟨j + 1, L8, by go_num, by omega, by omega, HR5, HI', HS5⟩
              · have : gk = 0 := by omega
                subst this
                obtain rfl : j = l.length := by omega
                rw [List.take_length] at HR HI
                have hcp := comes_pool l T6
                generalize comesAll T6 l = T7 at HR HI HPH hcp
                clear HS
                go_wp2_with fail
                go_roundg (gk - 1)
                case measure => omega
                case rel => exact ⟨r + 1, L7, T7, by go_num, by omega, by omega, Lib.hid (HR.out.mono (by omega)), HI, HPH, by rw [hcp]; omega⟩
          · have : gk = 0 := by omega
            subst this
            obtain rfl : r = 6 := by omega
            obtain ⟨pa, pb, vs, h⟩ := HR.out
            have HPS : Hid (T5.b.opn = [] ∧ T5.a.owed = false ∧ T5.b.owed = false ∧ T5.a.opn = [] ∧ T5.a.got = T5.toA.length ∧ T5.b.got = T5.toB.length) := HP
            have HE := Lib.hid (ends_quiet h HI.out HPS.out)
            have y0 := h.c0
            have y1 := h.c1
            have y2 := h.c2
            have y3 := h.c3
            have y4 := h.c4
            have y5 := h.c5
            clear h
            go_wp2_with fail
            go_quiet (first
              | (go_at_call 23; with_reducible refine Calls.quiet_of (HE.out.1 _))
              | (go_at_call 23; with_reducible refine Calls.quiet_of (HE.out.2.1 _))
              | (go_at_call 14; with_reducible refine Calls.quiet_of (HE.out.2.2.1 _))
              | (go_at_call 14; with_reducible refine Calls.quiet_of (HE.out.2.2.2.1 _))
              | (go_at_call 17; with_reducible refine Calls.quiet_of (HE.out.2.2.2.2.1 _))
              | (go_at_call 17; with_reducible refine Calls.quiet_of (HE.out.2.2.2.2.2 _)))
            go_wp2_with fail
            go_ret
            exact ⟨rfl, HB1.out.trans ((HR.out.drewN _).bel.mono HB1.out.size)⟩

end Go.Proofs.Ytjlhipnlacfekaa.Tm
