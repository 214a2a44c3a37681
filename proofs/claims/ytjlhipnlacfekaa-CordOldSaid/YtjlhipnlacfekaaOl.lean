/-
  CordOld: datagrams of another epoch are refused, and change nothing: the walk.
-/
import Derived.Test.YtjlhipnlacfekaaOr
namespace Go.Proofs.Ytjlhipnlacfekaa.Tm
open Go.RowKit Go.Maps Go.Proofs.Ytjlhipnlacfekaa.Md Go.Proofs.Ytjlhipnlacfekaa.Hp Go.Proofs.Ytjlhipnlacfekaa.Rp Go.Proofs.Ytjlhipnlacfekaa.Lbl Go.Proofs.Ytjlhipnlacfekaa.Wa
set_option linter.unusedSimpArgs false
set_option linter.unusedVariables false

theorem old_take {E : En} {g : Gr} (h : g.epoch ≠ E.epoch) : takeErr E g = 23 ∧ takeE E g = E ∧ takeL E g = [] := by
  have hr : rightErr E g = 23 := by unfold rightErr; rw [if_pos h]
  refine ⟨hr, ?_, ?_⟩
  · unfold takeE; rw [if_pos (by rw [hr]; decide)]
  · unfold takeL; rw [if_pos (by rw [hr]; decide)]
def smine : ByteArray := ⟨#[109, 105, 110, 101]⟩
def mineE (ep : Int) : En := sent (newE ep) smine
theorem mine_facts (ep : Int) : sendErr (newE ep) smine = 0 ∧ (mineE ep).epoch = ep ∧ (mineE ep).got = 0 ∧ (mineE ep).opn.length = 1 := ⟨rfl, rfl, rfl, rfl⟩
theorem Pok.epoch {ep : Int} {T : Tk} {s : Gr × Bool} (h : Pok ep T s) : s.1.epoch = ep := by
  unfold Pok at h
  split at h
  · exact h.epoch
  · exact h.epoch
theorem RT.other {w0 : World} {L : Nat → Nat} {w w' : World} {t : Nat} {T : Tk} {N : Nat} (h : RT w0 L w t T N) {i : Nat} (hi : 9 ≤ i) (hc : Chg (Lb L w i) w w') (r : Nat) : RT w0 (rel L w r) w' t T N := by
  obtain ⟨pa, pb, vs, h⟩ := h
  exact ⟨pa, pb, vs, h.other hi hc r⟩
/-- 'Take' of a datagram of another epoch. -/
theorem old_calls {w : World} {p : Nat} {ep : Int} {L : Nat → Nat} {N : Nat} (h : Rep w p (mineE ep) (Lb L w 11) N) (hN : N ≤ 10000) (g : Gr) (hg : g.epoch ≠ ep) :
    Calls Try.prog 12 #[.pointer (some ⟨p, 0, none⟩), Gr.val g] w fun e w' => e = .returned (.tuple #[.slice none 0 0, .int .i64 23]) ∧ Rep w' p (mineE ep) (Lb L w 11) (N + 1) ∧ Chg (Lb L w 11) w w' := by
  refine (take_any h hN lb_lt g).mono ?_
  rintro e w' ⟨v, rfl, hr, hs, hc, h0⟩
  obtain ⟨a, b, c⟩ := old_take (E := mineE ep) (g := g) hg
  rw [h0 c, a]
  rw [b] at hr
  exact ⟨rfl, hr, hc⟩
theorem mine_got {w : World} {p : Nat} {ep : Int} {F : Nat → Prop} {N : Nat} (h : Rep w p (mineE ep) F N) : Calls Try.prog 13 #[.pointer (some ⟨p, 0, none⟩)] w fun e w' => e = .returned (.int .i64 0) ∧ w = w' := by
  have := got_any h
  rw [(mine_facts ep).2.2.1] at this
  exact this
theorem mine_open {w : World} {p : Nat} {ep : Int} {F : Nat → Prop} {N : Nat} (h : Rep w p (mineE ep) F N) : Calls Try.prog 14 #[.pointer (some ⟨p, 0, none⟩)] w fun e w' => e = .returned (.int .i64 1) ∧ w = w' := by
  have := open_any h
  rw [(mine_facts ep).2.2.2] at this
  exact this
theorem nil_send (w : World) : Calls Try.prog 11 #[.pointer none, .string ⟨#[]⟩] w fun e w' => e = .returned (.int .i64 2) ∧ w = w' := send_nil _ w

set_option maxHeartbeats 8000000 in
set_option maxRecDepth 20000 in
theorem old_walk (c : Int) (ax : Option Addr) (n cx : Nat) (c2 : Int) (w : World) (hn : n ≤ maxLen) (hx : Evs w ax n) :
    Calls Try.prog 3 #[.int .i64 c, .slice ax n cx, .int .i64 c2] w fun e w' => e = .returned (.bool true) ∧ Below w.heap.size w w' := by
  have HX := Lib.hid hx
  have hn2 : n ≤ 9223372036854775807 := by have := hn; unfold maxLen at this; omega
  have HN := Lib.hid hn
  clear hx hn
  obtain ⟨ep, hep, e1, e2⟩ := epoch_of c
  obtain ⟨ot, hot, e3, e4⟩ := epoch_of c2
  have HT := Lib.hid (fun W hx => talked_any (ep : Int) (by omega) (by omega) ax n cx W HN.out hx)
  have HNW := Lib.hid (fun W => new_any (ot : Int) (by omega) (by omega) W 0)
  clear e1 e2 e3 e4
  go_enter Try.func3, Try.ntmps3
  go_wp2_with fail
  refine (awake_any w).mono ?_
  rintro e w1 ⟨rfl, hb1⟩
  have HB1 := Lib.hid hb1
  have HX1 := Lib.hid (HX.out.keep hb1)
  clear hb1
  go_wp2_with fail
  go_loopg [7] 120 (fun kq v7 wr => ∃ i : Nat, v7 = .int .i64 (i : Int) ∧ kq + i ≤ 120 ∧ 120 ≤ kq + i ∧ wr = w1)
  case atStart => exact ⟨0, rfl, by omega, by omega, rfl⟩
  case round =>
    obtain ⟨i, rfl, hk1, hk2, rfl⟩ := hrel
    by_cases hgo : i < n ∧ i < 120
    · obtain ⟨hi, h120⟩ := hgo
      obtain ⟨x, k, m, s, rfl, -, -, x2⟩ := HX1.out i hi
      have d1 : decide (i < n) = true := decide_eq_true hi
      have d2 : decide ((i : Int) < 120) = true := decide_eq_true (by omega)
      by_cases hs : 1024 < s.size
      · go_wp2_with fail
        go_ret
        exact ⟨rfl, HB1.out⟩
      · go_wp2_with fail
        go_roundg (gk - 1)
        case measure => omega
        case rel => exact ⟨i + 1, by go_num, by omega, by omega, rfl⟩
    · obtain ⟨bi, d0⟩ : ∃ bi, bi = decide (i < n) := ⟨_, rfl⟩
      obtain ⟨bj, d3⟩ : ∃ bj, bj = decide ((i : Int) < 120) := ⟨_, rfl⟩
      have hcase : (decide (i < n) = false) ∨ (decide (i < n) = true ∧ decide ((i : Int) < 120) = false) := by
        by_cases hi : i < n
        · exact .inr ⟨decide_eq_true hi, decide_eq_false (by omega)⟩
        · exact .inl (decide_eq_false hi)
      clear d0 d3 hgo
      by_cases heq : ep = ot
      · have hb : ((ep : Int) == (ot : Int)) = true := beq_iff_eq.2 (by omega)
        rcases hcase with d1 | ⟨d1, d2⟩
        all_goals
          go_wp2_with fail
          go_ret
          exact ⟨rfl, HB1.out⟩
      · have hb : ((ep : Int) == (ot : Int)) = false := beq_eq_false_iff_ne.2 (by omega)
        have HEQ := Lib.hid heq
        clear heq
        rcases hcase with d1 | ⟨d1, d2⟩
        all_goals
          go_wp2_with fail
          refine (HT.out _ HX1.out).mono ?_
          rintro e w2 ⟨t, L, T, rfl, hrt, hinv, hpl⟩
          have HR := Lib.hid hrt
          have HI := Lib.hid hinv
          clear hrt hinv
          go_wp2_with fail
          refine (HNW.out w2).mono ?_
          rintro e w3 ⟨rfl, hr, hbn⟩
          have HE3 := Lib.hid (rep_new (L := L) (r := 11) hr)
          have HR3 := Lib.hid (HR.out.other (i := 9) (by decide) (Chg.ofBelow hbn) 11)
          generalize rel L w2 11 = L3 at HE3 HR3
          generalize w2.heap.size + 1 = pe at HE3 ⊢
          clear hr hbn HR
          go_wp2_with fail
          refine (send_any HE3.out (by decide) smine).mono ?_
          rintro e w4 ⟨rfl, hr, hc⟩
          have HE4 : Hid (Rep w4 pe (mineE ot) (Lb (rel L3 w3 11) w4 11) 1) := Lib.hid (rep_grown hr hc.size)
          have HR4 := Lib.hid (HR3.out.other (i := 11) (by decide) hc 11)
          generalize rel L3 w3 11 = L4 at HE4 HR4
          clear hr hc HE3 HR3
          go_wp2_with fail
          obtain ⟨wo, rfl⟩ : ∃ wo : World, wo = wr := ⟨_, rfl⟩
          go_loopg [11] T.pool.length (fun kq v11 wq => ∃ (j : Nat) (L5 : Nat → Nat), v11 = .int .i64 (j : Int) ∧ kq + j ≤ T.pool.length ∧ T.pool.length ≤ kq + j ∧ Hid (RT wo L5 wq t T 200) ∧ Hid (Rep wq pe (mineE ot) (Lb L5 wq 11) (1 + j)))
          case atStart => exact ⟨0, L4, rfl, by omega, by omega, HR4, HE4⟩
          case round =>
            clear HR4 HE4
            obtain ⟨j, L5, rfl, hk3, hk4, HR, HE⟩ := hrel
            obtain ⟨pa, pb, vs, h⟩ := HR.out
            have y6 := h.c6
            by_cases hj : j < T.pool.length
            · obtain ⟨b6, o6, c6, hv6, _, _, _, hx6⟩ := (h.sl 6 (by decide) (by decide)).form (show 0 < T.ns 6 by show 0 < T.pool.length; omega)
              rw [hv6, show T.ns 6 = T.pool.length from rfl] at y6
              obtain ⟨g, hg⟩ : ∃ g, T.pool[j]? = some g := ⟨_, List.getElem?_eq_getElem hj⟩
              have hc2 : ∀ f, f < 7 → ∀ u, (scells g)[f]? = some u → wr.cell? ⟨b6, o6 + j * 7 + f, none⟩ = some u := by
                intro f hf u hu
                rw [Nat.add_assoc]
                exact hx6 _ u (by show (pcells T.pool)[j * 7 + f]? = some u; rw [pcells_at _ j f g hg hf]; exact hu)
              have hge := (HI.out.pool g (List.mem_of_getElem? hg)).epoch
              have HC := Lib.hid (old_calls HE.out (by omega) g.1 (by rw [hge]; have := HEQ.out; omega))
              obtain ⟨⟨c0, u0, ep0, sq0, ak0, b0⟩, f0⟩ := g
              unfold Gr.val at HC
              have g0 : wr.cell? ⟨b6, o6 + j * 7, none⟩ = _ := hc2 0 (by decide) _ rfl
              have g1 : wr.cell? ⟨b6, o6 + j * 7 + 1, none⟩ = _ := hc2 1 (by decide) _ rfl
              have g2 : wr.cell? ⟨b6, o6 + j * 7 + 2, none⟩ = _ := hc2 2 (by decide) _ rfl
              have g3 : wr.cell? ⟨b6, o6 + j * 7 + 3, none⟩ = _ := hc2 3 (by decide) _ rfl
              have g4 : wr.cell? ⟨b6, o6 + j * 7 + 4, none⟩ = _ := hc2 4 (by decide) _ rfl
              have g5 : wr.cell? ⟨b6, o6 + j * 7 + 5, none⟩ = _ := hc2 5 (by decide) _ rfl
              clear hc2 hx6 hg hge hv6 h
              go_wp2_with fail
              refine HC.out.mono ?_
              rintro e w5 ⟨rfl, hr, hc⟩
              have HE5 := Lib.hid (rep_same (r := 11) hr hc.size)
              have HR5 := Lib.hid (HR.out.other (i := 11) (by decide) hc 11)
              generalize rel L5 wr 11 = L6 at HE5 HR5
              clear hr hc HC HR HE y6 g0 g1 g2 g3 g4 g5
              go_wp2_with fail
              refine (mine_got HE5.out).mono ?_
              rintro e w6 ⟨rfl, rfl⟩
              go_wp2_with fail
              refine (mine_open HE5.out).mono ?_
              rintro e w6 ⟨rfl, rfl⟩
              go_wp2_with fail
              go_roundg (gk - 1)
              case measure => omega
              case rel => exact ⟨j + 1, L6, by go_num, by omega, by omega, HR5, HE5⟩
            · have : gk = 0 := by omega
              subst this
              obtain rfl : j = T.pool.length := by omega
              obtain ⟨a6, c6, hv6⟩ := (h.sl 6 (by decide) (by decide)).slice
              rw [hv6, show T.ns 6 = T.pool.length from rfl] at y6
              clear hv6 h
              have HN0 := Lib.hid (fun W => take_nil ⟨0, false, 0, 0, 0, ⟨#[]⟩⟩ W)
              unfold Gr.val at HN0
              go_wp2_with fail
              refine (HN0.out _).mono ?_
              rintro e w5 ⟨rfl, hb5⟩
              have HB5 := Lib.hid hb5
              clear hb5
              go_wp2_with fail
              refine (send_nil _ _).mono ?_
              rintro e w6 ⟨rfl, rfl⟩
              go_wp2_with fail
              refine (out_nil _).mono ?_
              rintro e w6 ⟨rfl, rfl⟩
              go_wp2_with fail
              refine (epoch_nil _).mono ?_
              rintro e w6 ⟨rfl, rfl⟩
              go_wp2_with fail
              refine (open_nil _).mono ?_
              rintro e w6 ⟨rfl, rfl⟩
              go_wp2_with fail
              refine (got_nil _).mono ?_
              rintro e w6 ⟨rfl, rfl⟩
              go_wp2_with fail
              refine (owes_nil _).mono ?_
              rintro e w6 ⟨rfl, rfl⟩
              go_wp2_with fail
              go_ret
              exact ⟨rfl, HB1.out.trans ((HR.out.bel.trans (HB5.out.mono HR.out.bel.size)).mono HB1.out.size)⟩

end Go.Proofs.Ytjlhipnlacfekaa.Tm
