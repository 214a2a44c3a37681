/-
  The reference's 'Take': a bare acknowledgement.
-/
import Derived.Test.YtjlhipnlacfekaaRi
import Derived.Deep.Cut
namespace Go.Proofs.Ytjlhipnlacfekaa.Rf
open Go.RowKit Go.Maps Go.Proofs.Ytjlhipnlacfekaa.Md Go.Proofs.Ytjlhipnlacfekaa.Hp Go.Proofs.Ytjlhipnlacfekaa.Rp Go.Proofs.Ytjlhipnlacfekaa.Lbl Go.Proofs.Ytjlhipnlacfekaa.Wa Go.Proofs.Ytjlhipnlacfekaa.Tm
set_option linter.unusedSimpArgs false
set_option linter.unusedVariables false

theorem Pr.nil {w0 : World} {L0 : Nat → Nat} {w : World} {bx : Nat} {g : Gr} {L : Nat → Nat} {W : World} {p : Nat} {R : Re} {v1 v4 v6 : Value} (h : Pr w0 L0 w bx g L W p R v1 v4 v6 []) (a : Option Addr) : Pr w0 L0 w bx g L W p R v1 v4 (.slice a 0 0) [] :=
  ⟨h.rep, h.kept, h.box, h.lbx, ⟨by simp, a, 0, rfl, .inl ⟨rfl, rfl⟩⟩⟩
theorem below_box (W : World) (o : Obj) : Below W.heap.size W (W.alloc o) := (Below.refl _ _).alloc (Nat.le_refl _) _
theorem below_drew (W : World) : Below W.heap.size W W.drew := (Below.refl _ _).drew

theorem Sim.ackedI {E : En} {R : Re} (h : Sim E R) (ak : Int) (h0 : 0 ≤ ak) (hle : E.opn.length ≤ E.given) (ha : ak ≤ (E.given : Int)) : Sim (Md.acked E ak) { R with l := abv R.l ak } := by
  obtain ⟨n, rfl⟩ := Int.eq_ofNat_of_zero_le h0
  exact h.acked n hle (by simpa using ha)
theorem zero_of {w0 : World} {L0 : Nat → Nat} {w : World} {bx : Nat} {E : En} {c : Int} {u : Bool} {ep sq ak : Int} {b : ByteArray} {L : Nat → Nat} {W : World} {p : Nat} {R : Re} {v1 v4 v6 : Value} {N : Nat} (h : Pr w0 L0 w bx ⟨c, u, ep, sq, ak, b⟩ L W p R v1 v4 v6 []) (he : rightErr E ⟨c, u, ep, sq, ak, b⟩ = 0) (hq : sq = 0) (hs : Sim (acked E ak) R) (hn : R.early.length ≤ N) :
    RTakePost w0 L0 w p E N ⟨c, u, ep, sq, ak, b⟩ (.returned (.tuple #[v6, .int .i64 0])) W := by
  refine h.post he ?_ (by omega) ?_
  · unfold takeE
    rw [if_neg (by rw [he]; decide), if_pos hq]
    exact hs
  · unfold takeL
    rw [if_neg (by rw [he]; decide), if_pos hq]

set_option maxHeartbeats 4000000 in
set_option maxRecDepth 20000 in
theorem rtake_zero {w0 : World} {L : Nat → Nat} {w : World} {p : Nat} {R : Re} {E : En} {N : Nat} (h : RR w0 L w p R) (hs : Sim E R) (ho : Ok E N) (hN : N ≤ 10000) (hn : R.early.length ≤ N) (c : Int) (u : Bool) (ep sq ak : Int) (b : ByteArray) (he : rightErr E ⟨c, u, ep, sq, ak, b⟩ = 0) (hq : sq = 0) :
    Calls Try.prog 22 #[.pointer (some ⟨p, 0, none⟩), .agg #[.int .i64 c, .bool u, .int .i64 ep, .int .i64 sq, .int .i64 ak, .string b]] w (RTakePost w0 L w p E N ⟨c, u, ep, sq, ak, b⟩) := by
  obtain ⟨v1, v4, hr⟩ := h
  have hz := right_zero he
  have hl := hs.len
  have hle := ho.le
  have hgv := ho.given
  have hgt := ho.got
  have hwin := ho.win
  have hg3 := hs.given
  have hg4 := hs.got
  have hak0 : 0 ≤ ak := hz.2.1
  have hak : ak ≤ (E.given : Int) := hz.2.2.1
  have hsq : sq ≤ (E.got : Int) + 32 := hz.2.2.2.2.1
  have hb0 : b.size = 0 := by
    have h1 : ¬ bad E ⟨c, u, ep, sq, ak, b⟩ = true := fun x => by
      unfold rightErr at he
      rw [if_neg (fun y => y hz.1), if_pos x] at he
      cases he
    exact Classical.byContradiction fun y => h1 (decide_eq_true (.inr (.inr (.inr (.inr ⟨hq, y⟩)))))
  have hep : ep = R.epoch := by rw [hs.epoch]; exact hz.1
  have HSIM := Lib.hid (hs.ackedI ak hak0 hle hak)
  have HE := Lib.hid he
  have HQ := Lib.hid hq
  have HN := Lib.hid hn
  have e2 : b.toList.isEmpty = true := by rw [Wa.isEmpty_iff]; exact decide_eq_true hb0
  have e1 : (!b.toList.isEmpty) = false := by rw [e2]; rfl
  have hne : (ep != R.epoch) = false := by rw [hep]; simp
  have d1 : decide (sq < 0) = false := decide_eq_false (by omega)
  have d2 : decide (ak < 0) = false := decide_eq_false (by omega)
  have d3 : decide ((R.given : Int) < ak) = false := decide_eq_false (by omega)
  have d4 : decide ((R.got : Int) + 32 < sq) = false := decide_eq_false (by omega)
  have d5 : (sq == 0) = true := beq_iff_eq.2 hq
  have b1 : R.given ≤ 1000000 := by omega
  have b2 : R.got ≤ 1000000 := by omega
  have b3 : R.l.length ≤ 1000000 := by omega
  have b8 : ¬ 16384 < b.size := by omega
  obtain ⟨La, HP1⟩ : ∃ La, Hid (Pr w0 L w w.heap.size ⟨c, u, ep, sq, ak, b⟩ La (w.alloc (.cells #[.int .i64 c, .bool u, .int .i64 ep, .int .i64 sq, .int .i64 ak, .string b] 41)) p R v1 v4 (.slice none 0 0) []) := ⟨_, Lib.hid (Pr.start hr _)⟩
  obtain ⟨a1, c1, rfl⟩ := hr.s1.slice
  clear hr hs he hz hep hb0 hl hle hgv hgt hwin hg3 hg4 ho hq hak0 hak hsq hn
  go_enter Try.func22, Try.ntmps22
  go_wp2_with fail
  generalize w.alloc (.cells #[.int .i64 c, .bool u, .int .i64 ep, .int .i64 sq, .int .i64 ak, .string b] 41) = W1 at HP1 ⊢
  obtain ⟨bx, hbx⟩ : ∃ bx, bx = w.heap.size := ⟨_, rfl⟩
  rw [← hbx] at HP1 ⊢
  clear hbx
  have x2 := HP1.out.x 2 _ rfl
  have y0 := HP1.out.rep.c0
  go_quiet (fail)
  obtain ⟨Lb2, HP2⟩ : ∃ La, Hid (Pr w0 L w bx ⟨c, u, ep, sq, ak, b⟩ La (W1.drewN nq) p R (.slice a1 R.l.length c1) v4 (.slice none 0 0) []) := ⟨_, Lib.hid (HP1.out.stay (below_drewN W1 nq) 9)⟩
  generalize W1.drewN nq = W2 at HP2 ⊢
  clear x2 y0 nq HP1
  have x3 := HP2.out.x 3 _ rfl
  have x4 := HP2.out.x 4 _ rfl
  have x5 := HP2.out.x 5 _ rfl
  have y2 := HP2.out.rep.c2
  have y3 := HP2.out.rep.c3
  go_wp2_with fail
  go_quiet (fail)
  obtain ⟨Lb3, HP3⟩ : ∃ La, Hid (Pr w0 L w bx ⟨c, u, ep, sq, ak, b⟩ La (W2.drewN nq) p R (.slice a1 R.l.length c1) v4 (.slice none 0 0) []) := ⟨_, Lib.hid (HP2.out.stay (below_drewN W2 nq) 9)⟩
  generalize W2.drewN nq = W3 at HP3 ⊢
  clear x3 x4 x5 y2 y3 nq HP2
  have x5 := HP3.out.x 5 _ rfl
  go_wp2_with fail
  go_cut [] from 61 (fun W5 => ∃ (Lx : Nat → Nat) (v' : Value), Hid (Pr w0 L w bx ⟨c, u, ep, sq, ak, b⟩ Lx W5 p { R with l := abv R.l ak } v' v4 (.slice none 0 0) []))
  case first =>
    have HP4 := Lib.hid (HP3.out.stay (below_drew W3) 9)
    have HA := Lib.hid (above_any HP4.out.rep.s1 b3 ak)
    have x4 := HP3.out.x 4 _ rfl
    have y1 := HP3.out.rep.c1
    go_region_law (go_simp; go_at_call 29; refine HA.out.mono ?_; rintro e w5 ⟨v', rfl, hsl, hbl⟩; obtain ⟨a5, c5, rfl⟩ := hsl.slice; have HS5 := Lib.hid hsl; have HB5 := Lib.hid hbl; have H5 := Lib.hid (HP4.out.stay hbl 13); have z1 := H5.out.rep.c1; have f1 := H5.out.rep.fz 1; clear hsl hbl H5)
    all_goals
      go_wp2_with fail
      go_meet
      exact ⟨_, _, Lib.hid (HP4.out.setL HB5.out HS5.out)⟩
  case rest =>
    obtain ⟨Lx, v5, HP5⟩ := hcut
    have HP6 := Lib.hid ((HP5.out.stay (below_box wc (.cells #[] 9)) 9).nil (some ⟨wc.heap.size, 0, none⟩))
    have x3 := HP6.out.x 3 _ rfl
    go_wp2_with fail
    go_ret2
    exact zero_of HP6.out HE.out HQ.out HSIM.out HN.out

end Go.Proofs.Ytjlhipnlacfekaa.Rf
