/-
  The reference's 'Take': a text.
-/
import Derived.Test.YtjlhipnlacfekaaRj
import Derived.Deep.LoopGhost
namespace Go.Proofs.Ytjlhipnlacfekaa.Rf
open Go.RowKit Go.Maps Go.Proofs.Ytjlhipnlacfekaa.Md Go.Proofs.Ytjlhipnlacfekaa.Hp Go.Proofs.Ytjlhipnlacfekaa.Rp Go.Proofs.Ytjlhipnlacfekaa.Lbl Go.Proofs.Ytjlhipnlacfekaa.Wa Go.Proofs.Ytjlhipnlacfekaa.Tm
set_option linter.unusedSimpArgs false
set_option linter.unusedVariables false

theorem find_q {W : World} {v : Value} {l : List Tx} {F : Nat → Prop} (h : Sl W 2 v l.length (tcells l) F) (hl : l.length ≤ 100000000) (n : Nat) (i : Int) {fo : Option ByteArray} (hf : fo = fnd l i) :
    Calls Try.prog 30 #[v, .int .i64 i] (W.drewN n) fun e w' => e = .returned (.tuple #[.string (fo.getD ⟨#[]⟩), .bool fo.isSome]) ∧ w' = W.drewN n := by
  subst hf
  exact (find_any (h.keep (w' := W.drewN n) (Nat.le_refl _) fun _ _ _ => rfl) hl i).mono fun _ _ h => ⟨h.1, h.2.symm⟩

theorem lay_sim {E : En} {R R7 : Re} {c : Int} {u : Bool} {ep sq ak : Int} {b : ByteArray} {fo : Option ByteArray} {cb : Bool} (h : Sim (acked E ak) { R with l := abv R.l ak }) (h7 : R7 = { R with l := abv R.l ak, owed := true }) (hf : fo = fnd R7.early sq) (hc : cb = (!fo.isSome && decide ((R7.got : Int) < sq))) :
    (cb = true → Sim (laid (acked E ak) ⟨c, u, ep, sq, ak, b⟩) { R7 with early := R7.early ++ [(sq, b)] }) ∧ (cb = false → Sim (laid (acked E ak) ⟨c, u, ep, sq, ak, b⟩) R7) := by
  have h8 : Sim { acked E ak with owed := true } R7 := by rw [h7]; exact h.owe
  have hfe : fo = (acked E ak).early sq := hf.trans (h8.early sq)
  have hg : R7.got = (acked E ak).got := h8.got
  constructor
  · intro ht
    rw [hc, Bool.and_eq_true, decide_eq_true_iff] at ht
    have h0 : (acked E ak).early sq = none := by
      rw [← hfe]
      cases fo with
      | none => rfl
      | some s => simp at ht
    have h1 : ((acked E ak).got : Int) < sq := by rw [← hg]; exact ht.2
    unfold laid
    rw [if_pos ⟨h0, h1⟩]
    exact h8.lay sq b h0
  · intro ht
    unfold laid
    rw [if_neg]
    · exact h8
    · rintro ⟨h0, h1⟩
      have h0' : (acked E ak).early sq = none := h0
      have h1' : ((acked E ak).got : Int) < sq := h1
      rw [hc, hfe, h0', hg, decide_eq_true h1'] at ht
      cases ht

theorem take_start {E : En} {R9 : Re} {N : Nat} {c : Int} {u : Bool} {ep sq ak : Int} {b : ByteArray} (he : rightErr E ⟨c, u, ep, sq, ak, b⟩ = 0) (hq : sq ≠ 0) (ho : Ok E N) (hs : Sim (laid (acked E ak) ⟨c, u, ep, sq, ak, b⟩) R9) (hg : R9.got ≤ 1000000) :
    ∃ EF LF top, takeE E ⟨c, u, ep, sq, ak, b⟩ = EF ∧ takeL E ⟨c, u, ep, sq, ak, b⟩ = LF ∧ top ≤ 2000000 ∧ Hid (Dr EF LF top 33 (laid (acked E ak) ⟨c, u, ep, sq, ak, b⟩) [] R9) := by
  have ok : Ok (laid (acked E ak) ⟨c, u, ep, sq, ak, b⟩) N := (ho.acked ak).laid _ (by exact he)
  refine ⟨_, _, _, ?_, ?_, ?_, Lib.hid (Dr.start hs ok)⟩
  · unfold takeE
    rw [if_neg (by rw [he]; decide), if_neg hq]
  · unfold takeL
    rw [if_neg (by rw [he]; decide), if_neg hq]
  · rw [← hs.got]
    omega
theorem take_end {w0 : World} {L0 : Nat → Nat} {w : World} {bx : Nat} {E EF : En} {LF out : List ByteArray} {g : Gr} {L : Nat → Nat} {W : World} {p : Nat} {R R9 : Re} {v1 v4 v6 : Value} {N : Nat} (h : Pr w0 L0 w bx g L W p { R with early := abv R.early (R.got : Int) } v1 v4 v6 out) (he : rightErr E g = 0) (h1 : takeE E g = EF) (h2 : takeL E g = LF)
    (hs : LF = out ∧ Sim EF { R with early := abv R.early (R.got : Int) }) (hr : R.early = R9.early) (hn : R9.early.length ≤ N + 1) : RTakePost w0 L0 w p E N g (.returned (.tuple #[v6, .int .i64 0])) W := by
  refine h.post he (by rw [h1]; exact hs.2) ?_ (by rw [h2]; exact hs.1)
  have := abv_len R.early (R.got : Int)
  rw [hr] at this
  show (abv R.early (R.got : Int)).length ≤ N + 1
  rw [hr]
  omega

set_option maxHeartbeats 4000000 in
set_option maxRecDepth 20000 in
theorem rtake_long {w0 : World} {L : Nat → Nat} {w : World} {p : Nat} {R : Re} {E : En} {N : Nat} (h : RR w0 L w p R) (hs : Sim E R) (ho : Ok E N) (hN : N ≤ 10000) (hn : R.early.length ≤ N) (c : Int) (u : Bool) (ep sq ak : Int) (b : ByteArray) (he : rightErr E ⟨c, u, ep, sq, ak, b⟩ = 0) (hq : sq ≠ 0) :
    Calls Try.prog 22 #[.pointer (some ⟨p, 0, none⟩), .agg #[.int .i64 c, .bool u, .int .i64 ep, .int .i64 sq, .int .i64 ak, .string b]] w (RTakePost w0 L w p E N ⟨c, u, ep, sq, ak, b⟩) := by
  obtain ⟨v1, v4, hr⟩ := h
  have hz := right_zero he
  have hl := hs.len
  have hle := ho.le
  have hgv := ho.given
  have hgt := ho.got
  have hwin := ho.win
  have hg3 := hs.given
  have hg4 := hs.got
  have hak0 : 0 ≤ ak := hz.2.1
  have hak : ak ≤ (E.given : Int) := hz.2.2.1
  have hsq : sq ≤ (E.got : Int) + 32 := hz.2.2.2.2.1
  have hb8 : b.size ≤ 16384 := hz.2.2.2.2.2
  have hsq0 : 0 ≤ sq := hz.2.2.2.1
  have hep : ep = R.epoch := by rw [hs.epoch]; exact hz.1
  have HSIM := Lib.hid (hs.ackedI ak hak0 hle hak)
  have HE := Lib.hid he
  have HQ := Lib.hid hq
  have HN := Lib.hid hn
  have HO := Lib.hid ho
  have hne : (ep != R.epoch) = false := by rw [hep]; simp
  have d1 : decide (sq < 0) = false := decide_eq_false (by omega)
  have d2 : decide (ak < 0) = false := decide_eq_false (by omega)
  have d3 : decide ((R.given : Int) < ak) = false := decide_eq_false (by omega)
  have d4 : decide ((R.got : Int) + 32 < sq) = false := decide_eq_false (by omega)
  have d5 : (sq == 0) = false := beq_eq_false_iff_ne.2 hq
  have b1 : R.given ≤ 1000000 := by omega
  have b2 : R.got ≤ 1000000 := by omega
  have b3 : R.l.length ≤ 1000000 := by omega
  have b8 : ¬ 16384 < b.size := by omega
  obtain ⟨La, HP1⟩ : ∃ La, Hid (Pr w0 L w w.heap.size ⟨c, u, ep, sq, ak, b⟩ La (w.alloc (.cells #[.int .i64 c, .bool u, .int .i64 ep, .int .i64 sq, .int .i64 ak, .string b] 41)) p R v1 v4 (.slice none 0 0) []) := ⟨_, Lib.hid (Pr.start hr _)⟩
  obtain ⟨a1, c1, rfl⟩ := hr.s1.slice
  clear hr hs he hz hep hb8 hsq0 hl hle hgv hgt hwin hg3 hg4 ho hq hak0 hak hsq hn
  go_enter Try.func22, Try.ntmps22
  go_wp2_with fail
  generalize w.alloc (.cells #[.int .i64 c, .bool u, .int .i64 ep, .int .i64 sq, .int .i64 ak, .string b] 41) = W1 at HP1 ⊢
  obtain ⟨bx, hbx⟩ : ∃ bx, bx = w.heap.size := ⟨_, rfl⟩
  rw [← hbx] at HP1 ⊢
  clear hbx
  have x2 := HP1.out.x 2 _ rfl
  have y0 := HP1.out.rep.c0
  go_quiet (fail)
  obtain ⟨Lb2, HP2⟩ : ∃ La, Hid (Pr w0 L w bx ⟨c, u, ep, sq, ak, b⟩ La (W1.drewN nq) p R (.slice a1 R.l.length c1) v4 (.slice none 0 0) []) := ⟨_, Lib.hid (HP1.out.stay (below_drewN W1 nq) 9)⟩
  generalize W1.drewN nq = W2 at HP2 ⊢
  clear x2 y0 nq HP1
  have x3 := HP2.out.x 3 _ rfl
  have x4 := HP2.out.x 4 _ rfl
  have x5 := HP2.out.x 5 _ rfl
  have y2 := HP2.out.rep.c2
  have y3 := HP2.out.rep.c3
  go_wp2_with fail
  go_quiet (fail)
  obtain ⟨Lb3, HP3⟩ : ∃ La, Hid (Pr w0 L w bx ⟨c, u, ep, sq, ak, b⟩ La (W2.drewN nq) p R (.slice a1 R.l.length c1) v4 (.slice none 0 0) []) := ⟨_, Lib.hid (HP2.out.stay (below_drewN W2 nq) 9)⟩
  generalize W2.drewN nq = W3 at HP3 ⊢
  clear x3 x4 x5 y2 y3 nq HP2
  have x5 := HP3.out.x 5 _ rfl
  go_wp2_with fail
  go_cut [] from 61 (fun W5 => ∃ (Lx : Nat → Nat) (v' : Value), Hid (Pr w0 L w bx ⟨c, u, ep, sq, ak, b⟩ Lx W5 p { R with l := abv R.l ak } v' v4 (.slice none 0 0) []))
  case first =>
    have HP4 := Lib.hid (HP3.out.stay (below_drew W3) 9)
    have HA := Lib.hid (above_any HP4.out.rep.s1 b3 ak)
    have x4 := HP3.out.x 4 _ rfl
    have y1 := HP3.out.rep.c1
    go_region_law (go_simp; go_at_call 29; refine HA.out.mono ?_; rintro e w5 ⟨v', rfl, hsl, hbl⟩; obtain ⟨a5, c5, rfl⟩ := hsl.slice; have HS5 := Lib.hid hsl; have HB5 := Lib.hid hbl; have H5 := Lib.hid (HP4.out.stay hbl 13); have z1 := H5.out.rep.c1; have f1 := H5.out.rep.fz 1; clear hsl hbl H5)
    all_goals
      go_wp2_with fail
      go_meet
      exact ⟨_, _, Lib.hid (HP4.out.setL HB5.out HS5.out)⟩
  case rest =>
    obtain ⟨Lx, v5, HP5⟩ := hcut
    obtain ⟨Ly, HP6⟩ : ∃ La, Hid (Pr w0 L w bx ⟨c, u, ep, sq, ak, b⟩ La (wc.alloc (.cells #[] 9)) p { R with l := abv R.l ak } v5 v4 (.slice (some ⟨wc.heap.size, 0, none⟩) 0 0) []) := ⟨_, Lib.hid ((HP5.out.stay (below_box wc (.cells #[] 9)) 9).nil (some ⟨wc.heap.size, 0, none⟩))⟩
    have x3 := HP6.out.x 3 _ rfl
    have y5 := HP6.out.rep.c5
    have f5 := HP6.out.rep.fz 5
    go_wp2_with fail
    obtain ⟨R7, hR7⟩ : ∃ R7 : Re, R7 = { R with l := abv R.l ak, owed := true } := ⟨_, rfl⟩
    have HR7 := Lib.hid hR7
    have HP7 : Hid (Pr w0 L w bx ⟨c, u, ep, sq, ak, b⟩ Ly ((wc.alloc (.cells #[] 9)).setCell ⟨p, 5, none⟩ (.bool true)) p R7 v5 v4 (.slice (some ⟨wc.heap.size, 0, none⟩) 0 0) []) := Lib.hid (by rw [hR7]; exact HP6.out.owed true)
    have g7 : R7.got ≤ 1000000 := by rw [hR7]; exact b2
    have l7 : R7.early.length ≤ 100000 := by rw [hR7]; have := HN.out; show R.early.length ≤ 100000; omega
    generalize (wc.alloc (.cells #[] 9)).setCell ⟨p, 5, none⟩ (.bool true) = W7 at HP7 ⊢
    obtain ⟨a6, ha6⟩ : ∃ a6, a6 = some (⟨wc.heap.size, 0, none⟩ : Addr) := ⟨_, rfl⟩
    rw [← ha6] at HP7 ⊢
    clear x3 y5 f5 HP5 HP6 hR7 ha6
    obtain ⟨a4, c4, rfl⟩ := HP7.out.rep.s4.slice
    have x3 := HP7.out.x 3 _ rfl
    have y4 := HP7.out.rep.c4
    obtain ⟨fo, hfo⟩ : ∃ fo, fo = fnd R7.early sq := ⟨_, rfl⟩
    have HF := Lib.hid (fun n => find_q HP7.out.rep.s4 (by omega) n sq hfo)
    have HFO := Lib.hid hfo
    clear hfo
    go_quiet (first | (go_at_call 30; with_reducible refine Calls.quiet_of_same (HF.out _)))
    obtain ⟨Lz, HP8⟩ : ∃ La, Hid (Pr w0 L w bx ⟨c, u, ep, sq, ak, b⟩ La (W7.drewN nq) p R7 v5 (.slice a4 R7.early.length c4) (.slice a6 0 0) []) := ⟨_, Lib.hid (HP7.out.stay (below_drewN W7 nq) 9)⟩
    generalize W7.drewN nq = W8 at HP8 ⊢
    clear x3 y4 HF nq HP7
    go_upto_region 15 with fail
    obtain ⟨cb, hcb⟩ : ∃ cb : Bool, cb = (!fo.isSome && decide ((R7.got : Int) < sq)) := ⟨_, rfl⟩
    go_cut [99] from 89 (fun v99 wx => v99 = .bool cb ∧ ∃ n, wx = W8.drewN n)
    case first =>
      have x3 := HP8.out.x 3 _ rfl
      have y3 := HP8.out.rep.c3
      cases fo with
      | some s =>
        simp only [Option.isSome_some, Bool.not_true, Bool.false_and] at hcb
        subst hcb
        simp only [Option.isSome_some]
        go_quiet (fail)
        go_wp2_with fail
        go_meet
        exact ⟨rfl, _, rfl⟩
      | none =>
        by_cases hlt : (R7.got : Int) < sq
        · have hd : decide ((R7.got : Int) < sq) = true := decide_eq_true hlt
          rw [hd] at hcb
          simp only [Option.isSome_none, Bool.not_false, Bool.true_and] at hcb
          subst hcb
          simp only [Option.isSome_none]
          go_quiet (fail)
          go_wp2_with fail
          go_meet
          exact ⟨rfl, _, rfl⟩
        · have hd : decide ((R7.got : Int) < sq) = false := decide_eq_false hlt
          rw [hd] at hcb
          simp only [Option.isSome_none, Bool.not_false, Bool.true_and] at hcb
          subst hcb
          simp only [Option.isSome_none]
          go_quiet (fail)
          go_wp2_with fail
          go_meet
          exact ⟨rfl, _, rfl⟩
    case rest =>
      obtain ⟨rfl, n9, rfl⟩ := hcut
      obtain ⟨Lv, HP9⟩ : ∃ La, Hid (Pr w0 L w bx ⟨c, u, ep, sq, ak, b⟩ La (W8.drewN n9) p R7 v5 (.slice a4 R7.early.length c4) (.slice a6 0 0) []) := ⟨_, Lib.hid (HP8.out.stay (below_drewN W8 n9) 9)⟩
      generalize W8.drewN n9 = W9 at HP9 ⊢
      clear HP8
      have HSL := Lib.hid (lay_sim (c := c) (u := u) (ep := ep) (b := b) HSIM.out HR7.out HFO.out hcb)
      have HCB := Lib.hid hcb
      clear hcb
      go_upto_if 99 with fail
      go_cut [] from 79 (fun wx => ∃ (Lx : Nat → Nat) (R9 : Re) (v9 : Value), Hid (Pr w0 L w bx ⟨c, u, ep, sq, ak, b⟩ Lx wx p R9 v5 v9 (.slice a6 0 0) []) ∧ Hid (Sim (laid (acked E ak) ⟨c, u, ep, sq, ak, b⟩) R9) ∧ R9.early.length ≤ N + 1 ∧ R9.got ≤ 1000000)
      case first =>
        cases cb with
        | false =>
          go_wp2_with fail
          go_meet
          exact ⟨_, _, _, HP9, Lib.hid (HSL.out.2 (by trivial)), by rw [HR7.out]; have := HN.out; show R.early.length ≤ N + 1; omega, g7⟩
        | true =>
          have HPA := Lib.hid (HP9.out.stay ((below_box W9 (.cells #[.int .i64 sq, .string b] 71)).drew) 9)
          have x3 := HP9.out.x 3 _ rfl
          have x5 := HP9.out.x 5 _ rfl
          have y4 := HP9.out.rep.c4
          have z3 : (W9.alloc (.cells #[.int .i64 sq, .string b] 71)).cell? ⟨bx, 3, none⟩ = some (.int .i64 sq) := by have := HPA.out.x 3 _ rfl; exact this
          have z5 : (W9.alloc (.cells #[.int .i64 sq, .string b] 71)).cell? ⟨bx, 5, none⟩ = some (.string b) := by have := HPA.out.x 5 _ rfl; exact this
          have z4 : (W9.alloc (.cells #[.int .i64 sq, .string b] 71)).cell? ⟨p, 4, none⟩ = some (.slice a4 R7.early.length c4) := by have := HPA.out.rep.c4; exact this
          have HSR : Hid (Hp.Src (W9.alloc (.cells #[.int .i64 sq, .string b] 71)).drew (.slice (some ⟨W9.heap.size, 0, none⟩) 1 1) 1 (#[.int .i64 sq, .string b] : Array Value).toList) := Lib.hid (src_many W9 _ 71)
          have q1 : R7.early.length + 1 ≤ maxLen := by unfold maxLen; omega
          have q2 : (R7.early.length + 1) * 24 ≤ 140737488355328 := by omega
          clear d1 d2 d3 d4 d5 hne
          go_wp2_with fail
          go_region_law (refine step_append_sl rfl _ _ 55 rfl 71 _ 2 24 Try.underlying55 info71 rfl (by decide) rfl rfl HPA.out.rep.s4 HSR.out rfl (one_tx sq b) q1 q2 ?_; intro v7 w7 hsl hch; obtain ⟨ao7, cap7, rfl⟩ := hsl.slice; have HA := Lib.hid (HPA.out.app hch); have z7 := HA.out.c4; have f7 := HA.out.fz 4; have HS7 := Lib.hid hsl; have HC7 := Lib.hid hch; clear hsl hch q1 q2 HA)
          all_goals
            go_wp2_with fail
            go_meet
            exact ⟨_, _, _, Lib.hid (HPA.out.setApp HC7.out HS7.out), Lib.hid (HSL.out.1 (by trivial)), by rw [HR7.out]; have := HN.out; show (R.early ++ [(sq, b)]).length ≤ N + 1; rw [List.length_append]; show R.early.length + 1 ≤ N + 1; omega, g7⟩
      case rest =>
        obtain ⟨Ls, R9, v9, HP9, HS9, n9', g9⟩ := hcut
        obtain ⟨EF, LF, top, hEF, hLF, htop, HD0⟩ : ∃ EF LF top, takeE E ⟨c, u, ep, sq, ak, b⟩ = EF ∧ takeL E ⟨c, u, ep, sq, ak, b⟩ = LF ∧ top ≤ 2000000 ∧ Hid (Dr EF LF top 33 (laid (acked E ak) ⟨c, u, ep, sq, ak, b⟩) [] R9) := take_start HE.out HQ.out HO.out HS9.out g9
        have HEF := Lib.hid hEF
        have HLF := Lib.hid hLF
        obtain ⟨a9, c9, rfl⟩ := HP9.out.rep.s4.slice
        have y3 := HP9.out.rep.c3
        have y4 := HP9.out.rep.c4
        obtain ⟨fo2, hfo2⟩ : ∃ fo2, fo2 = fnd R9.early ((R9.got : Int) + 1) := ⟨_, rfl⟩
        have HF := Lib.hid (fun n => find_q HP9.out.rep.s4 (by omega) n ((R9.got : Int) + 1) hfo2)
        have HFO2 := Lib.hid hfo2
        have s1 : IntKind.i64.wrap ((R9.got : Int) + 1) = (R9.got : Int) + 1 := by rw [IntKind.wrap_i64]; omega
        clear hEF hLF hfo2 HFO HSL HCB HSIM HR7 HS9 g7 l7
        go_wp2_with fail
        go_quiet (first | (go_at_call 30; with_reducible refine Calls.quiet_of_same (HF.out _)))
        obtain ⟨L10, HP10⟩ : ∃ La, Hid (Pr w0 L w bx ⟨c, u, ep, sq, ak, b⟩ La (wc.drewN nq) p R9 v5 (.slice a9 R9.early.length c9) (.slice a6 0 0) []) := ⟨_, Lib.hid (HP9.out.stay (below_drewN wc nq) 9)⟩
        generalize wc.drewN nq = W10 at HP10 ⊢
        clear y3 y4 s1 HF nq HP9
        go_wp2_with fail
        go_loopg [6, 9, 10] 33 (fun kq v6 v9 v10 wr => ∃ (e : En) (out : List ByteArray) (R : Re) (L4 : Nat → Nat), v9 = .string ((fnd R.early ((R.got : Int) + 1)).getD ⟨#[]⟩) ∧ v10 = .bool (fnd R.early ((R.got : Int) + 1)).isSome ∧ Hid (Pr w0 L w bx ⟨c, u, ep, sq, ak, b⟩ L4 wr p R v5 (.slice a9 R9.early.length c9) v6 out) ∧ Hid (Dr EF LF top kq e out R) ∧ Hid (R.early = R9.early))
        case atStart => exact ⟨_, [], R9, L10, by rw [HFO2.out], by rw [HFO2.out], HP10, HD0, Lib.hid rfl⟩
        case round =>
          clear HP10 HD0
          obtain ⟨e, out, R1, L4, rfl, rfl, HP, HD, HRE⟩ := hrel
          obtain ⟨ao6, c6, rfl⟩ := HP.out.sl.slice
          have hgo := HD.out.goton
          obtain ⟨hg1, ho1⟩ := hgo
          have hel : R1.early.length ≤ 100000 := by rw [HRE.out]; omega
          obtain ⟨fo3, hfo3⟩ : ∃ fo3, fo3 = fnd R1.early ((R1.got : Int) + 1) := ⟨_, rfl⟩
          rw [← hfo3]
          have HFO3 := Lib.hid hfo3
          clear hfo3
          cases fo3 with
          | none =>
            simp only [Option.isSome_none, Option.getD_none]
            have HST := Lib.hid (HD.out.stop HFO3.out.symm)
            have HP4 := Lib.hid (HP.out.stay (below_drew wr) 9)
            have HA := Lib.hid (above_any HP4.out.rep.s4 (by omega) (R1.got : Int))
            have y3 := HP.out.rep.c3
            have y4 := HP.out.rep.c4
            go_wp2_with fail
            go_region_law (go_simp; go_at_call 29; refine HA.out.mono ?_; rintro e w5 ⟨v', rfl, hsl, hbl⟩; obtain ⟨a5, c5, rfl⟩ := hsl.slice; have HS5 := Lib.hid hsl; have HB5 := Lib.hid hbl; have H5 := Lib.hid (HP4.out.stay hbl 14); have z4 := H5.out.rep.c4; have f4 := H5.out.rep.fz 4; clear hsl hbl H5)
            all_goals
              go_wp2_with fail
              go_ret2
              exact take_end (HP4.out.setE HB5.out HS5.out) HE.out HEF.out HLF.out HST.out HRE.out n9'
          | some s =>
            simp only [Option.isSome_some, Option.getD_some]
            have HD2 := Lib.hid (HD.out.step HFO3.out.symm)
            have HP5 := Lib.hid (HP.out.stay (below_box wr (.cells #[.string s] 9)) 9)
            have q1 : out.length + 1 ≤ maxLen := by unfold maxLen; omega
            have q2 : (out.length + 1) * 16 ≤ 140737488355328 := by omega
            go_wp2_with (at_builtin; refine wpList_append_sl _ rfl _ _ 34 rfl 9 (.string ⟨#[]⟩) 1 16 Try.underlying34 info9 rfl (by decide) rfl rfl HP5.out.sl (src_one wr (.string s) 9) rfl (one1 s) q1 q2 ?_; intro v' w6 hsl hch; have HP6 := Lib.hid (HP5.out.more hch hsl); have y3 := HP6.out.rep.c3; have f3 := HP6.out.rep.fz 3; clear hsl hch q1 q2)
            obtain ⟨gn, hgn⟩ : ∃ gn, gn = R1.got + 1 := ⟨_, rfl⟩
            obtain ⟨L7, HP7⟩ : ∃ La, Hid (Pr w0 L w bx ⟨c, u, ep, sq, ak, b⟩ La (w6.setCell ⟨p, 3, none⟩ (.int .i64 ((R1.got : Int) + 1))) p { R1 with got := gn } v5 (.slice a9 R9.early.length c9) v' (out ++ [s])) := ⟨_, Lib.hid (HP6.out.got gn _ (by rw [hgn]; rfl))⟩
            have hgn2 : gn ≤ 3000000 := by omega
            have HGN := Lib.hid hgn
            generalize w6.setCell ⟨p, 3, none⟩ (.int .i64 ((R1.got : Int) + 1)) = W7 at HP7 ⊢
            clear y3 f3 HP6 HP5 HP hgn
            have y3 := HP7.out.rep.c3
            have y4 := HP7.out.rep.c4
            obtain ⟨fo4, hfo4⟩ : ∃ fo4, fo4 = fnd R1.early ((gn : Int) + 1) := ⟨_, rfl⟩
            have HF := Lib.hid (fun n => find_q HP7.out.rep.s4 (show R1.early.length ≤ 100000000 by omega) n ((gn : Int) + 1) hfo4)
            have HFO4 := Lib.hid hfo4
            have s1 : IntKind.i64.wrap ((gn : Int) + 1) = (gn : Int) + 1 := by rw [IntKind.wrap_i64]; omega
            clear hfo4
            go_quiet (first | (go_at_call 30; with_reducible refine Calls.quiet_of_same (HF.out _)))
            obtain ⟨L11, HP11⟩ : ∃ La, Hid (Pr w0 L w bx ⟨c, u, ep, sq, ak, b⟩ La (W7.drewN nq) p { R1 with got := gn } v5 (.slice a9 R9.early.length c9) v' (out ++ [s])) := ⟨_, Lib.hid (HP7.out.stay (below_drewN W7 nq) 9)⟩
            go_wp2_with fail
            go_roundg (gk - 1)
            case measure => have := HD2.out.1; omega
            case rel => exact ⟨_, _, { R1 with got := gn }, L11, by rw [HFO4.out], by rw [HFO4.out], HP11, Lib.hid (by rw [HGN.out]; exact HD2.out.2), HRE⟩

end Go.Proofs.Ytjlhipnlacfekaa.Rf
