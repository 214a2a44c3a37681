/-
  CordExact: every row of calls: the walk.
-/
import Derived.Test.YtjlhipnlacfekaaXb
import Derived.Test.YtjlhipnlacfekaaAw
import Derived.Test.YtjlhipnlacfekaaEa
import Derived.Deep.CutRange
namespace Go.Proofs.Ytjlhipnlacfekaa.Rf
open Go.RowKit Go.Maps Go.Proofs.Ytjlhipnlacfekaa.Md Go.Proofs.Ytjlhipnlacfekaa.Hp Go.Proofs.Ytjlhipnlacfekaa.Rp Go.Proofs.Ytjlhipnlacfekaa.Lbl Go.Proofs.Ytjlhipnlacfekaa.Wa Go.Proofs.Ytjlhipnlacfekaa.Tm
set_option linter.unusedSimpArgs false
set_option linter.unusedVariables false

def Acts (w : World) (ax : Option Addr) (n : Nat) : Prop :=
  ∀ i, i < n → ∃ x k s c u ep sq ak b, ax = some x ∧ ∀ f v, f < 8 → (acells k s c u ep sq ak b)[f]? = some v → w.cell? ((x.add (i * 8)).add f) = some v
theorem Acts.keep {w w' : World} {ax : Option Addr} {n : Nat} (h : Acts w ax n) (hb : Below w.heap.size w w') : Acts w' ax n := by
  intro i hi
  obtain ⟨x, k, s, c, u, ep, sq, ak, b, e, hf⟩ := h i hi
  exact ⟨x, k, s, c, u, ep, sq, ak, b, e, fun f v h8 hv => keep_cell hb (hf f v h8 hv)⟩

theorem same_q {w : World} {va vb : Value} {l l2 : List Gr} {F G : Nat → Prop} (ha : Sl w 6 va l.length (gcells l) F) (hb : Sl w 6 vb l2.length (gcells l2) G) (he : l2 = l) (hl : l.length ≤ 100000000) :
    Calls Try.prog 20 #[va, vb] w fun e w' => e = .returned (.bool true) ∧ Sm w w' := by
  subst he
  exact same_true ha hb hl
theorem rsend_q {w0 : World} {L : Nat → Nat} {w : World} {p : Nat} {R : Re} (h : RR w0 L w p R) (hg : R.given ≤ 100000) (s : ByteArray) {cz : Int} (hc : cz = rsendErr R s) :
    Calls Try.prog 19 #[.pointer (some ⟨p, 0, none⟩), .string s] w fun e w' => e = .returned (.int .i64 cz) ∧ ∃ L', RR w0 L' w' p (rsent R s) ∧ KeptR L w L' w' := by
  subst hc
  exact rsend_any h hg s

set_option maxHeartbeats 20000000 in
set_option maxRecDepth 20000 in
theorem exact_loop (ep : Int) (h1 : 1 ≤ ep) (h2 : ep ≤ 1073741824) (ax : Option Addr) (n cx : Nat) (w : World) (hn : n ≤ maxLen) (hx : Acts w ax n) :
    Calls Try.prog 5 #[.int .i64 ep, .slice ax n cx] w fun e w' => e = .returned (.bool true) ∧ Below w.heap.size w w' := by
  have HX := Lib.hid hx
  have hn2 : n ≤ 9223372036854775807 := by have := hn; unfold maxLen at this; omega
  clear hx hn
  have HN1 := Lib.hid (new_any ep h1 h2)
  have HN2 := Lib.hid (rnew_some ep h1 h2)
  clear h1 h2
  go_enter Try.func5, Try.ntmps5
  go_wp2_with fail
  refine (awake_any w).mono ?_
  rintro e w1 ⟨rfl, hb1⟩
  have HB1 := Lib.hid hb1
  have HX1 := Lib.hid (HX.out.keep hb1)
  clear hb1
  go_wp2_with fail
  refine (HN1.out w1 0).mono ?_
  rintro e w2 ⟨rfl, hr, hb2⟩
  have HRN := Lib.hid hr
  have HB2 := Lib.hid hb2
  clear hr hb2
  go_wp2_with fail
  refine (HN2.out w2).mono ?_
  rintro e w3 ⟨rfl, rfl⟩
  obtain ⟨L0, hboth⟩ := both_start HRN.out HB2.out
  have HBO := Lib.hid hboth
  clear hboth HRN HB2 HN1 HN2
  go_wp2_with fail
  generalize w2.alloc (.cells #[.int .i64 ep, .slice none 0 0, .int .i64 0, .int .i64 0, .slice none 0 0, .bool false] 57) = w3 at HBO ⊢
  generalize w2.heap.size = pr at HBO ⊢
  obtain ⟨pe, hpe⟩ : ∃ pe, pe = w1.heap.size + 1 := ⟨_, rfl⟩
  rw [← hpe] at HBO ⊢
  clear hpe
  go_loopg [7] 150 (fun kq v7 wr => ∃ (i : Nat) (L : Nat → Nat) (E : En) (R : Re), v7 = .int .i64 (i : Int) ∧ kq + i ≤ 150 ∧ 150 ≤ kq + i ∧ Hid (Both w1 L wr pe pr ep E R i))
  case atStart => exact ⟨0, L0, newE ep, newR ep, rfl, by omega, by omega, HBO⟩
  case round =>
    clear HBO
    obtain ⟨i, L, E, R, rfl, hk1, hk2, HBO⟩ := hrel
    by_cases hi : i < n
    · obtain ⟨x, k, s, c, u, ep1, sq, ak, b, rfl, hcells⟩ := (HX1.out.keep HBO.out.rr.bel) i hi
      by_cases h150 : i < 150
      · have d1 : decide (i < n) = true := decide_eq_true hi
        have d2 : decide ((i : Int) < 150) = true := decide_eq_true (by omega)
        have x0 : wr.cell? (x.add (i * 8)) = some (.int .i64 k) := by have := hcells 0 _ (by decide) rfl; simpa [Addr.add] using this
        have x1 : wr.cell? ⟨(x.add (i * 8)).block, (x.add (i * 8)).off + 1, none⟩ = some (.string s) := hcells 1 _ (by decide) rfl
        have x2 : wr.cell? ⟨(x.add (i * 8)).block, (x.add (i * 8)).off + 2, none⟩ = some (.int .i64 c) := hcells 2 _ (by decide) rfl
        have x3 : wr.cell? ⟨(x.add (i * 8)).block, (x.add (i * 8)).off + 3, none⟩ = some (.bool u) := hcells 3 _ (by decide) rfl
        have x4 : wr.cell? ⟨(x.add (i * 8)).block, (x.add (i * 8)).off + 4, none⟩ = some (.int .i64 ep1) := hcells 4 _ (by decide) rfl
        have x5 : wr.cell? ⟨(x.add (i * 8)).block, (x.add (i * 8)).off + 5, none⟩ = some (.int .i64 sq) := hcells 5 _ (by decide) rfl
        have x6 : wr.cell? ⟨(x.add (i * 8)).block, (x.add (i * 8)).off + 6, none⟩ = some (.int .i64 ak) := hcells 6 _ (by decide) rfl
        have x7 : wr.cell? ⟨(x.add (i * 8)).block, (x.add (i * 8)).off + 7, none⟩ = some (.string b) := hcells 7 _ (by decide) rfl
        clear hcells
        by_cases hs1 : 32768 < s.size
        · go_wp2_with fail
          go_ret
          exact ⟨rfl, HB1.out.trans ((HBO.out.rr.bel.trans ((below_box wr _).mono HBO.out.rr.bel.size)).mono HB1.out.size)⟩
        · by_cases hs2 : 32768 < b.size
          · go_wp2_with fail
            go_ret
            exact ⟨rfl, HB1.out.trans ((HBO.out.rr.bel.trans ((below_box wr _).mono HBO.out.rr.bel.size)).mono HB1.out.size)⟩
          · have hok := HBO.out.re.ok
            have hgv : R.given ≤ 100000 := by rw [HBO.out.sim.given]; have := hok.given; omega
            have hll : R.l.length ≤ 100000 := by rw [HBO.out.sim.len]; have := hok.win; omega
            have HOK := Lib.hid hok
            clear hok
            have HBA := Lib.hid (HBO.out.stay (below_box wr (.cells #[.int .i64 k, .string s, .int .i64 c, .bool u, .int .i64 ep1, .int .i64 sq, .int .i64 ak, .string b] 54)) 9)
            have HKB := Lib.hid (Kb.new L wr #[.int .i64 k, .string s, .int .i64 c, .bool u, .int .i64 ep1, .int .i64 sq, .int .i64 ak, .string b] 54)
            by_cases k1 : k = 1
            · subst k1
              go_wp2_with fail
              generalize wr.alloc (.cells #[.int .i64 1, .string s, .int .i64 c, .bool u, .int .i64 ep1, .int .i64 sq, .int .i64 ak, .string b] 54) = W1 at HBA HKB ⊢
              generalize rel L wr 9 = L1 at HBA HKB
              generalize wr.heap.size = bx at HKB ⊢
              clear x0 x1 x2 x3 x4 x5 x6 x7 HBO
              have HBd := Lib.hid (HBA.out.stay (below_drew W1) 9)
              have HKd := Lib.hid (HKB.out.stay (below_drew W1) 9)
              generalize rel L1 W1 9 = L2 at HBd HKd
              have HK0 := Lib.hid (HKd.out.c 1 _ rfl)
              have HSE := Lib.hid (send_any HBd.out.re (by omega) s)
              obtain ⟨cz, hcz⟩ : ∃ cz, cz = sendErr E s := ⟨_, rfl⟩
              rw [← hcz] at HSE
              have HSR := Lib.hid (fun (w5 : World) (L5 : Nat → Nat) (h5 : RR w1 L5 w5 pr R) => rsend_q h5 hgv s (hcz.trans (HBA.out.sim.sendErr s).symm))
              clear hcz
              go_region_held3 (fun W => W.cell? ⟨bx, 1, none⟩ = some (.string s)) (first | exact HK0.out | exact HK5.out | exact HK6.out) (first | (go_at_call 11; refine HSE.out.mono ?_; rintro e w5 ⟨rfl, hr, hc⟩; have HE5 := Lib.hid (HBd.out.sendE hr hc); have HKB5 := Lib.hid (HKd.out.chg hc 11); have HK5 := Lib.hid (HKB5.out.c 1 _ rfl); have HSR5 := Lib.hid (HSR.out w5 _ HE5.out.2); clear hr hc) | (go_at_call 19; refine HSR5.out.mono ?_; rintro e w6 ⟨rfl, L6, hrr, hkr⟩; have HBN := Lib.hid (HBd.out.sendR HE5.out.1 hrr hkr); have HK6 := Lib.hid ((HKB5.out.kept hkr).c 1 _ rfl); clear hrr hkr))
              obtain ⟨Ez, Rz, Lz, HBz⟩ : ∃ Ez Rz Lz, Hid (Both w1 Lz w6 pe pr ep Ez Rz (i + 1)) := ⟨_, _, _, HBN⟩
              clear HBN HK0 HK5 HK6 HSE HSR HSR5 HE5 HKB5 HKd HBd HKB HBA HOK
              go_wp2_with fail
              obtain ⟨v1z, v4z, hz⟩ := HBz.out.rr
              obtain ⟨a1z, c1z, rfl⟩ := hz.s1.slice
              have y1 := hz.c1
              have y3 := hz.c3
              have t1 : ((Ez.opn.length : Int) != (Rz.l.length : Int)) = false := by rw [HBz.out.sim.len]; simp
              have t2 : ((Ez.got : Int) != (Rz.got : Int)) = false := by rw [HBz.out.sim.got]; simp
              have t3 : (Ez.epoch != ep) = false := by rw [HBz.out.epo]; simp
              have HQ1 := Lib.hid (open_q HBz.out)
              have HQ2 := Lib.hid (got_q HBz.out)
              have HQ3 := Lib.hid (epoch_q HBz.out)
              clear hz
              go_wp2_with fail
              go_quiet (first | (go_at_call 14; with_reducible refine Calls.quiet_of_same (HQ1.out _)) | (go_at_call 13; with_reducible refine Calls.quiet_of_same (HQ2.out _)) | (go_at_call 16; with_reducible refine Calls.quiet_of_same (HQ3.out _)))
              go_wp2_with fail
              go_roundg (gk - 1)
              case measure => omega
              case rel => exact ⟨i + 1, _, Ez, Rz, by go_num, by omega, by omega, Lib.hid (HBz.out.stay (below_drewN _ _) 9)⟩
            · by_cases k2 : k = 2
              · subst k2
                go_wp2_with fail
                generalize wr.alloc (.cells #[.int .i64 2, .string s, .int .i64 c, .bool u, .int .i64 ep1, .int .i64 sq, .int .i64 ak, .string b] 54) = W1 at HBA HKB ⊢
                generalize rel L wr 9 = L1 at HBA HKB
                generalize wr.heap.size = bx at HKB ⊢
                clear x0 x1 x2 x3 x4 x5 x6 x7 HBO
                go_cut [87] from 25 to 135 (fun v87 wx => v87 = .bool false ∧ ∃ (Ez : En) (Rz : Re) (Lz : Nat → Nat), Hid (Both w1 Lz wx pe pr ep Ez Rz (i + 1)))
                case first =>
                  have HBd := Lib.hid (HBA.out.stay (below_drew W1) 9)
                  generalize rel L1 W1 9 = L2 at HBd
                  obtain ⟨v1y, v4y, hy⟩ := HBA.out.rr
                  obtain ⟨a1y, c1y, rfl⟩ := hy.s1.slice
                  have y1 := hy.c1
                  have y5 := hy.c5
                  have hlen := HBA.out.sim.len
                  have howd := HBA.out.sim.owed
                  have HOW := Lib.hid (owes_any HBd.out.re)
                  have HOE := Lib.hid (out_any HBd.out.re (by omega))
                  have HSR := Lib.hid (fun (w5 : World) (L5 : Nat → Nat) (h5 : RR w1 L5 w5 pr R) => rout_any h5 hll)
                  have hol := outL_len HOK.out
                  have HOL := Lib.hid (HBA.out.sim.outL)
                  unfold OutPost at HOE
                  clear hy
                  by_cases h0 : 0 < E.opn.length
                  · have how : owes E = true := by unfold owes; rw [decide_eq_true h0]; simp
                    have dd1 : decide (0 < R.l.length) = true := decide_eq_true (by omega)
                    have dd2 : decide ((0 : Int) < (R.l.length : Int)) = true := decide_eq_true (by omega)
                    rw [how] at HOW
                    clear hlen howd h0 how
                    first | go_region_law (first | (go_simp; go_at_call 17; refine HOW.out.mono ?_; rintro e w5 ⟨rfl, rfl⟩) | (go_simp; go_at_call 15; refine HOE.out.mono ?_; rintro e w5 ⟨vl, rfl, hr, hs, hc⟩; obtain ⟨al, cl, rfl⟩ := hs.slice; have HE5 := Lib.hid (HBd.out.outE hr hc); have HS5 := Lib.hid (sl_new (L := L2) (r := 9) hs); have HR5 := Lib.hid (HSR.out w5 _ HE5.out.2); clear hr hs hc) | (go_simp; go_at_call 21; refine HR5.out.mono ?_; rintro e w6 ⟨v6, L6, rfl, hrr, hs6, hkr⟩; obtain ⟨al6, cl6, rfl⟩ := hs6.slice; have HBN := Lib.hid (HBd.out.outR HE5.out.1 hrr hkr); have HSM := Lib.hid (same_q (sl_keptR HS5.out hkr) hs6 HOL.out (by omega)); clear hrr hs6 hkr) | (go_simp; go_at_call 20; refine HSM.out.mono ?_; rintro e w7 ⟨rfl, m7, rfl⟩)) | fail
                    all_goals
                      go_wp2_with fail
                      go_meet
                      exact ⟨rfl, _, _, _, Lib.hid (HBN.out.stay (below_drewN w6 m7) 9)⟩
                  · have dd1 : decide (0 < R.l.length) = false := decide_eq_false (by omega)
                    have dd2 : decide ((0 : Int) < (R.l.length : Int)) = false := decide_eq_false (by omega)
                    cases hoe : E.owed with
                    | true =>
                      have how : owes E = true := by unfold owes; rw [hoe]; rfl
                      rw [how] at HOW
                      rw [howd, hoe] at y5
                      clear hlen howd h0 how hoe
                      first | go_region_law (first | (go_simp; go_at_call 17; refine HOW.out.mono ?_; rintro e w5 ⟨rfl, rfl⟩) | (go_simp; go_at_call 15; refine HOE.out.mono ?_; rintro e w5 ⟨vl, rfl, hr, hs, hc⟩; obtain ⟨al, cl, rfl⟩ := hs.slice; have HE5 := Lib.hid (HBd.out.outE hr hc); have HS5 := Lib.hid (sl_new (L := L2) (r := 9) hs); have HR5 := Lib.hid (HSR.out w5 _ HE5.out.2); clear hr hs hc) | (go_simp; go_at_call 21; refine HR5.out.mono ?_; rintro e w6 ⟨v6, L6, rfl, hrr, hs6, hkr⟩; obtain ⟨al6, cl6, rfl⟩ := hs6.slice; have HBN := Lib.hid (HBd.out.outR HE5.out.1 hrr hkr); have HSM := Lib.hid (same_q (sl_keptR HS5.out hkr) hs6 HOL.out (by omega)); clear hrr hs6 hkr) | (go_simp; go_at_call 20; refine HSM.out.mono ?_; rintro e w7 ⟨rfl, m7, rfl⟩)) | fail
                      all_goals
                        go_wp2_with fail
                        go_meet
                        exact ⟨rfl, _, _, _, Lib.hid (HBN.out.stay (below_drewN w6 m7) 9)⟩
                    | false =>
                      have how : owes E = false := by unfold owes; rw [hoe, decide_eq_false h0]; rfl
                      rw [how] at HOW
                      rw [howd, hoe] at y5
                      clear hlen howd h0 how hoe
                      first | go_region_law (first | (go_simp; go_at_call 17; refine HOW.out.mono ?_; rintro e w5 ⟨rfl, rfl⟩) | (go_simp; go_at_call 15; refine HOE.out.mono ?_; rintro e w5 ⟨vl, rfl, hr, hs, hc⟩; obtain ⟨al, cl, rfl⟩ := hs.slice; have HE5 := Lib.hid (HBd.out.outE hr hc); have HS5 := Lib.hid (sl_new (L := L2) (r := 9) hs); have HR5 := Lib.hid (HSR.out w5 _ HE5.out.2); clear hr hs hc) | (go_simp; go_at_call 21; refine HR5.out.mono ?_; rintro e w6 ⟨v6, L6, rfl, hrr, hs6, hkr⟩; obtain ⟨al6, cl6, rfl⟩ := hs6.slice; have HBN := Lib.hid (HBd.out.outR HE5.out.1 hrr hkr); have HSM := Lib.hid (same_q (sl_keptR HS5.out hkr) hs6 HOL.out (by omega)); clear hrr hs6 hkr) | (go_simp; go_at_call 20; refine HSM.out.mono ?_; rintro e w7 ⟨rfl, m7, rfl⟩)) | fail
                      all_goals
                        go_wp2_with fail
                        go_meet
                        exact ⟨rfl, _, _, _, Lib.hid (HBN.out.stay (below_drewN w6 m7) 9)⟩
                case rest =>
                  obtain ⟨rfl, Ez, Rz, Lz, HBz⟩ := hcut
                  generalize wc = W7 at HBz ⊢
                  clear HKB HBA HOK
                  go_wp2_with fail
                  obtain ⟨v1z, v4z, hz⟩ := HBz.out.rr
                  obtain ⟨a1z, c1z, rfl⟩ := hz.s1.slice
                  have y1 := hz.c1
                  have y3 := hz.c3
                  have t1 : ((Ez.opn.length : Int) != (Rz.l.length : Int)) = false := by rw [HBz.out.sim.len]; simp
                  have t2 : ((Ez.got : Int) != (Rz.got : Int)) = false := by rw [HBz.out.sim.got]; simp
                  have t3 : (Ez.epoch != ep) = false := by rw [HBz.out.epo]; simp
                  have HQ1 := Lib.hid (open_q HBz.out)
                  have HQ2 := Lib.hid (got_q HBz.out)
                  have HQ3 := Lib.hid (epoch_q HBz.out)
                  clear hz
                  go_wp2_with fail
                  go_quiet (first | (go_at_call 14; with_reducible refine Calls.quiet_of_same (HQ1.out _)) | (go_at_call 13; with_reducible refine Calls.quiet_of_same (HQ2.out _)) | (go_at_call 16; with_reducible refine Calls.quiet_of_same (HQ3.out _)))
                  go_wp2_with fail
                  go_roundg (gk - 1)
                  case measure => omega
                  case rel => exact ⟨i + 1, _, Ez, Rz, by go_num, by omega, by omega, Lib.hid (HBz.out.stay (below_drewN _ _) 9)⟩
              · by_cases k3 : k = 3
                · subst k3
                  go_wp2_with fail
                  generalize wr.alloc (.cells #[.int .i64 3, .string s, .int .i64 c, .bool u, .int .i64 ep1, .int .i64 sq, .int .i64 ak, .string b] 54) = W1 at HBA HKB ⊢
                  generalize rel L wr 9 = L1 at HBA HKB
                  generalize wr.heap.size = bx at HKB ⊢
                  clear x0 x1 x2 x3 x4 x5 x6 x7 HBO
                  have z2 := HKB.out.c 2 _ rfl
                  have z3 := HKB.out.c 3 _ rfl
                  have z4 := HKB.out.c 4 _ rfl
                  have z5 := HKB.out.c 5 _ rfl
                  have z6 := HKB.out.c 6 _ rfl
                  have z7 := HKB.out.c 7 _ rfl
                  have HT := Lib.hid (take_any HBA.out.re (by omega) lb_lt ⟨c, u, ep1, sq, ak, b⟩)
                  rw [show Gr.val ⟨c, u, ep1, sq, ak, b⟩ = .agg #[.int .i64 c, .bool u, .int .i64 ep1, .int .i64 sq, .int .i64 ak, .string b] from rfl] at HT
                  go_wp2_with fail
                  refine HT.out.mono ?_
                  rintro e w5 ⟨v5, rfl, hr, hs, hc, -⟩
                  have HE5 := Lib.hid (HBA.out.takeE hr hc)
                  have HS5 := Lib.hid (sl_new (L := L1) (r := 9) hs)
                  have HKB5 := Lib.hid (HKB.out.chg hc 9)
                  generalize rel L1 W1 9 = L5 at HE5 HS5 HKB5
                  clear HT hr hs hc z2 z3 z4 z5 z6 z7
                  have z2 := HKB5.out.c 2 _ rfl
                  have z3 := HKB5.out.c 3 _ rfl
                  have z4 := HKB5.out.c 4 _ rfl
                  have z5 := HKB5.out.c 5 _ rfl
                  have z6 := HKB5.out.c 6 _ rfl
                  have z7 := HKB5.out.c 7 _ rfl
                  have HRT := Lib.hid (rtake_any HE5.out.2 HBA.out.sim HOK.out (by omega) HBA.out.ear ⟨c, u, ep1, sq, ak, b⟩)
                  rw [show Gr.val ⟨c, u, ep1, sq, ak, b⟩ = .agg #[.int .i64 c, .bool u, .int .i64 ep1, .int .i64 sq, .int .i64 ak, .string b] from rfl] at HRT
                  go_wp2_with fail
                  refine HRT.out.mono ?_
                  rintro e w6 ⟨v6, L6, R6, F6, rfl, hrr, hsim, hear, hs6, hkr⟩
                  have HBN := Lib.hid (HBA.out.takeR HE5.out.1 hrr hsim hear hkr)
                  have HTX := Lib.hid (texts_same (sl_keptR HS5.out hkr) hs6 (by have := takeL_len E ⟨c, u, ep1, sq, ak, b⟩; omega))
                  generalize takeErr E ⟨c, u, ep1, sq, ak, b⟩ = cz
                  clear hrr hsim hear hs6 hkr HRT HE5 HS5 HKB5 HKB HBA HOK z2 z3 z4 z5 z6 z7
                  go_wp2_with fail
                  refine HTX.out.mono ?_
                  rintro e w7 ⟨rfl, m7, rfl⟩
                  obtain ⟨Ez, Rz, Lz, HBz⟩ : ∃ Ez Rz Lz, Hid (Both w1 Lz (w6.drewN m7) pe pr ep Ez Rz (i + 1)) := ⟨_, _, _, Lib.hid (HBN.out.stay (below_drewN w6 m7) 9)⟩
                  generalize w6.drewN m7 = W7 at HBz ⊢
                  clear HBN HTX
                  obtain ⟨v1z, v4z, hz⟩ := HBz.out.rr
                  obtain ⟨a1z, c1z, rfl⟩ := hz.s1.slice
                  have y1 := hz.c1
                  have y3 := hz.c3
                  have t1 : ((Ez.opn.length : Int) != (Rz.l.length : Int)) = false := by rw [HBz.out.sim.len]; simp
                  have t2 : ((Ez.got : Int) != (Rz.got : Int)) = false := by rw [HBz.out.sim.got]; simp
                  have t3 : (Ez.epoch != ep) = false := by rw [HBz.out.epo]; simp
                  have HQ1 := Lib.hid (open_q HBz.out)
                  have HQ2 := Lib.hid (got_q HBz.out)
                  have HQ3 := Lib.hid (epoch_q HBz.out)
                  clear hz
                  go_wp2_with fail
                  go_quiet (first | (go_at_call 14; with_reducible refine Calls.quiet_of_same (HQ1.out _)) | (go_at_call 13; with_reducible refine Calls.quiet_of_same (HQ2.out _)) | (go_at_call 16; with_reducible refine Calls.quiet_of_same (HQ3.out _)))
                  go_wp2_with fail
                  go_roundg (gk - 1)
                  case measure => omega
                  case rel => exact ⟨i + 1, _, Ez, Rz, by go_num, by omega, by omega, Lib.hid (HBz.out.stay (below_drewN _ _) 9)⟩
                · have kb1 : (k == 1) = false := beq_eq_false_iff_ne.2 k1
                  have kb2 : (k == 2) = false := beq_eq_false_iff_ne.2 k2
                  have kb3 : (k == 3) = false := beq_eq_false_iff_ne.2 k3
                  go_wp2_with fail
                  generalize wr.alloc (.cells #[.int .i64 k, .string s, .int .i64 c, .bool u, .int .i64 ep1, .int .i64 sq, .int .i64 ak, .string b] 54) = W1 at HBA HKB ⊢
                  generalize rel L wr 9 = L1 at HBA HKB
                  generalize wr.heap.size = bx at HKB ⊢
                  clear x0 x1 x2 x3 x4 x5 x6 x7 HBO
                  obtain ⟨Ez, Rz, Lz, HBz⟩ : ∃ Ez Rz Lz, Hid (Both w1 Lz W1 pe pr ep Ez Rz (i + 1)) := ⟨_, _, _, Lib.hid HBA.out.mono⟩
                  clear HKB HBA HOK
                  obtain ⟨v1z, v4z, hz⟩ := HBz.out.rr
                  obtain ⟨a1z, c1z, rfl⟩ := hz.s1.slice
                  have y1 := hz.c1
                  have y3 := hz.c3
                  have t1 : ((Ez.opn.length : Int) != (Rz.l.length : Int)) = false := by rw [HBz.out.sim.len]; simp
                  have t2 : ((Ez.got : Int) != (Rz.got : Int)) = false := by rw [HBz.out.sim.got]; simp
                  have t3 : (Ez.epoch != ep) = false := by rw [HBz.out.epo]; simp
                  have HQ1 := Lib.hid (open_q HBz.out)
                  have HQ2 := Lib.hid (got_q HBz.out)
                  have HQ3 := Lib.hid (epoch_q HBz.out)
                  clear hz
                  go_wp2_with fail
                  go_quiet (first | (go_at_call 14; with_reducible refine Calls.quiet_of_same (HQ1.out _)) | (go_at_call 13; with_reducible refine Calls.quiet_of_same (HQ2.out _)) | (go_at_call 16; with_reducible refine Calls.quiet_of_same (HQ3.out _)))
                  go_wp2_with fail
                  go_roundg (gk - 1)
                  case measure => omega
                  case rel => exact ⟨i + 1, _, Ez, Rz, by go_num, by omega, by omega, Lib.hid (HBz.out.stay (below_drewN _ _) 9)⟩
      · have d1 : decide (i < n) = true := decide_eq_true hi
        have d2 : decide ((i : Int) < 150) = false := decide_eq_false (by omega)
        go_wp2_with fail
        go_ret
        exact ⟨rfl, HB1.out.trans (HBO.out.rr.bel.mono HB1.out.size)⟩
    · have d1 : decide (i < n) = false := decide_eq_false hi
      go_wp2_with fail
      go_ret
      exact ⟨rfl, HB1.out.trans (HBO.out.rr.bel.mono HB1.out.size)⟩

end Go.Proofs.Ytjlhipnlacfekaa.Rf
