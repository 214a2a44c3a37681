/-
  'talked': two ends behind events.
-/
import Derived.Test.YtjlhipnlacfekaaTd
import Derived.Test.YtjlhipnlacfekaaTe
import Derived.Test.YtjlhipnlacfekaaTp
import Derived.StillTailTactics
namespace Go.Proofs.Ytjlhipnlacfekaa.Tm
open Go.RowKit Go.Maps Go.Proofs.Ytjlhipnlacfekaa.Md Go.Proofs.Ytjlhipnlacfekaa.Hp Go.Proofs.Ytjlhipnlacfekaa.Rp Go.Proofs.Ytjlhipnlacfekaa.Lbl Go.Proofs.Ytjlhipnlacfekaa.Wa
set_option linter.unusedSimpArgs false
set_option linter.unusedVariables false

/-- The events that are given. -/
def Evs (w : World) (ax : Option Addr) (n : Nat) : Prop :=
  ∀ i, i < n → ∃ x k m s, ax = some x ∧ w.cell? (x.add (i * 3)) = some (.int .i64 k) ∧ w.cell? ⟨(x.add (i * 3)).block, (x.add (i * 3)).off + 1, none⟩ = some (.int .i64 m) ∧ w.cell? ⟨(x.add (i * 3)).block, (x.add (i * 3)).off + 2, none⟩ = some (.string s)

theorem rel_fresh (L : Nat → Nat) (w : World) (r : Nat) : Lbl.rel L w r w.heap.size = r := by unfold Lbl.rel; rw [if_neg (Nat.lt_irrefl _)]
/-- The Talk just made. -/
theorem rt_new {w w1 w2 : World} {ep : Int} (ha : Rep w1 (w.heap.size + 1) (newE ep) (New w w1) 0) (ba : Below w.heap.size w w1) (hb : Rep w2 (w1.heap.size + 1) (newE ep) (New w1 w2) 0) (bb : Below w1.heap.size w1 w2) :
    ∃ L, RT w L (w2.alloc (.cells #[.pointer (some ⟨w.heap.size + 1, 0, none⟩), .pointer (some ⟨w1.heap.size + 1, 0, none⟩), .slice none 0 0, .slice none 0 0, .slice none 0 0, .slice none 0 0, .slice none 0 0] 37)) w2.heap.size (newT ep) 0 := by
  have l1 := (Lab.start w).stay ba 2
  have l2 := l1.stay bb 3
  have b3 : Below w2.heap.size w2 (w2.alloc (.cells #[.pointer (some ⟨w.heap.size + 1, 0, none⟩), .pointer (some ⟨w1.heap.size + 1, 0, none⟩), .slice none 0 0, .slice none 0 0, .slice none 0 0, .slice none 0 0, .slice none 0 0] 37)) := (Below.refl _ _).alloc (Nat.le_refl _) _
  have l3 := l2.stay b3 1
  refine ⟨_, _, _, fun _ => .slice none 0 0, l3, ?_, heap_alloc_new _ _, rep_stay (rep_stay (rep_new ha) bb) b3, rep_stay (rep_new hb) b3, fun i h1 h2 => ?_⟩
  · exact rel_fresh _ _ _
  · obtain rfl | rfl | rfl | rfl | rfl : i = 2 ∨ i = 3 ∨ i = 4 ∨ i = 5 ∨ i = 6 := by omega
    all_goals exact Sl.nil _ _ _
theorem RT.mono {w0 : World} {L : Nat → Nat} {w : World} {t : Nat} {T : Tk} {N M : Nat} (h : RT w0 L w t T N) (hM : N ≤ M) : RT w0 L w t T M := by
  obtain ⟨pa, pb, vs, h⟩ := h
  exact ⟨pa, pb, vs, h.mono hM⟩
theorem RT.oks {w0 : World} {L : Nat → Nat} {w : World} {t : Nat} {T : Tk} {N : Nat} (h : RT w0 L w t T N) : Ok T.a N ∧ Ok T.b N := by
  obtain ⟨pa, pb, vs, h⟩ := h
  exact ⟨h.ra.ok, h.rb.ok⟩
theorem RT.bel {w0 : World} {L : Nat → Nat} {w : World} {t : Nat} {T : Tk} {N : Nat} (h : RT w0 L w t T N) : Below w0.heap.size w0 w := by
  obtain ⟨pa, pb, vs, h⟩ := h
  exact h.lab.bel

theorem keep_cell {w w' : World} (h : Below w.heap.size w w') {x : Addr} {v : Value} (hc : w.cell? x = some v) : w'.cell? x = some v := by
  rw [← hc]
  refine h.cell ?_
  cases hh : w.heap[x.block]? with
  | some o => exact (Array.getElem?_eq_some_iff.1 hh).1
  | none => simp [World.cell?, hh] at hc

theorem cell_keep {L : Nat → Nat} {w w' : World} {i b o : Nat} (hc : Chg (Lb L w i) w w') (hb : b < w.heap.size) (hl : L b ≠ i) : w'.cell? ⟨b, o, none⟩ = w.cell? ⟨b, o, none⟩ :=
  World.cell?_of_block (hc.block b hb fun x => hl x.1)
theorem sl_of {w0 : World} {L : Nat → Nat} {w : World} {t : Nat} {T : Tk} {N : Nat} {pa pb : Nat} {vs : Nat → Value} (h : RepT w0 L w t T N pa pb vs) (i : Nat) (h2 : 2 ≤ i) (h6 : i ≤ 6) : Sl w (sz i) (vs i) (T.ns i) (T.xs i) (Lb L w (i + 2)) := h.sl i h2 h6
theorem one1 (s : ByteArray) : ∀ u ∈ [Value.string s], u.oneCell' = true := by intro u hu; simp at hu; subst hu; rfl
theorem outs_len {T : Tk} {N : Nat} (oa : Ok T.a N) (ob : Ok T.b N) (f : Bool) : (outs T f).length ≤ 32 := by
  unfold outs
  split
  · exact outL_len oa
  · exact outL_len ob
theorem pool_out (T : Tk) (f : Bool) : (outT T f).pool.length = T.pool.length + (outs T f).length := by
  unfold outT outs
  split <;> simp
theorem RT.drewN {w0 : World} {L : Nat → Nat} {w : World} {t : Nat} {T : Tk} {N : Nat} (h : RT w0 L w t T N) (n : Nat) : RT w0 L (w.drewN n) t T N := by
  obtain ⟨pa, pb, vs, h⟩ := h
  exact ⟨pa, pb, vs, h.drewN n⟩
theorem begins5 {w0 : World} {L : Nat → Nat} {w : World} {t : Nat} {T : Tk} {N : Nat} {pa pb : Nat} {vs : Nat → Value} {ep : Int} (h : RepT w0 L w t T N pa pb vs) (hi : Inv ep T) (hN : N ≤ 1000) (n : Nat) :
    Calls Try.prog 26 #[vs 5, vs 3] (w.drewN n) fun e w' => e = .returned (.bool true) ∧ ∃ m, w' = (w.drewN n).drewN m := by
  have h1 := hi.ab.given
  have h2 := h.ra.ok.given
  exact begins_true ((h.drewN n).sl 5 (by decide) (by decide)) ((h.drewN n).sl 3 (by decide) (by decide)) (show T.toB.length ≤ _ by omega) hi.ab.begins.1 hi.ab.begins.2.1 |>.mono fun _ _ x => x
theorem begins4 {w0 : World} {L : Nat → Nat} {w : World} {t : Nat} {T : Tk} {N : Nat} {pa pb : Nat} {vs : Nat → Value} {ep : Int} (h : RepT w0 L w t T N pa pb vs) (hi : Inv ep T) (hN : N ≤ 1000) (n : Nat) :
    Calls Try.prog 26 #[vs 4, vs 2] (w.drewN n) fun e w' => e = .returned (.bool true) ∧ ∃ m, w' = (w.drewN n).drewN m := by
  have h1 := hi.ba.given
  have h2 := h.rb.ok.given
  exact begins_true ((h.drewN n).sl 4 (by decide) (by decide)) ((h.drewN n).sl 2 (by decide) (by decide)) (show T.toA.length ≤ _ by omega) hi.ba.begins.1 hi.ba.begins.2.1 |>.mono fun _ _ x => x

set_option maxHeartbeats 20000000 in
set_option maxRecDepth 20000 in
theorem talked_any (ep : Int) (h1 : 1 ≤ ep) (h2 : ep ≤ 1073741824) (ax : Option Addr) (n cx : Nat) (w : World) (hn : n ≤ maxLen) (hx : Evs w ax n) :
    Calls Try.prog 9 #[.int .i64 ep, .slice ax n cx] w fun e w' => ∃ t L T, e = .returned (.tuple #[.pointer (some ⟨t, 0, none⟩), .bool true]) ∧ RT w L w' t T 200 ∧ Inv ep T ∧ T.pool.length ≤ 5000 := by
  have HX := Lib.hid hx
  have hn2 : n ≤ 9223372036854775807 := by have := hn; unfold maxLen at this; omega
  clear hx hn
  have HN := Lib.hid (new_any ep h1 h2)
  clear h1 h2
  go_enter Try.func9, Try.ntmps9
  go_wp2_with fail
  refine (HN.out _ 0).mono ?_
  rintro e w1 ⟨rfl, ha, ba⟩
  have HA := Lib.hid ha
  have BA := Lib.hid ba
  clear ha ba
  go_wp2_with fail
  refine (HN.out _ 0).mono ?_
  rintro e w2 ⟨rfl, hb, bb⟩
  obtain ⟨L0, hrt⟩ := rt_new HA.out BA.out hb bb
  have HR := Lib.hid hrt
  clear hrt hb bb HA BA HN
  generalize w.heap.size + 1 = pa at HR ⊢
  generalize w1.heap.size + 1 = pb at HR ⊢
  go_wp2_with fail
  generalize w2.alloc (.cells #[.pointer (some ⟨pa, 0, none⟩), .pointer (some ⟨pb, 0, none⟩), .slice none 0 0, .slice none 0 0, .slice none 0 0, .slice none 0 0, .slice none 0 0] 37) = w3 at HR ⊢
  generalize w2.heap.size = t at HR ⊢
  go_loopg [7] 120 (fun kq v7 wr => ∃ (i : Nat) (L : Nat → Nat) (T : Tk), v7 = .int .i64 (i : Int) ∧ kq + i ≤ 120 ∧ 120 ≤ kq + i ∧ Hid (RT w L wr t T i) ∧ Hid (Inv ep T) ∧ T.pool.length ≤ 40 * i)
  case atStart => exact ⟨0, L0, newT ep, rfl, by omega, by omega, HR, Lib.hid (Inv.new ep), Nat.le_refl _⟩
  case round =>
    clear HR
    obtain ⟨i, L, T, rfl, hk1, hk2, HR, HI, hp⟩ := hrel
    by_cases hi : i < n
    · obtain ⟨x, k, m, s, rfl, e0, e1, e2⟩ := HX.out i hi
      by_cases h120 : i < 120
      · have d1 : decide (i < n) = true := decide_eq_true hi
        have d2 : decide ((i : Int) < 120) = true := decide_eq_true (by omega)
        have x0 : wr.cell? (x.add (i * 3)) = some (.int .i64 k) := keep_cell HR.out.bel e0
        have x1 : wr.cell? ⟨(x.add (i * 3)).block, (x.add (i * 3)).off + 1, none⟩ = some (.int .i64 m) := keep_cell HR.out.bel e1
        have x2 : wr.cell? ⟨(x.add (i * 3)).block, (x.add (i * 3)).off + 2, none⟩ = some (.string s) := keep_cell HR.out.bel e2
        clear e0 e1 e2
        by_cases k1 : k = 1
        · subst k1
          go_wp2_with fail
          obtain ⟨pa1, pb1, vs1, hrt⟩ := HR.out
          have H1 := Lib.hid (hrt.alloc (.cells #[.int .i64 1, .int .i64 m, .string s] 26) 9)
          have hbx := heap_alloc_new wr (.cells #[.int .i64 1, .int .i64 m, .string s] 26)
          have hbl : wr.heap.size < (wr.alloc (.cells #[.int .i64 1, .int .i64 m, .string s] 26)).heap.size := by simp
          have hbL : rel L wr 9 wr.heap.size = 9 := rel_fresh _ _ _
          generalize wr.alloc (.cells #[.int .i64 1, .int .i64 m, .string s] 26) = W1 at H1 hbx hbl ⊢
          generalize rel L wr 9 = L1 at H1 hbL
          have x0' := blk_cell hbx 0 _ rfl
          have x1' := blk_cell hbx 1 _ rfl
          have x2' := blk_cell hbx 2 _ rfl
          generalize wr.heap.size = bx at *
          clear hbx hrt HR x0 x1 x2
          have y0 := H1.out.c0
          have hok := H1.out.ra.ok
          have hlen : T.toB.length ≤ 1000 := by have := HI.out.ab.given; have := hok.given; omega
          by_cases he : sendErr T.a s = 0
          · have HS := Lib.hid (send_any H1.out.drew.ra (by omega) s)
            rw [he] at HS
            have HE := Lib.hid he
            clear he hok
            go_region_law (go_simp; go_at_call 11; refine HS.out.mono ?_; rintro e w5 ⟨rfl, hr, hc⟩; have HR5 := Lib.hid hr; have HC5 := Lib.hid hc; clear hr hc HS)
            all_goals
              have H5 := Lib.hid (H1.out.drew.turnA (Nat.le_succ i) HC5.out (rep_grown HR5.out HC5.out.size))
              have z2 : w5.cell? ⟨bx, 2, none⟩ = some (.string s) := (cell_keep HC5.out hbl (by rw [hbL]; decide)).trans x2'
              have hbl5 : bx < w5.heap.size := Nat.lt_of_lt_of_le hbl HC5.out.size
              generalize rel L1 W1.drew 2 = L5 at H5
              clear HR5 HC5 H1 x0' x1' x2' y0
              have y3 := H5.out.c3
              have H6 := Lib.hid ((H5.out.alloc (.cells #[.string s] 9) 9).drew)
              generalize rel L5 w5 9 = L6 at H6
              have y3' : (w5.alloc (.cells #[.string s] 9)).cell? ⟨t, 3, none⟩ = some (vs1 3) := by have := H6.out.c3; exact this
              have HSB : Hid (Sl (w5.alloc (.cells #[.string s] 9)).drew 1 (vs1 3) T.toB.length (T.toB.map .string) (Lb L6 (w5.alloc (.cells #[.string s] 9)).drew 5)) := Lib.hid (sl_of H6.out 3 (by decide) (by decide))
              have HSR : Hid (Hp.Src (w5.alloc (.cells #[.string s] 9)).drew (.slice (some ⟨w5.heap.size, 0, none⟩) 1 1) 1 [.string s]) := Lib.hid (src_one w5 (.string s) 9)
              have q1 : T.toB.length + 1 ≤ maxLen := by unfold maxLen; omega
              have q2 : (T.toB.length + 1) * 16 ≤ 140737488355328 := by omega
              go_wp2_with fail
              go_region_law (refine step_append_sl rfl _ _ 34 rfl 9 (.string ⟨#[]⟩) 1 16 Try.underlying34 info9 rfl (by decide) rfl rfl HSB.out HSR.out rfl (one1 s) q1 q2 ?_; intro v7 w7 hsl hch; obtain ⟨ao7, cap7, rfl⟩ := hsl.slice; have hb := seen H6.out (by decide) hch; have z7 := blk_cell hb 3 _ rfl; have f7 := blk_free hb 3; have HS7 := Lib.hid hsl; have HC7 := Lib.hid hch; clear hsl hch hb q1 q2)
              all_goals
                obtain ⟨Lz, Tz, HRz, HIz, hpz⟩ : ∃ Lz Tz, Hid (RT w Lz (w7.setCell ⟨t, 3, none⟩ (.slice ao7 (T.toB.length + 1) cap7)) t Tz (i + 1)) ∧ Hid (Inv ep Tz) ∧ Tz.pool.length ≤ 40 * (i + 1) := by
                  refine ⟨_, sendT T true s, Lib.hid ⟨pa1, pb1, _, H6.out.push 3 (by decide) (by decide) HS7.out HC7.out (sendT T true s) (by simp [sendT]) (by simp [sendT]) (by simp [sendT, Tk.ns, HE.out]) (by simp [sendT, Tk.xs, HE.out]) ?_⟩, Lib.hid (HI.out.send true s), by simp [sendT]; omega⟩
                  intro j h2 h6 hj
                  obtain rfl | rfl | rfl | rfl : j = 2 ∨ j = 4 ∨ j = 5 ∨ j = 6 := by omega
                  all_goals simp [sendT, Tk.ns, Tk.xs]
                go_wp2_with fail
                generalize w7.setCell ⟨t, 3, none⟩ (.slice ao7 (T.toB.length + 1) cap7) = Wz at HRz ⊢
                clear H6 HS7 HC7 HSB HSR y3 y3' z2 z7 f7 H5 HI
                obtain ⟨pz, qz, vz, hz⟩ := HRz.out
                have y2 := hz.c2
                have y3 := hz.c3
                have y4 := hz.c4
                have y5 := hz.c5
                have HB1 := Lib.hid (begins5 hz HIz.out (by omega))
                have HB2 := Lib.hid (begins4 hz HIz.out (by omega))
                clear hz
                go_quiet (first | (go_at_call 26; with_reducible refine Calls.quiet_of (HB1.out _)) | (go_at_call 26; with_reducible refine Calls.quiet_of (HB2.out _)))
                go_wp2_with fail
                go_roundg (gk - 1)
                case measure => omega
                case rel => exact ⟨i + 1, Lz, Tz, by go_num, by omega, by omega, Lib.hid (HRz.out.drewN _), HIz, by omega⟩
          · have HS := Lib.hid (send_any H1.out.drew.ra (by omega) s)
            have HE := Lib.hid he
            have hcb : (sendErr T.a s == 0) = false := beq_eq_false_iff_ne.2 he
            generalize sendErr T.a s = cz at HS hcb
            clear he hok
            go_region_law (go_simp; go_at_call 11; refine HS.out.mono ?_; rintro e w5 ⟨rfl, hr, hc⟩; have HR5 := Lib.hid hr; have HC5 := Lib.hid hc; clear hr hc HS)
            all_goals
              obtain ⟨Lz, Tz, HRz, HIz, hpz⟩ : ∃ Lz Tz, Hid (RT w Lz w5 t Tz (i + 1)) ∧ Hid (Inv ep Tz) ∧ Tz.pool.length ≤ 40 * (i + 1) :=
                ⟨_, _, Lib.hid ⟨_, _, _, H1.out.drew.turnA (Nat.le_succ i) HC5.out (rep_grown HR5.out HC5.out.size)⟩, Lib.hid (by rw [sent_not HE.out]; exact HI.out), by show T.pool.length ≤ _; omega⟩
              clear HR5 HC5 H1 x0' x1' x2' y0 HI
              go_wp2_with fail
              obtain ⟨pz, qz, vz, hz⟩ := HRz.out
              have y2 := hz.c2
              have y3 := hz.c3
              have y4 := hz.c4
              have y5 := hz.c5
              have HB1 := Lib.hid (begins5 hz HIz.out (by omega))
              have HB2 := Lib.hid (begins4 hz HIz.out (by omega))
              clear hz
              go_quiet (first | (go_at_call 26; with_reducible refine Calls.quiet_of (HB1.out _)) | (go_at_call 26; with_reducible refine Calls.quiet_of (HB2.out _)))
              go_wp2_with fail
              go_roundg (gk - 1)
              case measure => omega
              case rel => exact ⟨i + 1, Lz, Tz, by go_num, by omega, by omega, Lib.hid (HRz.out.drewN _), HIz, by omega⟩
        ·
          by_cases k2 : k = 2
          · subst k2
            go_wp2_with fail
            obtain ⟨pa1, pb1, vs1, hrt⟩ := HR.out
            have H1 := Lib.hid (hrt.alloc (.cells #[.int .i64 2, .int .i64 m, .string s] 26) 9)
            have hbx := heap_alloc_new wr (.cells #[.int .i64 2, .int .i64 m, .string s] 26)
            have hbl : wr.heap.size < (wr.alloc (.cells #[.int .i64 2, .int .i64 m, .string s] 26)).heap.size := by simp
            have hbL : rel L wr 9 wr.heap.size = 9 := rel_fresh _ _ _
            generalize wr.alloc (.cells #[.int .i64 2, .int .i64 m, .string s] 26) = W1 at H1 hbx hbl ⊢
            generalize rel L wr 9 = L1 at H1 hbL
            have x0' := blk_cell hbx 0 _ rfl
            have x1' := blk_cell hbx 1 _ rfl
            have x2' := blk_cell hbx 2 _ rfl
            generalize wr.heap.size = bx at *
            clear hbx hrt HR x0 x1 x2
            have y0 := H1.out.c1
            have hok := H1.out.rb.ok
            have hlen : T.toA.length ≤ 1000 := by have := HI.out.ba.given; have := hok.given; omega
            by_cases he : sendErr T.b s = 0
            · have HS := Lib.hid (send_any H1.out.drew.rb (by omega) s)
              rw [he] at HS
              have HE := Lib.hid he
              clear he hok
              go_region_law (go_simp; go_at_call 11; refine HS.out.mono ?_; rintro e w5 ⟨rfl, hr, hc⟩; have HR5 := Lib.hid hr; have HC5 := Lib.hid hc; clear hr hc HS)
              all_goals
                have H5 := Lib.hid (H1.out.drew.turnB (Nat.le_succ i) HC5.out (rep_grown HR5.out HC5.out.size))
                have z2 : w5.cell? ⟨bx, 2, none⟩ = some (.string s) := (cell_keep HC5.out hbl (by rw [hbL]; decide)).trans x2'
                have hbl5 : bx < w5.heap.size := Nat.lt_of_lt_of_le hbl HC5.out.size
                generalize rel L1 W1.drew 3 = L5 at H5
                clear HR5 HC5 H1 x0' x1' x2' y0
                have y3 := H5.out.c2
                have H6 := Lib.hid ((H5.out.alloc (.cells #[.string s] 9) 9).drew)
                generalize rel L5 w5 9 = L6 at H6
                have y3' : (w5.alloc (.cells #[.string s] 9)).cell? ⟨t, 2, none⟩ = some (vs1 2) := by have := H6.out.c2; exact this
                have HSB : Hid (Sl (w5.alloc (.cells #[.string s] 9)).drew 1 (vs1 2) T.toA.length (T.toA.map .string) (Lb L6 (w5.alloc (.cells #[.string s] 9)).drew 4)) := Lib.hid (sl_of H6.out 2 (by decide) (by decide))
                have HSR : Hid (Hp.Src (w5.alloc (.cells #[.string s] 9)).drew (.slice (some ⟨w5.heap.size, 0, none⟩) 1 1) 1 [.string s]) := Lib.hid (src_one w5 (.string s) 9)
                have q1 : T.toA.length + 1 ≤ maxLen := by unfold maxLen; omega
                have q2 : (T.toA.length + 1) * 16 ≤ 140737488355328 := by omega
                go_wp2_with fail
                go_region_law (refine step_append_sl rfl _ _ 34 rfl 9 (.string ⟨#[]⟩) 1 16 Try.underlying34 info9 rfl (by decide) rfl rfl HSB.out HSR.out rfl (one1 s) q1 q2 ?_; intro v7 w7 hsl hch; obtain ⟨ao7, cap7, rfl⟩ := hsl.slice; have hb := seen H6.out (by decide) hch; have z7 := blk_cell hb 2 _ rfl; have f7 := blk_free hb 2; have HS7 := Lib.hid hsl; have HC7 := Lib.hid hch; clear hsl hch hb q1 q2)
                all_goals
                  obtain ⟨Lz, Tz, HRz, HIz, hpz⟩ : ∃ Lz Tz, Hid (RT w Lz (w7.setCell ⟨t, 2, none⟩ (.slice ao7 (T.toA.length + 1) cap7)) t Tz (i + 1)) ∧ Hid (Inv ep Tz) ∧ Tz.pool.length ≤ 40 * (i + 1) := by
                    refine ⟨_, sendT T false s, Lib.hid ⟨pa1, pb1, _, H6.out.push 2 (by decide) (by decide) HS7.out HC7.out (sendT T false s) (by simp [sendT]) (by simp [sendT]) (by simp [sendT, Tk.ns, HE.out]) (by simp [sendT, Tk.xs, HE.out]) ?_⟩, Lib.hid (HI.out.send false s), by simp [sendT]; omega⟩
                    intro j h2 h6 hj
                    obtain rfl | rfl | rfl | rfl : j = 3 ∨ j = 4 ∨ j = 5 ∨ j = 6 := by omega
                    all_goals simp [sendT, Tk.ns, Tk.xs]
                  go_wp2_with fail
                  generalize w7.setCell ⟨t, 2, none⟩ (.slice ao7 (T.toA.length + 1) cap7) = Wz at HRz ⊢
                  clear H6 HS7 HC7 HSB HSR y3 y3' z2 z7 f7 H5 HI
                  obtain ⟨pz, qz, vz, hz⟩ := HRz.out
                  have y2 := hz.c2
                  have y3 := hz.c3
                  have y4 := hz.c4
                  have y5 := hz.c5
                  have HB1 := Lib.hid (begins5 hz HIz.out (by omega))
                  have HB2 := Lib.hid (begins4 hz HIz.out (by omega))
                  clear hz
                  go_quiet (first | (go_at_call 26; with_reducible refine Calls.quiet_of (HB1.out _)) | (go_at_call 26; with_reducible refine Calls.quiet_of (HB2.out _)))
                  go_wp2_with fail
                  go_roundg (gk - 1)
                  case measure => omega
                  case rel => exact ⟨i + 1, Lz, Tz, by go_num, by omega, by omega, Lib.hid (HRz.out.drewN _), HIz, by omega⟩
            · have HS := Lib.hid (send_any H1.out.drew.rb (by omega) s)
              have HE := Lib.hid he
              have hcb : (sendErr T.b s == 0) = false := beq_eq_false_iff_ne.2 he
              generalize sendErr T.b s = cz at HS hcb
              clear he hok
              go_region_law (go_simp; go_at_call 11; refine HS.out.mono ?_; rintro e w5 ⟨rfl, hr, hc⟩; have HR5 := Lib.hid hr; have HC5 := Lib.hid hc; clear hr hc HS)
              all_goals
                obtain ⟨Lz, Tz, HRz, HIz, hpz⟩ : ∃ Lz Tz, Hid (RT w Lz w5 t Tz (i + 1)) ∧ Hid (Inv ep Tz) ∧ Tz.pool.length ≤ 40 * (i + 1) :=
                  ⟨_, _, Lib.hid ⟨_, _, _, H1.out.drew.turnB (Nat.le_succ i) HC5.out (rep_grown HR5.out HC5.out.size)⟩, Lib.hid (by rw [sent_not HE.out]; exact HI.out), by show T.pool.length ≤ _; omega⟩
                clear HR5 HC5 H1 x0' x1' x2' y0 HI
                go_wp2_with fail
                obtain ⟨pz, qz, vz, hz⟩ := HRz.out
                have y2 := hz.c2
                have y3 := hz.c3
                have y4 := hz.c4
                have y5 := hz.c5
                have HB1 := Lib.hid (begins5 hz HIz.out (by omega))
                have HB2 := Lib.hid (begins4 hz HIz.out (by omega))
                clear hz
                go_quiet (first | (go_at_call 26; with_reducible refine Calls.quiet_of (HB1.out _)) | (go_at_call 26; with_reducible refine Calls.quiet_of (HB2.out _)))
                go_wp2_with fail
                go_roundg (gk - 1)
                case measure => omega
                case rel => exact ⟨i + 1, Lz, Tz, by go_num, by omega, by omega, Lib.hid (HRz.out.drewN _), HIz, by omega⟩
          ·
            by_cases k3 : k = 3
            · subst k3
              go_wp2_with fail
              obtain ⟨pa1, pb1, vs1, hrt⟩ := HR.out
              have H1 := Lib.hid (hrt.alloc (.cells #[.int .i64 3, .int .i64 m, .string s] 26) 9)
              have hbx := heap_alloc_new wr (.cells #[.int .i64 3, .int .i64 m, .string s] 26)
              have hbl : wr.heap.size < (wr.alloc (.cells #[.int .i64 3, .int .i64 m, .string s] 26)).heap.size := by simp
              have hbL : rel L wr 9 wr.heap.size = 9 := rel_fresh _ _ _
              generalize wr.alloc (.cells #[.int .i64 3, .int .i64 m, .string s] 26) = W1 at H1 hbx hbl ⊢
              generalize rel L wr 9 = L1 at H1 hbL
              have x0' := blk_cell hbx 0 _ rfl
              have x1' := blk_cell hbx 1 _ rfl
              have x2' := blk_cell hbx 2 _ rfl
              generalize wr.heap.size = bx at *
              clear hbx hrt HR x0 x1 x2
              have HS := Lib.hid (sends_any ⟨pa1, pb1, vs1, H1.out⟩ (by omega) (by omega) true)
              have hoa := H1.out.ra.ok
              have hob := H1.out.rb.ok
              have hol := outs_len hoa hob true
              have HIo := Lib.hid (HI.out.out hoa hob true)
              clear hoa hob
              go_wp2_with fail
              refine HS.out.mono ?_
              rintro e w5 ⟨v5, L5, rfl, hrt, hsl, hk⟩
              obtain ⟨Lz, Tz, HRz, HIz, hpz⟩ : ∃ Lz Tz, Hid (RT w Lz w5 t Tz (i + 1)) ∧ Hid (Inv ep Tz) ∧ Tz.pool.length ≤ 40 * (i + 1) :=
                ⟨L5, _, Lib.hid (hrt.mono (Nat.le_succ i)), HIo, by have := pool_out T true; omega⟩
              clear hsl hk hrt HS HI H1 x0' x1' x2' HIo hol
              go_wp2_with fail
              obtain ⟨pz, qz, vz, hz⟩ := HRz.out
              have y2 := hz.c2
              have y3 := hz.c3
              have y4 := hz.c4
              have y5 := hz.c5
              have HB1 := Lib.hid (begins5 hz HIz.out (by omega))
              have HB2 := Lib.hid (begins4 hz HIz.out (by omega))
              clear hz
              go_quiet (first | (go_at_call 26; with_reducible refine Calls.quiet_of (HB1.out _)) | (go_at_call 26; with_reducible refine Calls.quiet_of (HB2.out _)))
              go_wp2_with fail
              go_roundg (gk - 1)
              case measure => omega
              case rel => exact ⟨i + 1, Lz, Tz, by go_num, by omega, by omega, Lib.hid (HRz.out.drewN _), HIz, by omega⟩
            ·
              by_cases k4 : k = 4
              · subst k4
                go_wp2_with fail
                obtain ⟨pa1, pb1, vs1, hrt⟩ := HR.out
                have H1 := Lib.hid (hrt.alloc (.cells #[.int .i64 4, .int .i64 m, .string s] 26) 9)
                have hbx := heap_alloc_new wr (.cells #[.int .i64 4, .int .i64 m, .string s] 26)
                have hbl : wr.heap.size < (wr.alloc (.cells #[.int .i64 4, .int .i64 m, .string s] 26)).heap.size := by simp
                have hbL : rel L wr 9 wr.heap.size = 9 := rel_fresh _ _ _
                generalize wr.alloc (.cells #[.int .i64 4, .int .i64 m, .string s] 26) = W1 at H1 hbx hbl ⊢
                generalize rel L wr 9 = L1 at H1 hbL
                have x0' := blk_cell hbx 0 _ rfl
                have x1' := blk_cell hbx 1 _ rfl
                have x2' := blk_cell hbx 2 _ rfl
                generalize wr.heap.size = bx at *
                clear hbx hrt HR x0 x1 x2
                have HS := Lib.hid (sends_any ⟨pa1, pb1, vs1, H1.out⟩ (by omega) (by omega) false)
                have hoa := H1.out.ra.ok
                have hob := H1.out.rb.ok
                have hol := outs_len hoa hob false
                have HIo := Lib.hid (HI.out.out hoa hob false)
                clear hoa hob
                go_wp2_with fail
                refine HS.out.mono ?_
                rintro e w5 ⟨v5, L5, rfl, hrt, hsl, hk⟩
                obtain ⟨Lz, Tz, HRz, HIz, hpz⟩ : ∃ Lz Tz, Hid (RT w Lz w5 t Tz (i + 1)) ∧ Hid (Inv ep Tz) ∧ Tz.pool.length ≤ 40 * (i + 1) :=
                  ⟨L5, _, Lib.hid (hrt.mono (Nat.le_succ i)), HIo, by have := pool_out T false; omega⟩
                clear hsl hk hrt HS HI H1 x0' x1' x2' HIo hol
                go_wp2_with fail
                obtain ⟨pz, qz, vz, hz⟩ := HRz.out
                have y2 := hz.c2
                have y3 := hz.c3
                have y4 := hz.c4
                have y5 := hz.c5
                have HB1 := Lib.hid (begins5 hz HIz.out (by omega))
                have HB2 := Lib.hid (begins4 hz HIz.out (by omega))
                clear hz
                go_quiet (first | (go_at_call 26; with_reducible refine Calls.quiet_of (HB1.out _)) | (go_at_call 26; with_reducible refine Calls.quiet_of (HB2.out _)))
                go_wp2_with fail
                go_roundg (gk - 1)
                case measure => omega
                case rel => exact ⟨i + 1, Lz, Tz, by go_num, by omega, by omega, Lib.hid (HRz.out.drewN _), HIz, by omega⟩
              ·
                by_cases k5 : k = 5
                · subst k5
                  go_wp2_with fail
                  obtain ⟨pa1, pb1, vs1, hrt⟩ := HR.out
                  have H1 := Lib.hid (hrt.alloc (.cells #[.int .i64 5, .int .i64 m, .string s] 26) 9)
                  have hbx := heap_alloc_new wr (.cells #[.int .i64 5, .int .i64 m, .string s] 26)
                  have hbl : wr.heap.size < (wr.alloc (.cells #[.int .i64 5, .int .i64 m, .string s] 26)).heap.size := by simp
                  have hbL : rel L wr 9 wr.heap.size = 9 := rel_fresh _ _ _
                  generalize wr.alloc (.cells #[.int .i64 5, .int .i64 m, .string s] 26) = W1 at H1 hbx hbl ⊢
                  generalize rel L wr 9 = L1 at H1 hbL
                  have x0' := blk_cell hbx 0 _ rfl
                  have x1' := blk_cell hbx 1 _ rfl
                  have x2' := blk_cell hbx 2 _ rfl
                  generalize wr.heap.size = bx at *
                  clear hbx hrt HR x0 x1 x2
                  by_cases h0 : T.pool.length = 0
                  · have y6 := H1.out.c6
                    obtain ⟨a6, c6, hv6⟩ := (H1.out.sl 6 (by decide) (by decide)).slice
                    rw [hv6, show T.ns 6 = T.pool.length from rfl] at y6
                    have d5 : decide (0 < T.pool.length) = false := decide_eq_false (by omega)
                    clear hv6 h0
                    go_quiet (fail)
                    have H1' := Lib.hid (H1.out.drewN nq)
                    generalize W1.drewN nq = W2 at H1' ⊢
                    obtain ⟨Lz, Tz, HRz, HIz, hpz⟩ : ∃ Lz Tz, Hid (RT w Lz W2 t Tz (i + 1)) ∧ Hid (Inv ep Tz) ∧ Tz.pool.length ≤ 40 * (i + 1) :=
                      ⟨L1, T, Lib.hid (RT.mono ⟨pa1, pb1, vs1, H1'.out⟩ (Nat.le_succ i)), HI, by omega⟩
                    clear HI H1 H1' y6 x0' x1' x2'
                    go_wp2_with fail
                    obtain ⟨pz, qz, vz, hz⟩ := HRz.out
                    have y2 := hz.c2
                    have y3 := hz.c3
                    have y4 := hz.c4
                    have y5 := hz.c5
                    have HB1 := Lib.hid (begins5 hz HIz.out (by omega))
                    have HB2 := Lib.hid (begins4 hz HIz.out (by omega))
                    clear hz
                    go_quiet (first | (go_at_call 26; with_reducible refine Calls.quiet_of (HB1.out _)) | (go_at_call 26; with_reducible refine Calls.quiet_of (HB2.out _)))
                    go_wp2_with fail
                    go_roundg (gk - 1)
                    case measure => omega
                    case rel => exact ⟨i + 1, Lz, Tz, by go_num, by omega, by omega, Lib.hid (HRz.out.drewN _), HIz, by omega⟩
                  · obtain ⟨b6, o6, c6, hv6, _, _, hcap6, hx6⟩ := (H1.out.sl 6 (by decide) (by decide)).form (show 0 < T.ns 6 by show 0 < T.pool.length; omega)
                    obtain ⟨j, hj, hjl⟩ : ∃ j : Nat, wrap64 ((IntKind.u64.wrap m).tmod (T.pool.length : Int)) = (j : Int) ∧ j < T.pool.length := by
                      have hu : 0 ≤ IntKind.u64.wrap m := by simp [IntKind.wrap, IntKind.bits, IntKind.signed]; omega
                      rw [Int.tmod_eq_emod_of_nonneg hu]
                      have k2 := Int.emod_nonneg (IntKind.u64.wrap m) (show (T.pool.length : Int) ≠ 0 by omega)
                      have k3 := Int.emod_lt_of_pos (IntKind.u64.wrap m) (show (0 : Int) < (T.pool.length : Int) by omega)
                      generalize IntKind.u64.wrap m % (T.pool.length : Int) = mm at k2 k3
                      refine ⟨mm.toNat, ?_, by omega⟩
                      unfold wrap64; omega
                    have hj2 : IntKind.i64.wrap ((IntKind.u64.wrap m).tmod (T.pool.length : Int)) = (j : Int) := by
                      have hu : 0 ≤ IntKind.u64.wrap m := by simp [IntKind.wrap, IntKind.bits, IntKind.signed]; omega
                      have k2 := Int.emod_nonneg (IntKind.u64.wrap m) (show (T.pool.length : Int) ≠ 0 by omega)
                      have k3 := Int.emod_lt_of_pos (IntKind.u64.wrap m) (show (0 : Int) < (T.pool.length : Int) by omega)
                      have k4 := Int.tmod_eq_emod_of_nonneg (b := (T.pool.length : Int)) hu
                      rw [k4] at hj ⊢
                      generalize IntKind.u64.wrap m % (T.pool.length : Int) = mm at k2 k3 hj ⊢
                      rw [IntKind.wrap_i64]
                      unfold wrap64 at hj
                      omega
                    obtain ⟨g, hg⟩ : ∃ g, T.pool[j]? = some g := ⟨_, List.getElem?_eq_getElem hjl⟩
                    have y6 := H1.out.c6
                    rw [hv6, show T.ns 6 = T.pool.length from rfl] at y6
                    have hc2 : ∀ f, f < 7 → ∀ u, (scells g)[f]? = some u → W1.cell? ⟨b6, o6 + j * 7 + f, none⟩ = some u := by
                      intro f hf u hu
                      rw [Nat.add_assoc]
                      exact hx6 _ u (by show (pcells T.pool)[j * 7 + f]? = some u; rw [pcells_at _ j f g hg hf]; exact hu)
                    obtain ⟨he, hinv⟩ := HI.out.come H1.out.ra.ok H1.out.rb.ok (HI.out.pool g (List.mem_of_getElem? hg))
                    have HI' := Lib.hid hinv
                    have hA : T.atA.length ≤ 1000 := by have := HI.out.ba.begins.1; have := HI.out.ba.given; have := H1.out.rb.ok.given; omega
                    have hB : T.atB.length ≤ 1000 := by have := HI.out.ab.begins.1; have := HI.out.ab.given; have := H1.out.ra.ok.given; omega
                    have HC := Lib.hid (comes_any ⟨pa1, pb1, vs1, H1.out.drew⟩ (by omega) (by omega) (by omega) g he)
                    have hpc : (comeT T g).pool = T.pool := by unfold comeT; split <;> rfl
                    generalize comeT T g = T5 at HC HI' hpc
                    obtain ⟨⟨c, u, ep', sq, ak, b⟩, f⟩ := g
                    unfold Sv at HC
                    have g0 : W1.cell? ⟨b6, o6 + j * 7, none⟩ = _ := hc2 0 (by decide) _ rfl
                    have g1 : W1.cell? ⟨b6, o6 + j * 7 + 1, none⟩ = _ := hc2 1 (by decide) _ rfl
                    have g2 : W1.cell? ⟨b6, o6 + j * 7 + 2, none⟩ = _ := hc2 2 (by decide) _ rfl
                    have g3 : W1.cell? ⟨b6, o6 + j * 7 + 3, none⟩ = _ := hc2 3 (by decide) _ rfl
                    have g4 : W1.cell? ⟨b6, o6 + j * 7 + 4, none⟩ = _ := hc2 4 (by decide) _ rfl
                    have g5 : W1.cell? ⟨b6, o6 + j * 7 + 5, none⟩ = _ := hc2 5 (by decide) _ rfl
                    have g6 : W1.cell? ⟨b6, o6 + j * 7 + 6, none⟩ = _ := hc2 6 (by decide) _ rfl
                    have d5 : decide (0 < T.pool.length) = true := decide_eq_true (by omega)
                    have hwl : IntKind.u64.wrap (T.pool.length : Int) = (T.pool.length : Int) := by simp [IntKind.wrap, IntKind.bits, IntKind.signed]; omega
                    have j0 : (0 : Int) ≤ (j : Int) := by omega
                    have j1 : (j : Int) < (T.pool.length : Int) := by omega
                    have hnz : ¬ ((T.pool.length : Int) = 0) := by omega
                    clear hc2 hx6 hg hinv he hv6 HI
                    go_still_tail 25, (by kernel_rfl)
                    change wpList _ _ _ _ _ W1.drew
                    go_wp2_with fail
                    with_reducible refine HC.out.mono ?_
                    rintro e w5 ⟨rfl, L5, hrt, hk⟩
                    have HR5 := Lib.hid hrt
                    clear hrt hk HC
                    all_goals
                      obtain ⟨Lz, Tz, HRz, HIz, hpz⟩ : ∃ Lz Tz, Hid (RT w Lz w5 t Tz (i + 1)) ∧ Hid (Inv ep Tz) ∧ Tz.pool.length ≤ 40 * (i + 1) :=
                        ⟨L5, T5, HR5, HI', by rw [hpc]; omega⟩
                      clear HR5 HI' H1 x0' x1' x2' y6 g0 g1 g2 g3 g4 g5 g6 hwl hj hj2
                      go_wp2_with fail
                      obtain ⟨pz, qz, vz, hz⟩ := HRz.out
                      have y2 := hz.c2
                      have y3 := hz.c3
                      have y4 := hz.c4
                      have y5 := hz.c5
                      have HB1 := Lib.hid (begins5 hz HIz.out (by omega))
                      have HB2 := Lib.hid (begins4 hz HIz.out (by omega))
                      clear hz
                      go_quiet (first | (go_at_call 26; with_reducible refine Calls.quiet_of (HB1.out _)) | (go_at_call 26; with_reducible refine Calls.quiet_of (HB2.out _)))
                      go_wp2_with fail
                      go_roundg (gk - 1)
                      case measure => omega
                      case rel => exact ⟨i + 1, Lz, Tz, by go_num, by omega, by omega, Lib.hid (HRz.out.drewN _), HIz, by omega⟩
                ·
                  have kb1 : (k == 1) = false := beq_eq_false_iff_ne.2 k1
                  have kb2 : (k == 2) = false := beq_eq_false_iff_ne.2 k2
                  have kb3 : (k == 3) = false := beq_eq_false_iff_ne.2 k3
                  have kb4 : (k == 4) = false := beq_eq_false_iff_ne.2 k4
                  have kb5 : (k == 5) = false := beq_eq_false_iff_ne.2 k5
                  go_wp2_with fail
                  obtain ⟨pa1, pb1, vs1, hrt⟩ := HR.out
                  have H1 := Lib.hid (hrt.alloc (.cells #[.int .i64 k, .int .i64 m, .string s] 26) 9)
                  have hbx := heap_alloc_new wr (.cells #[.int .i64 k, .int .i64 m, .string s] 26)
                  have hbl : wr.heap.size < (wr.alloc (.cells #[.int .i64 k, .int .i64 m, .string s] 26)).heap.size := by simp
                  have hbL : rel L wr 9 wr.heap.size = 9 := rel_fresh _ _ _
                  generalize wr.alloc (.cells #[.int .i64 k, .int .i64 m, .string s] 26) = W1 at H1 hbx hbl ⊢
                  generalize rel L wr 9 = L1 at H1 hbL
                  have x0' := blk_cell hbx 0 _ rfl
                  have x1' := blk_cell hbx 1 _ rfl
                  have x2' := blk_cell hbx 2 _ rfl
                  generalize wr.heap.size = bx at *
                  clear hbx hrt HR x0 x1 x2
                  obtain ⟨Lz, Tz, HRz, HIz, hpz⟩ : ∃ Lz Tz, Hid (RT w Lz W1 t Tz (i + 1)) ∧ Hid (Inv ep Tz) ∧ Tz.pool.length ≤ 40 * (i + 1) :=
                    ⟨L1, T, Lib.hid (RT.mono ⟨pa1, pb1, vs1, H1.out⟩ (Nat.le_succ i)), HI, by omega⟩
                  clear HI H1 x0' x1' x2'
                  obtain ⟨pz, qz, vz, hz⟩ := HRz.out
                  have y2 := hz.c2
                  have y3 := hz.c3
                  have y4 := hz.c4
                  have y5 := hz.c5
                  have HB1 := Lib.hid (begins5 hz HIz.out (by omega))
                  have HB2 := Lib.hid (begins4 hz HIz.out (by omega))
                  clear hz
                  go_quiet (first | (go_at_call 26; with_reducible refine Calls.quiet_of (HB1.out _)) | (go_at_call 26; with_reducible refine Calls.quiet_of (HB2.out _)))
                  go_wp2_with fail
                  go_roundg (gk - 1)
                  case measure => omega
                  case rel => exact ⟨i + 1, Lz, Tz, by go_num, by omega, by omega, Lib.hid (HRz.out.drewN _), HIz, by omega⟩

      · have d1 : decide (i < n) = true := decide_eq_true hi
        have d2 : decide ((i : Int) < 120) = false := decide_eq_false (by omega)
        go_wp2_with fail
        go_ret2
        exact ⟨t, L, T, rfl, HR.out.mono (by omega), HI.out, by omega⟩
    · have d1 : decide (i < n) = false := decide_eq_false hi
      go_wp2_with fail
      go_ret2
      exact ⟨t, L, T, rfl, HR.out.mono (by omega), HI.out, by omega⟩

end Go.Proofs.Ytjlhipnlacfekaa.Tm
