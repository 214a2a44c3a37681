-- PRINTED BY print.sh 35421559b90ae4d0a3588c463048766b98c2df88dd9212a6774a882060cdf62d: not written by this session
import Derived.Test.YtioiijekbnammaaPNibShortx0
import Derived.Test.YtioiijekbnammaaPNibShortx1
namespace Go.Proofs.Ytioiijekbnammaa.PNibShort
open Go.RowKit Go.Proofs.YtioiijekbnammaaW.PrintWords Go.Proofs.YtioiijekbnammaaW.PrintLast Go.Proofs.YtioiijekbnammaaW.PrintMore
attribute [local go_sem] max2_int min2_int max_two min_two max_three min_three max_four min_four   -- for this text's walks alone
set_option linter.unusedVariables false
set_option linter.unusedSimpArgs false

/-! ### seneschallaw01_NibShort: function 8 -/
mutual
def seneschallaw01_NibShort.j0 : Nat → Int → Int → Option (Bool)
  | 0, _, _ => none
  | k + 1, x3, x4 => seneschallaw01_NibShort.l0 k x3 x4 0
def seneschallaw01_NibShort.l0 : Nat → Int → Int → Int → Option (Bool)
  | 0, _, _, _ => none
  | k + 1, x3, x4, x5 => if x4 > 0 then (seneschallaw01_NibShort.l0 k x3 (wrap64 (Int.tdiv x4 2)) (wrap64 (x5 + 1))) else (if x3 = (mx 1 (wrap64 (Int.tdiv (wrap64 ((wrap64 (x5 + 1)) + 6)) 7))) then (some true) else (if x5 = 0 then (some (x3 == 1)) else (some false)))
end
def seneschallaw01_NibShort.f (k : Nat) (a0 : Int) : Option (Bool) := (seneschallaw01_awake.f k).bind fun t124 => (if t124 = true then ((nib_Int.f k a0).bind fun t125 => (if a0 < 0 then (seneschallaw01_NibShort.j0 k (t125.size : Int) (wrap64 (-(wrap64 (a0 + 1))))) else (seneschallaw01_NibShort.j0 k (t125.size : Int) a0))) else (some false))
theorem seneschallaw01_NibShort.mono_l : ∀ k, (∀ y0 y1, LeO (seneschallaw01_NibShort.j0 k y0 y1) (seneschallaw01_NibShort.j0 (k + 1) y0 y1)) ∧ (∀ y0 y1 y2, LeO (seneschallaw01_NibShort.l0 k y0 y1 y2) (seneschallaw01_NibShort.l0 (k + 1) y0 y1 y2))
  | 0 => ⟨fun _ _ r h => by simp [seneschallaw01_NibShort.j0] at h, fun _ _ _ r h => by simp [seneschallaw01_NibShort.l0] at h⟩
  | k + 1 => by
    obtain ⟨ih0, ih1⟩ := seneschallaw01_NibShort.mono_l k
    refine ⟨?_, ?_⟩
    · intro y0 y1
      unfold seneschallaw01_NibShort.j0
      repeat' first
      | (with_reducible exact ih0 _ _)
      | (with_reducible exact ih1 _ _ _)
      | (with_reducible exact nib_Int.mono _ _)
      | (with_reducible exact seneschallaw01_awake.mono _)
      | (with_reducible exact LeO.refl _)
      | (with_reducible exact LeO.none _)
      | (with_reducible refine LeO.ite ?_ ?_)
      | (with_reducible refine LeO.bind ?_ (fun _ => ?_))
      | exact ih0 _ _
      | exact ih1 _ _ _
      | exact nib_Int.mono _ _
      | exact seneschallaw01_awake.mono _
      | exact LeO.none _
      | refine LeO.ite ?_ ?_
      | refine LeO.bind ?_ (fun _ => ?_)
    · intro y0 y1 y2
      unfold seneschallaw01_NibShort.l0
      repeat' first
      | (with_reducible exact ih0 _ _)
      | (with_reducible exact ih1 _ _ _)
      | (with_reducible exact nib_Int.mono _ _)
      | (with_reducible exact seneschallaw01_awake.mono _)
      | (with_reducible exact LeO.refl _)
      | (with_reducible exact LeO.none _)
      | (with_reducible refine LeO.ite ?_ ?_)
      | (with_reducible refine LeO.bind ?_ (fun _ => ?_))
      | exact ih0 _ _
      | exact ih1 _ _ _
      | exact nib_Int.mono _ _
      | exact seneschallaw01_awake.mono _
      | exact LeO.none _
      | refine LeO.ite ?_ ?_
      | refine LeO.bind ?_ (fun _ => ?_)
theorem seneschallaw01_NibShort.mono : ∀ a0 k, LeO (seneschallaw01_NibShort.f k a0) (seneschallaw01_NibShort.f (k + 1) a0) := by
  intro a0 k
  obtain ⟨ih0, ih1⟩ := seneschallaw01_NibShort.mono_l k
  unfold seneschallaw01_NibShort.f
  repeat' first
      | (with_reducible exact ih0 _ _)
      | (with_reducible exact ih1 _ _ _)
      | (with_reducible exact nib_Int.mono _ _)
      | (with_reducible exact seneschallaw01_awake.mono _)
      | (with_reducible exact LeO.refl _)
      | (with_reducible exact LeO.none _)
      | (with_reducible refine LeO.ite ?_ ?_)
      | (with_reducible refine LeO.bind ?_ (fun _ => ?_))
      | exact ih0 _ _
      | exact ih1 _ _ _
      | exact nib_Int.mono _ _
      | exact seneschallaw01_awake.mono _
      | exact LeO.none _
      | refine LeO.ite ?_ ?_
      | refine LeO.bind ?_ (fun _ => ?_)
set_option maxHeartbeats 8000000 in
set_option maxRecDepth 100000 in
theorem seneschallaw01_NibShort.calls (k : Nat) (a0 : Int) (r : Bool) (w : World) (h : seneschallaw01_NibShort.f k a0 = some r) :
    Calls Try.prog 8 #[.int .i64 a0] w fun e w' => e = .returned (.bool r) ∧ Below w.heap.size w w' := by
  have HB := Aside0.mk (Below.refl w.heap.size w)
  have H : ((seneschallaw01_awake.f k).bind fun t124 => (if t124 = true then ((nib_Int.f k a0).bind fun t125 => (if a0 < 0 then (seneschallaw01_NibShort.j0 k (t125.size : Int) (wrap64 (-(wrap64 (a0 + 1))))) else (seneschallaw01_NibShort.j0 k (t125.size : Int) a0))) else (some false))) = some r := h
  clear h
  replace H := Option.bind_eq_some_iff.mp H
  obtain ⟨t124, A20, H⟩ := H
  replace H : (if t124 = true then ((nib_Int.f k a0).bind fun t125 => (if a0 < 0 then (seneschallaw01_NibShort.j0 k (t125.size : Int) (wrap64 (-(wrap64 (a0 + 1))))) else (seneschallaw01_NibShort.j0 k (t125.size : Int) a0))) else (some false)) = some r := H
  have A2 := Aside0.mk A20
  clear A20
  by_cases c3 : t124 = true
  · subst c3
    have H1 : ((nib_Int.f k a0).bind fun t125 => (if a0 < 0 then (seneschallaw01_NibShort.j0 k (t125.size : Int) (wrap64 (-(wrap64 (a0 + 1))))) else (seneschallaw01_NibShort.j0 k (t125.size : Int) a0))) = some r := by rw [if_pos rfl] at H; exact H
    clear H
    have H := H1
    clear H1
    replace H := Option.bind_eq_some_iff.mp H
    obtain ⟨t125, A40, H⟩ := H
    replace H : (if a0 < 0 then (seneschallaw01_NibShort.j0 k (t125.size : Int) (wrap64 (-(wrap64 (a0 + 1))))) else (seneschallaw01_NibShort.j0 k (t125.size : Int) a0)) = some r := H
    have A4 := Aside0.mk A40
    clear A40
    have HC5 := Aside0.mk H
    clear H
    go_enter Try.func8, Try.ntmps8
    go_upto_if 13 with (first | ((with_reducible refine gate_callee (f := 11) rfl ?_); refine goesL_ (some 6) rfl rfl Try.func11 (by kernel_rfl) rfl #[] rfl (by (try simp only [List.map_toArray, List.map_cons, List.map_nil]); first | done | rfl | (simp only [List.length_drop, List.length_take]; rfl)) ?_; (with_reducible refine (seneschallaw01_awake.calls k  true _ A2.out).mono ?_); rintro e w6 ⟨rfl, hb⟩; refine ⟨_, rfl, ?_⟩; have n0_ := Aside0.mk (below_step (by repeat (first | (with_reducible first | exact HB.out | apply below_alloc | apply pw_below_drewN | apply below_drew1) | exact HB.out)) hb); clear HB; have HB := n0_; clear n0_; (try clear hb); (try clear hb2); (try clear hk); (try clear hi)) | ((with_reducible refine gate_callee (f := 12) rfl ?_); refine goesL_ (some 9) rfl rfl Try.func12 (by kernel_rfl) rfl #[.int .i64 a0] rfl (by (try simp only [List.map_toArray, List.map_cons, List.map_nil]); first | done | rfl | (simp only [List.length_drop, List.length_take]; rfl)) ?_; (with_reducible refine (nib_Int.calls k a0 t125 _ A4.out).mono ?_); rintro e w7 ⟨rfl, hb⟩; refine ⟨_, rfl, ?_⟩; have n0_ := Aside0.mk (below_step (by repeat (first | (with_reducible first | exact HB.out | apply below_alloc | apply pw_below_drewN | apply below_drew1) | exact HB.out)) hb); clear HB; have HB := n0_; clear n0_; (try clear hb); (try clear hb2); (try clear hk); (try clear hi)))
    (try simp only [Act.put, List.setIfInBounds_toArray, List.set_cons_zero, List.set_cons_succ])
    go_cut [4] (fun v4 wc => ∃ (kq : Nat) (x4_4 : Int), v4 = .int .i64 x4_4 ∧ Aside0 (seneschallaw01_NibShort.j0 kq (t125.size : Int) x4_4 = some r) ∧ Aside0 (kq ≤ k) ∧ Aside0 (Below w.heap.size w wc))
    case first =>
      have H := HC5.out
      clear HC5
      by_cases c8 : a0 < 0
      · rw [if_pos c8] at H
        have c8b0 : decide (a0 < 0) = true := decide_eq_true c8
        clear c8
        (first | rw [c8b0] | (simp only [i64_w, i32_w]; rw [c8b0]) | skip)
        have H' := Aside0.mk H
        clear H
        go_wp2
        go_meet
        case rel => exact ⟨_, (wrap64 (-(wrap64 (a0 + 1)))), (by first | rfl | (simp; done) | (simp [*]; done)), H', ⟨by first | omega | exact Nat.le_refl _⟩, ⟨by repeat (first | (with_reducible first | exact HB.out | apply below_alloc | apply pw_below_drewN | apply below_drew1) | exact HB.out)⟩⟩
      · rw [if_neg c8] at H
        have c8b0 : decide (a0 < 0) = false := decide_eq_false c8
        clear c8
        (first | rw [c8b0] | (simp only [i64_w, i32_w]; rw [c8b0]) | skip)
        have H' := Aside0.mk H
        clear H
        go_wp2
        go_meet
        case rel => exact ⟨_, (a0), (by first | rfl | (simp; done) | (simp [*]; done)), H', ⟨by first | omega | exact Nat.le_refl _⟩, ⟨by repeat (first | (with_reducible first | exact HB.out | apply below_alloc | apply pw_below_drewN | apply below_drew1) | exact HB.out)⟩⟩
    case rest =>
      clear HC5
      try clear c1
      try clear p2
      try clear c3
      try clear p6
      try clear c8
      try clear c8b0
      obtain ⟨kq, x4_4, rfl, HA, HJ4, HB⟩ := hcut
      cases kq with
      | zero => exact absurd HA.out (by simp [seneschallaw01_NibShort.j0])
      | succ kj4 =>
        have H := HA.out
        clear HA
        simp only [seneschallaw01_NibShort.j0] at H
        have H' := Aside0.mk H
        clear H
        go_wp2
        go_loopg [4, 5] kj4 (fun kq v4 v5 w' => ∃ (x4_2 : Int) (x5_2 : Int), v4 = .int .i64 x4_2 ∧ v5 = .int .i64 x5_2 ∧ Aside0 (seneschallaw01_NibShort.l0 kq (t125.size : Int) x4_2 x5_2 = some r) ∧ Aside0 (kq ≤ kj4) ∧ Aside0 (Below w.heap.size w w'))
        case atStart => exact ⟨(x4_4), (0), (by first | rfl | (simp; done) | (simp [*]; done)), (by first | rfl | (simp; done) | (simp [*]; done)), H', ⟨Nat.le_refl _⟩, ⟨by repeat (first | (with_reducible first | exact HB.out | apply below_alloc | apply pw_below_drewN | apply below_drew1) | exact HB.out)⟩⟩
        case round =>
          clear H'
          try clear c1
          try clear p2
          try clear c3
          try clear p6
          try clear c8
          try clear c8b0
          try clear p2
          try clear p6
          obtain ⟨x4_2, x5_2, rfl, rfl, HA, HK2, HB⟩ := hrel
          cases gk with
          | zero => exact absurd HA.out (by simp [seneschallaw01_NibShort.l0])
          | succ k2 =>
            have H := HA.out
            clear HA
            simp only [seneschallaw01_NibShort.l0] at H
            by_cases c9 : x4_2 > 0
            · rw [if_pos c9] at H
              have c9b0 : decide (0 < x4_2) = true := decide_eq_true c9
              clear c9
              have H' := Aside0.mk H
              clear H
              go_wp2
              go_roundg k2
              case measure => have := HJ4.out; have := HK2.out; omega
              case rel => exact ⟨(wrap64 (Int.tdiv x4_2 2)), (wrap64 (x5_2 + 1)), (by first | rfl | (simp; done) | (simp [*]; done)), (by first | rfl | (simp; done) | (simp [*]; done)), H', ⟨by have := HJ4.out; have := HK2.out; omega⟩, ⟨by repeat (first | (with_reducible first | exact HB.out | apply below_alloc | apply pw_below_drewN | apply below_drew1) | exact HB.out)⟩⟩
            · rw [if_neg c9] at H
              have c9b0 : decide (0 < x4_2) = false := decide_eq_false c9
              clear c9
              obtain ⟨ji10, hji10⟩ : ∃ j_ : Int, (mx 1 (wrap64 (Int.tdiv (wrap64 ((wrap64 (x5_2 + 1)) + 6)) 7))) = j_ := ⟨_, rfl⟩
              replace H : (if (t125.size : Int) = (ji10) then (some true) else (if x5_2 = 0 then (some ((t125.size : Int) == 1)) else (some false))) = some r := by first | (rw [hji10] at H; exact H) | (simp only [hji10] at H ⊢; exact H)
              have hji10_ : (if 1 < (wrap64 (Int.tdiv (wrap64 ((wrap64 (x5_2 + 1)) + 6)) 7)) then (wrap64 (Int.tdiv (wrap64 ((wrap64 (x5_2 + 1)) + 6)) 7)) else 1) = ji10 := hji10
              by_cases c11 : (t125.size : Int) = (ji10)
              · rw [if_pos c11] at H
                have c11b0 : ((t125.size : Int) == (ji10)) = true := beq_iff_eq.mpr c11
                have c11b1 : ((t125.size : Int) != (ji10)) = false := bne_eq_false_iff_eq.mpr c11
                clear c11
                obtain rfl := Option.some.inj H
                go_wp2
                go_ret
                exact ⟨by first | rfl | (simp [errW_none, errW_some] <;> rfl) | (simp only [← hji10]; first | rfl | (simp [errW_none, errW_some] <;> rfl)) | (simp [*, errW_none, errW_some] <;> rfl), by repeat (first | (with_reducible first | exact HB.out | apply below_alloc | apply pw_below_drewN | apply below_drew1) | exact HB.out)⟩
              · rw [if_neg c11] at H
                have c11b0 : ((t125.size : Int) == (ji10)) = false := beq_eq_false_iff_ne.mpr c11
                have c11b1 : ((t125.size : Int) != (ji10)) = true := bne_iff_ne.mpr c11
                by_cases c12 : x5_2 = 0
                · rw [if_pos c12] at H
                  have c12b0 : (x5_2 == 0) = true := beq_iff_eq.mpr c12
                  have c12b1 : (x5_2 != 0) = false := bne_eq_false_iff_eq.mpr c12
                  clear c12
                  obtain rfl := Option.some.inj H
                  go_wp2
                  go_ret
                  exact ⟨by first | rfl | (simp [errW_none, errW_some] <;> rfl) | (simp only [← hji10]; first | rfl | (simp [errW_none, errW_some] <;> rfl)) | (simp [*, errW_none, errW_some] <;> rfl), by repeat (first | (with_reducible first | exact HB.out | apply below_alloc | apply pw_below_drewN | apply below_drew1) | exact HB.out)⟩
                · rw [if_neg c12] at H
                  have c12b0 : (x5_2 == 0) = false := beq_eq_false_iff_ne.mpr c12
                  have c12b1 : (x5_2 != 0) = true := bne_iff_ne.mpr c12
                  obtain rfl := Option.some.inj H
                  go_wp2
                  go_ret
                  exact ⟨by first | rfl | (simp [errW_none, errW_some] <;> rfl) | (simp only [← hji10]; first | rfl | (simp [errW_none, errW_some] <;> rfl)) | (simp [*, errW_none, errW_some] <;> rfl), by repeat (first | (with_reducible first | exact HB.out | apply below_alloc | apply pw_below_drewN | apply below_drew1) | exact HB.out)⟩
  · replace c3 := Bool.eq_false_iff.mpr c3
    subst c3
    have H1 : (some false) = some r := by rw [if_neg (show ¬ (false = true) by decide)] at H; exact H
    clear H
    have H := H1
    clear H1
    obtain rfl := Option.some.inj H
    go_enter Try.func8, Try.ntmps8
    go_wp2_with (first | ((with_reducible refine gate_callee (f := 11) rfl ?_); refine goesL_ (some 6) rfl rfl Try.func11 (by kernel_rfl) rfl #[] rfl (by (try simp only [List.map_toArray, List.map_cons, List.map_nil]); first | done | rfl | (simp only [List.length_drop, List.length_take]; rfl)) ?_; (with_reducible refine (seneschallaw01_awake.calls k  false _ A2.out).mono ?_); rintro e w13 ⟨rfl, hb⟩; refine ⟨_, rfl, ?_⟩; have n0_ := Aside0.mk (below_step (by repeat (first | (with_reducible first | exact HB.out | apply below_alloc | apply pw_below_drewN | apply below_drew1) | exact HB.out)) hb); clear HB; have HB := n0_; clear n0_; (try clear hb); (try clear hb2); (try clear hk); (try clear hi)))
    go_ret
    exact ⟨by first | rfl | (simp [errW_none, errW_some] <;> rfl) | (simp [*, errW_none, errW_some] <;> rfl), by repeat (first | (with_reducible first | exact HB.out | apply below_alloc | apply pw_below_drewN | apply below_drew1) | exact HB.out)⟩

/-- THE ONE PURE STATEMENT of seneschallaw01_NibShort: yours. -/
def seneschallaw01_NibShort.Pure : Prop := ∀ (a0 : Int), (Lit.int .i64 a0).wf = true → ∃ k, seneschallaw01_NibShort.f k a0 = some true
theorem seneschallaw01_NibShort.walk (P : seneschallaw01_NibShort.Pure) (a0 : Int) (w : World) (w0 : (Lit.int .i64 a0).wf = true) :
    Calls Try.prog 8 #[.int .i64 a0] w fun e w' => e = .returned (.bool true) ∧ Below w.heap.size w w' := by
  obtain ⟨k, h⟩ := P a0 w0
  refine (seneschallaw01_NibShort.calls k a0 true w h).mono ?_
  rintro e w' ⟨rfl, hd⟩
  exact ⟨rfl, hd⟩

end Go.Proofs.Ytioiijekbnammaa.PNibShort
