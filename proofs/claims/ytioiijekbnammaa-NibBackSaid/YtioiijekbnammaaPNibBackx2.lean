-- PRINTED BY print.sh 35421559b90ae4d0a3588c463048766b98c2df88dd9212a6774a882060cdf62d: not written by this session
import Derived.Test.YtioiijekbnammaaPNibBackx0
import Derived.Test.YtioiijekbnammaaPNibBackx1
namespace Go.Proofs.Ytioiijekbnammaa.PNibBack
open Go.RowKit Go.Proofs.YtioiijekbnammaaW.PrintWords Go.Proofs.YtioiijekbnammaaW.PrintLast Go.Proofs.YtioiijekbnammaaW.PrintMore
attribute [local go_sem] max2_int min2_int max_two min_two max_three min_three max_four min_four   -- for this text's walks alone
set_option linter.unusedVariables false
set_option linter.unusedSimpArgs false

/-! ### seneschallaw01_NibBack: function 5 -/
mutual
def seneschallaw01_NibBack.j0 : Nat → Int → ByteArray → ByteArray → Bool → Option (Bool)
  | 0, _, _, _, _ => none
  | k + 1, x0, x1, x2, x23 => if x23 = true then (some true) else ((nib_Int.f k x0).bind fun t125 => ((nib_Str.f k x1).bind fun t126 => (if t125.size + t126.size ≤ 9223372036854775807 then (if (t125 ++ t126).size + x2.size ≤ 9223372036854775807 then ((nib_TakeInt.f k ((t125 ++ t126) ++ x2)).bind fun bt127 => (if bt127.1 = x0 then (seneschallaw01_NibBack.j1 k x1 x2 bt127.2.1 (!bt127.2.2)) else (seneschallaw01_NibBack.j1 k x1 x2 bt127.2.1 true))) else (none)) else (none))))
def seneschallaw01_NibBack.j1 : Nat → ByteArray → ByteArray → ByteArray → Bool → Option (Bool)
  | 0, _, _, _, _ => none
  | k + 1, x1, x2, x8, x42 => if x42 = true then (some false) else ((nib_TakeStr.f k x8 (x1.size : Int)).bind fun bt130 => ((nib_Str.f k x1).bind fun t133 => (if t133.size + x2.size ≤ 9223372036854775807 then ((nib_TakeStr.f k (t133 ++ x2) (wrap64 ((x1.size : Int) - 1))).bind fun bt134 => (if bt130.1.toList = x1.toList then (if bt130.2.1.toList = x2.toList then (if bt130.2.2 = true then (some (!bt134.2.2)) else (some false)) else (some false)) else (some false))) else (none))))
end
def seneschallaw01_NibBack.f (k : Nat) (a0 : Int) (a1 : ByteArray) (a2 : ByteArray) : Option (Bool) := (seneschallaw01_awake.f k).bind fun t124 => (if t124 = true then (if (a1.size : Int) > 1048576 then (seneschallaw01_NibBack.j0 k a0 a1 a2 true) else (seneschallaw01_NibBack.j0 k a0 a1 a2 (decide ((a2.size : Int) > 1048576)))) else (some false))
theorem seneschallaw01_NibBack.mono_l : ∀ k, (∀ y0 y1 y2 y3, LeO (seneschallaw01_NibBack.j0 k y0 y1 y2 y3) (seneschallaw01_NibBack.j0 (k + 1) y0 y1 y2 y3)) ∧ (∀ y0 y1 y2 y3, LeO (seneschallaw01_NibBack.j1 k y0 y1 y2 y3) (seneschallaw01_NibBack.j1 (k + 1) y0 y1 y2 y3))
  | 0 => ⟨fun _ _ _ _ r h => by simp [seneschallaw01_NibBack.j0] at h, fun _ _ _ _ r h => by simp [seneschallaw01_NibBack.j1] at h⟩
  | k + 1 => by
    obtain ⟨ih0, ih1⟩ := seneschallaw01_NibBack.mono_l k
    refine ⟨?_, ?_⟩
    · intro y0 y1 y2 y3
      unfold seneschallaw01_NibBack.j0
      repeat' first
      | (with_reducible exact ih0 _ _ _ _)
      | (with_reducible exact ih1 _ _ _ _)
      | (with_reducible exact nib_Int.mono _ _)
      | (with_reducible exact nib_Str.mono _ _)
      | (with_reducible exact nib_TakeInt.mono _ _)
      | (with_reducible exact nib_TakeStr.mono _ _ _)
      | (with_reducible exact seneschallaw01_awake.mono _)
      | (with_reducible exact LeO.refl _)
      | (with_reducible exact LeO.none _)
      | (with_reducible refine LeO.ite ?_ ?_)
      | (with_reducible refine LeO.bind ?_ (fun _ => ?_))
      | exact ih0 _ _ _ _
      | exact ih1 _ _ _ _
      | exact nib_Int.mono _ _
      | exact nib_Str.mono _ _
      | exact nib_TakeInt.mono _ _
      | exact nib_TakeStr.mono _ _ _
      | exact seneschallaw01_awake.mono _
      | exact LeO.none _
      | refine LeO.ite ?_ ?_
      | refine LeO.bind ?_ (fun _ => ?_)
    · intro y0 y1 y2 y3
      unfold seneschallaw01_NibBack.j1
      repeat' first
      | (with_reducible exact ih0 _ _ _ _)
      | (with_reducible exact ih1 _ _ _ _)
      | (with_reducible exact nib_Int.mono _ _)
      | (with_reducible exact nib_Str.mono _ _)
      | (with_reducible exact nib_TakeInt.mono _ _)
      | (with_reducible exact nib_TakeStr.mono _ _ _)
      | (with_reducible exact seneschallaw01_awake.mono _)
      | (with_reducible exact LeO.refl _)
      | (with_reducible exact LeO.none _)
      | (with_reducible refine LeO.ite ?_ ?_)
      | (with_reducible refine LeO.bind ?_ (fun _ => ?_))
      | exact ih0 _ _ _ _
      | exact ih1 _ _ _ _
      | exact nib_Int.mono _ _
      | exact nib_Str.mono _ _
      | exact nib_TakeInt.mono _ _
      | exact nib_TakeStr.mono _ _ _
      | exact seneschallaw01_awake.mono _
      | exact LeO.none _
      | refine LeO.ite ?_ ?_
      | refine LeO.bind ?_ (fun _ => ?_)
theorem seneschallaw01_NibBack.mono : ∀ a0 a1 a2 k, LeO (seneschallaw01_NibBack.f k a0 a1 a2) (seneschallaw01_NibBack.f (k + 1) a0 a1 a2) := by
  intro a0 a1 a2 k
  obtain ⟨ih0, ih1⟩ := seneschallaw01_NibBack.mono_l k
  unfold seneschallaw01_NibBack.f
  repeat' first
      | (with_reducible exact ih0 _ _ _ _)
      | (with_reducible exact ih1 _ _ _ _)
      | (with_reducible exact nib_Int.mono _ _)
      | (with_reducible exact nib_Str.mono _ _)
      | (with_reducible exact nib_TakeInt.mono _ _)
      | (with_reducible exact nib_TakeStr.mono _ _ _)
      | (with_reducible exact seneschallaw01_awake.mono _)
      | (with_reducible exact LeO.refl _)
      | (with_reducible exact LeO.none _)
      | (with_reducible refine LeO.ite ?_ ?_)
      | (with_reducible refine LeO.bind ?_ (fun _ => ?_))
      | exact ih0 _ _ _ _
      | exact ih1 _ _ _ _
      | exact nib_Int.mono _ _
      | exact nib_Str.mono _ _
      | exact nib_TakeInt.mono _ _
      | exact nib_TakeStr.mono _ _ _
      | exact seneschallaw01_awake.mono _
      | exact LeO.none _
      | refine LeO.ite ?_ ?_
      | refine LeO.bind ?_ (fun _ => ?_)
set_option maxHeartbeats 8000000 in
set_option maxRecDepth 100000 in
theorem seneschallaw01_NibBack.calls (k : Nat) (a0 : Int) (a1 : ByteArray) (a2 : ByteArray) (r : Bool) (w : World) (h : seneschallaw01_NibBack.f k a0 a1 a2 = some r) :
    Calls Try.prog 5 #[.int .i64 a0, .string a1, .string a2] w fun e w' => e = .returned (.bool r) ∧ Below w.heap.size w w' := by
  have HB := Aside0.mk (Below.refl w.heap.size w)
  have H : ((seneschallaw01_awake.f k).bind fun t124 => (if t124 = true then (if (a1.size : Int) > 1048576 then (seneschallaw01_NibBack.j0 k a0 a1 a2 true) else (seneschallaw01_NibBack.j0 k a0 a1 a2 (decide ((a2.size : Int) > 1048576)))) else (some false))) = some r := h
  clear h
  replace H := Option.bind_eq_some_iff.mp H
  obtain ⟨t124, A40, H⟩ := H
  replace H : (if t124 = true then (if (a1.size : Int) > 1048576 then (seneschallaw01_NibBack.j0 k a0 a1 a2 true) else (seneschallaw01_NibBack.j0 k a0 a1 a2 (decide ((a2.size : Int) > 1048576)))) else (some false)) = some r := H
  have A4 := Aside0.mk A40
  clear A40
  by_cases c5 : t124 = true
  · subst c5
    have H1 : (if (a1.size : Int) > 1048576 then (seneschallaw01_NibBack.j0 k a0 a1 a2 true) else (seneschallaw01_NibBack.j0 k a0 a1 a2 (decide ((a2.size : Int) > 1048576)))) = some r := by rw [if_pos rfl] at H; exact H
    clear H
    have H := H1
    clear H1
    have HC6 := Aside0.mk H
    clear H
    go_enter Try.func5, Try.ntmps5
    go_upto_region 3 with (first | ((with_reducible refine gate_callee (f := 11) rfl ?_); refine goesL_ (some 14) rfl rfl Try.func11 (by kernel_rfl) rfl #[] rfl (by (try simp only [List.map_toArray, List.map_cons, List.map_nil]); first | done | rfl | (simp only [List.length_drop, List.length_take]; rfl)) ?_; (with_reducible refine (seneschallaw01_awake.calls k  true _ A4.out).mono ?_); rintro e w7 ⟨rfl, hb⟩; refine ⟨_, rfl, ?_⟩; have n0_ := Aside0.mk (below_step (by repeat (first | (with_reducible first | exact HB.out | apply below_alloc | apply pw_below_drewN | apply below_drew1) | exact HB.out)) hb); clear HB; have HB := n0_; clear n0_; (try clear hb); (try clear hb2); (try clear hk); (try clear hi)))
    (try simp only [Act.put, List.setIfInBounds_toArray, List.set_cons_zero, List.set_cons_succ])
    go_cut [23] (fun v23 wc => ∃ (kq : Nat) (x23_5 : Bool), v23 = .bool x23_5 ∧ Aside0 (seneschallaw01_NibBack.j0 kq a0 a1 a2 x23_5 = some r) ∧ Aside0 (kq ≤ k) ∧ Aside0 (Below w.heap.size w wc))
    case first =>
      have H := HC6.out
      clear HC6
      by_cases c8 : (a1.size : Int) > 1048576
      · rw [if_pos c8] at H
        have c8b0 : decide (1048576 < (a1.size : Int)) = true := decide_eq_true c8
        have c8b1 : decide (1048576 < a1.size) = true := decide_eq_true (by omega)
        clear c8
        (first | rw [c8b0] | (simp only [i64_w, i32_w]; rw [c8b0]) | skip)
        have H' := Aside0.mk H
        clear H
        go_wp2
        go_meet
        case rel => exact ⟨_, (true), (by first | rfl | (simp; done) | (simp [*]; done)), H', ⟨by first | omega | exact Nat.le_refl _⟩, ⟨by repeat (first | (with_reducible first | exact HB.out | apply below_alloc | apply pw_below_drewN | apply below_drew1) | exact HB.out)⟩⟩
      · rw [if_neg c8] at H
        have c8b0 : decide (1048576 < (a1.size : Int)) = false := decide_eq_false c8
        have c8b1 : decide (1048576 < a1.size) = false := decide_eq_false (by omega)
        clear c8
        (first | rw [c8b0] | (simp only [i64_w, i32_w]; rw [c8b0]) | skip)
        have H' := Aside0.mk H
        clear H
        go_wp2
        go_meet
        case rel => exact ⟨_, (decide ((a2.size : Int) > 1048576)), (by first | rfl | (simp; done) | (simp [*]; done)), H', ⟨by first | omega | exact Nat.le_refl _⟩, ⟨by repeat (first | (with_reducible first | exact HB.out | apply below_alloc | apply pw_below_drewN | apply below_drew1) | exact HB.out)⟩⟩
    case rest =>
      clear HC6
      try clear c1
      try clear p2
      try clear c5
      try clear c8
      try clear c8b0
      try clear c8b1
      obtain ⟨kq, x23_5, rfl, HA, HJ5, HB⟩ := hcut
      cases kq with
      | zero => exact absurd HA.out (by simp [seneschallaw01_NibBack.j0])
      | succ kj5 =>
        have H := HA.out
        clear HA
        simp only [seneschallaw01_NibBack.j0] at H
        by_cases c9 : x23_5 = true
        · subst c9
          have H1 : (some true) = some r := by rw [if_pos rfl] at H; exact H
          clear H
          have H := H1
          clear H1
          obtain rfl := Option.some.inj H
          go_wp2
          go_ret
          exact ⟨by first | rfl | (simp [errW_none, errW_some] <;> rfl) | (simp [*, errW_none, errW_some] <;> rfl), by repeat (first | (with_reducible first | exact HB.out | apply below_alloc | apply pw_below_drewN | apply below_drew1) | exact HB.out)⟩
        · replace c9 := Bool.eq_false_iff.mpr c9
          subst c9
          have H1 : ((nib_Int.f kj5 a0).bind fun t125 => ((nib_Str.f kj5 a1).bind fun t126 => (if t125.size + t126.size ≤ 9223372036854775807 then (if (t125 ++ t126).size + a2.size ≤ 9223372036854775807 then ((nib_TakeInt.f kj5 ((t125 ++ t126) ++ a2)).bind fun bt127 => (if bt127.1 = a0 then (seneschallaw01_NibBack.j1 kj5 a1 a2 bt127.2.1 (!bt127.2.2)) else (seneschallaw01_NibBack.j1 kj5 a1 a2 bt127.2.1 true))) else (none)) else (none)))) = some r := by rw [if_neg (show ¬ (false = true) by decide)] at H; exact H
          clear H
          have H := H1
          clear H1
          replace H := Option.bind_eq_some_iff.mp H
          obtain ⟨t125, A100, H⟩ := H
          replace H : ((nib_Str.f kj5 a1).bind fun t126 => (if t125.size + t126.size ≤ 9223372036854775807 then (if (t125 ++ t126).size + a2.size ≤ 9223372036854775807 then ((nib_TakeInt.f kj5 ((t125 ++ t126) ++ a2)).bind fun bt127 => (if bt127.1 = a0 then (seneschallaw01_NibBack.j1 kj5 a1 a2 bt127.2.1 (!bt127.2.2)) else (seneschallaw01_NibBack.j1 kj5 a1 a2 bt127.2.1 true))) else (none)) else (none))) = some r := H
          have A10 := Aside0.mk A100
          clear A100
          replace H := Option.bind_eq_some_iff.mp H
          obtain ⟨t126, A110, H⟩ := H
          replace H : (if t125.size + t126.size ≤ 9223372036854775807 then (if (t125 ++ t126).size + a2.size ≤ 9223372036854775807 then ((nib_TakeInt.f kj5 ((t125 ++ t126) ++ a2)).bind fun bt127 => (if bt127.1 = a0 then (seneschallaw01_NibBack.j1 kj5 a1 a2 bt127.2.1 (!bt127.2.2)) else (seneschallaw01_NibBack.j1 kj5 a1 a2 bt127.2.1 true))) else (none)) else (none)) = some r := H
          have A11 := Aside0.mk A110
          clear A110
          by_cases c12 : t125.size + t126.size ≤ 9223372036854775807
          · rw [if_pos c12] at H
            have c12b0 := eq_true c12
            have c12b1 : decide (t125.size + t126.size ≤ 9223372036854775807) = true := decide_eq_true c12
            try have c12b2 : (9223372036854775807 < t125.size + t126.size) = False := eq_false (Nat.not_lt.2 c12)
            by_cases c13 : (t125 ++ t126).size + a2.size ≤ 9223372036854775807
            · rw [if_pos c13] at H
              have c13b0 := eq_true c13
              have c13b1 : decide ((t125 ++ t126).size + a2.size ≤ 9223372036854775807) = true := decide_eq_true c13
              try have c13b2 : (9223372036854775807 < (t125 ++ t126).size + a2.size) = False := eq_false (Nat.not_lt.2 c13)
              replace H := Option.bind_eq_some_iff.mp H
              obtain ⟨⟨t127, t128, t129⟩, A140, H⟩ := H
              replace H : (if t127 = a0 then (seneschallaw01_NibBack.j1 kj5 a1 a2 t128 (!t129)) else (seneschallaw01_NibBack.j1 kj5 a1 a2 t128 true)) = some r := H
              have A14 := Aside0.mk A140
              clear A140
              have HC15 := Aside0.mk H
              clear H
              go_upto_region 6 with (first | ((with_reducible refine gate_callee (f := 12) rfl ?_); refine goesL_ (some 26) rfl rfl Try.func12 (by kernel_rfl) rfl #[.int .i64 a0] rfl (by (try simp only [List.map_toArray, List.map_cons, List.map_nil]); first | done | rfl | (simp only [List.length_drop, List.length_take]; rfl)) ?_; (with_reducible refine (nib_Int.calls kj5 a0 t125 _ A10.out).mono ?_); rintro e w16 ⟨rfl, hb⟩; refine ⟨_, rfl, ?_⟩; have n0_ := Aside0.mk (below_step (by repeat (first | (with_reducible first | exact HB.out | apply below_alloc | apply pw_below_drewN | apply below_drew1) | exact HB.out)) hb); clear HB; have HB := n0_; clear n0_; (try clear hb); (try clear hb2); (try clear hk); (try clear hi)) | ((with_reducible refine gate_callee (f := 14) rfl ?_); refine goesL_ (some 28) rfl rfl Try.func14 (by kernel_rfl) rfl #[.string a1] rfl (by (try simp only [List.map_toArray, List.map_cons, List.map_nil]); first | done | rfl | (simp only [List.length_drop, List.length_take]; rfl)) ?_; (with_reducible refine (nib_Str.calls kj5 a1 t126 _ A11.out).mono ?_); rintro e w17 ⟨rfl, hb⟩; refine ⟨_, rfl, ?_⟩; have n0_ := Aside0.mk (below_step (by repeat (first | (with_reducible first | exact HB.out | apply below_alloc | apply pw_below_drewN | apply below_drew1) | exact HB.out)) hb); clear HB; have HB := n0_; clear n0_; (try clear hb); (try clear hb2); (try clear hk); (try clear hi)) | ((with_reducible refine gate_callee (f := 16) rfl ?_); refine goesL_ (some 32) rfl rfl Try.func16 (by kernel_rfl) rfl #[.string ((t125 ++ t126) ++ a2)] rfl (by (try simp only [List.map_toArray, List.map_cons, List.map_nil]); first | done | rfl | (simp only [List.length_drop, List.length_take]; rfl)) ?_; (with_reducible refine (nib_TakeInt.calls kj5 ((t125 ++ t126) ++ a2) t127 t128 t129 _ A14.out).mono ?_); rintro e w18 ⟨rfl, hb⟩; refine ⟨_, rfl, ?_⟩; have n0_ := Aside0.mk (below_step (by repeat (first | (with_reducible first | exact HB.out | apply below_alloc | apply pw_below_drewN | apply below_drew1) | exact HB.out)) hb); clear HB; have HB := n0_; clear n0_; (try clear hb); (try clear hb2); (try clear hk); (try clear hi)))
              (try simp only [Act.put, List.setIfInBounds_toArray, List.set_cons_zero, List.set_cons_succ])
              go_cut [42] (fun v42 wc => ∃ (kq : Nat) (x42_14 : Bool), v42 = .bool x42_14 ∧ Aside0 (seneschallaw01_NibBack.j1 kq a1 a2 t128 x42_14 = some r) ∧ Aside0 (kq ≤ kj5) ∧ Aside0 (Below w.heap.size w wc))
              case first =>
                have H := HC15.out
                clear HC15
                by_cases c19 : t127 = a0
                · rw [if_pos c19] at H
                  have c19b0 : (t127 == a0) = true := beq_iff_eq.mpr c19
                  have c19b1 : (t127 != a0) = false := bne_eq_false_iff_eq.mpr c19
                  clear c19
                  (first | rw [c19b0] | (simp only [i64_w, i32_w]; rw [c19b0]) | skip)
                  have H' := Aside0.mk H
                  clear H
                  go_wp2
                  go_meet
                  case rel => exact ⟨_, (!t129), (by first | rfl | (simp; done) | (simp [*]; done)), H', ⟨by have := HJ5.out; first | omega | exact Nat.le_refl _⟩, ⟨by repeat (first | (with_reducible first | exact HB.out | apply below_alloc | apply pw_below_drewN | apply below_drew1) | exact HB.out)⟩⟩
                · rw [if_neg c19] at H
                  have c19b0 : (t127 == a0) = false := beq_eq_false_iff_ne.mpr c19
                  have c19b1 : (t127 != a0) = true := bne_iff_ne.mpr c19
                  (first | rw [c19b0] | (simp only [i64_w, i32_w]; rw [c19b0]) | skip)
                  have H' := Aside0.mk H
                  clear H
                  go_wp2
                  go_meet
                  case rel => exact ⟨_, (true), (by first | rfl | (simp; done) | (simp [*]; done)), H', ⟨by have := HJ5.out; first | omega | exact Nat.le_refl _⟩, ⟨by repeat (first | (with_reducible first | exact HB.out | apply below_alloc | apply pw_below_drewN | apply below_drew1) | exact HB.out)⟩⟩
              case rest =>
                clear HC15
                try clear c1
                try clear p2
                try clear c5
                try clear c8
                try clear c8b0
                try clear c8b1
                try clear c9
                try clear c11
                try clear c12
                try clear c12b0
                try clear c12b1
                try clear c12b2
                try clear c13
                try clear c13b0
                try clear c13b1
                try clear c13b2
                try clear c14
                try clear c16
                try clear c19
                try clear c19b0
                try clear c19b1
                try clear p2
                obtain ⟨kq, x42_14, rfl, HA, HJ14, HB⟩ := hcut
                cases kq with
                | zero => exact absurd HA.out (by simp [seneschallaw01_NibBack.j1])
                | succ kj14 =>
                  have H := HA.out
                  clear HA
                  simp only [seneschallaw01_NibBack.j1] at H
                  by_cases c20 : x42_14 = true
                  · subst c20
                    have H1 : (some false) = some r := by rw [if_pos rfl] at H; exact H
                    clear H
                    have H := H1
                    clear H1
                    obtain rfl := Option.some.inj H
                    go_wp2
                    go_ret
                    exact ⟨by first | rfl | (simp [errW_none, errW_some] <;> rfl) | (simp [*, errW_none, errW_some] <;> rfl), by repeat (first | (with_reducible first | exact HB.out | apply below_alloc | apply pw_below_drewN | apply below_drew1) | exact HB.out)⟩
                  · replace c20 := Bool.eq_false_iff.mpr c20
                    subst c20
                    have H1 : ((nib_TakeStr.f kj14 t128 (a1.size : Int)).bind fun bt130 => ((nib_Str.f kj14 a1).bind fun t133 => (if t133.size + a2.size ≤ 9223372036854775807 then ((nib_TakeStr.f kj14 (t133 ++ a2) (wrap64 ((a1.size : Int) - 1))).bind fun bt134 => (if bt130.1.toList = a1.toList then (if bt130.2.1.toList = a2.toList then (if bt130.2.2 = true then (some (!bt134.2.2)) else (some false)) else (some false)) else (some false))) else (none)))) = some r := by rw [if_neg (show ¬ (false = true) by decide)] at H; exact H
                    clear H
                    have H := H1
                    clear H1
                    replace H := Option.bind_eq_some_iff.mp H
                    obtain ⟨⟨t130, t131, t132⟩, A210, H⟩ := H
                    replace H : ((nib_Str.f kj14 a1).bind fun t133 => (if t133.size + a2.size ≤ 9223372036854775807 then ((nib_TakeStr.f kj14 (t133 ++ a2) (wrap64 ((a1.size : Int) - 1))).bind fun bt134 => (if t130.toList = a1.toList then (if t131.toList = a2.toList then (if t132 = true then (some (!bt134.2.2)) else (some false)) else (some false)) else (some false))) else (none))) = some r := H
                    have A21 := Aside0.mk A210
                    clear A210
                    replace H := Option.bind_eq_some_iff.mp H
                    obtain ⟨t133, A220, H⟩ := H
                    replace H : (if t133.size + a2.size ≤ 9223372036854775807 then ((nib_TakeStr.f kj14 (t133 ++ a2) (wrap64 ((a1.size : Int) - 1))).bind fun bt134 => (if t130.toList = a1.toList then (if t131.toList = a2.toList then (if t132 = true then (some (!bt134.2.2)) else (some false)) else (some false)) else (some false))) else (none)) = some r := H
                    have A22 := Aside0.mk A220
                    clear A220
                    by_cases c23 : t133.size + a2.size ≤ 9223372036854775807
                    · rw [if_pos c23] at H
                      have c23b0 := eq_true c23
                      have c23b1 : decide (t133.size + a2.size ≤ 9223372036854775807) = true := decide_eq_true c23
                      try have c23b2 : (9223372036854775807 < t133.size + a2.size) = False := eq_false (Nat.not_lt.2 c23)
                      replace H := Option.bind_eq_some_iff.mp H
                      obtain ⟨⟨t134, t135, t136⟩, A240, H⟩ := H
                      replace H : (if t130.toList = a1.toList then (if t131.toList = a2.toList then (if t132 = true then (some (!t136)) else (some false)) else (some false)) else (some false)) = some r := H
                      have A24 := Aside0.mk A240
                      clear A240
                      by_cases c25 : t130.toList = a1.toList
                      · rw [if_pos c25] at H
                        have c25b0 : (t130.toList == a1.toList) = true := beq_iff_eq.mpr c25
                        have c25b1 : (t130.toList != a1.toList) = false := bne_eq_false_iff_eq.mpr c25
                        clear c25
                        by_cases c26 : t131.toList = a2.toList
                        · rw [if_pos c26] at H
                          have c26b0 : (t131.toList == a2.toList) = true := beq_iff_eq.mpr c26
                          have c26b1 : (t131.toList != a2.toList) = false := bne_eq_false_iff_eq.mpr c26
                          clear c26
                          by_cases c27 : t132 = true
                          · subst c27
                            have H1 : (some (!t136)) = some r := by rw [if_pos rfl] at H; exact H
                            clear H
                            have H := H1
                            clear H1
                            obtain rfl := Option.some.inj H
                            go_wp2_with (first | ((with_reducible refine gate_callee (f := 18) rfl ?_); refine goesL_ (some 47) rfl rfl Try.func18 (by kernel_rfl) rfl #[.string t128, .int .i64 (a1.size : Int)] rfl (by (try simp only [List.map_toArray, List.map_cons, List.map_nil]); first | done | rfl | (simp only [List.length_drop, List.length_take]; rfl)) ?_; (with_reducible refine (nib_TakeStr.calls kj14 t128 (a1.size : Int) t130 t131 true _ A21.out).mono ?_); rintro e w28 ⟨rfl, hb⟩; refine ⟨_, rfl, ?_⟩; have n0_ := Aside0.mk (below_step (by repeat (first | (with_reducible first | exact HB.out | apply below_alloc | apply pw_below_drewN | apply below_drew1) | exact HB.out)) hb); clear HB; have HB := n0_; clear n0_; (try clear hb); (try clear hb2); (try clear hk); (try clear hi)) | ((with_reducible refine gate_callee (f := 14) rfl ?_); refine goesL_ (some 53) rfl rfl Try.func14 (by kernel_rfl) rfl #[.string a1] rfl (by (try simp only [List.map_toArray, List.map_cons, List.map_nil]); first | done | rfl | (simp only [List.length_drop, List.length_take]; rfl)) ?_; (with_reducible refine (nib_Str.calls kj14 a1 t133 _ A22.out).mono ?_); rintro e w29 ⟨rfl, hb⟩; refine ⟨_, rfl, ?_⟩; have n0_ := Aside0.mk (below_step (by repeat (first | (with_reducible first | exact HB.out | apply below_alloc | apply pw_below_drewN | apply below_drew1) | exact HB.out)) hb); clear HB; have HB := n0_; clear n0_; (try clear hb); (try clear hb2); (try clear hk); (try clear hi)) | ((with_reducible refine gate_callee (f := 18) rfl ?_); refine goesL_ (some 59) rfl rfl Try.func18 (by kernel_rfl) rfl #[.string (t133 ++ a2), .int .i64 (wrap64 ((a1.size : Int) - 1))] rfl (by (try simp only [List.map_toArray, List.map_cons, List.map_nil]); first | done | rfl | (simp only [List.length_drop, List.length_take]; rfl)) ?_; (with_reducible refine (nib_TakeStr.calls kj14 (t133 ++ a2) (wrap64 ((a1.size : Int) - 1)) t134 t135 t136 _ A24.out).mono ?_); rintro e w30 ⟨rfl, hb⟩; refine ⟨_, rfl, ?_⟩; have n0_ := Aside0.mk (below_step (by repeat (first | (with_reducible first | exact HB.out | apply below_alloc | apply pw_below_drewN | apply below_drew1) | exact HB.out)) hb); clear HB; have HB := n0_; clear n0_; (try clear hb); (try clear hb2); (try clear hk); (try clear hi)))
                            go_ret
                            exact ⟨by first | rfl | (simp [errW_none, errW_some] <;> rfl) | (simp [*, errW_none, errW_some] <;> rfl), by repeat (first | (with_reducible first | exact HB.out | apply below_alloc | apply pw_below_drewN | apply below_drew1) | exact HB.out)⟩
                          · replace c27 := Bool.eq_false_iff.mpr c27
                            subst c27
                            have H1 : (some false) = some r := by rw [if_neg (show ¬ (false = true) by decide)] at H; exact H
                            clear H
                            have H := H1
                            clear H1
                            obtain rfl := Option.some.inj H
                            go_wp2_with (first | ((with_reducible refine gate_callee (f := 18) rfl ?_); refine goesL_ (some 47) rfl rfl Try.func18 (by kernel_rfl) rfl #[.string t128, .int .i64 (a1.size : Int)] rfl (by (try simp only [List.map_toArray, List.map_cons, List.map_nil]); first | done | rfl | (simp only [List.length_drop, List.length_take]; rfl)) ?_; (with_reducible refine (nib_TakeStr.calls kj14 t128 (a1.size : Int) t130 t131 false _ A21.out).mono ?_); rintro e w31 ⟨rfl, hb⟩; refine ⟨_, rfl, ?_⟩; have n0_ := Aside0.mk (below_step (by repeat (first | (with_reducible first | exact HB.out | apply below_alloc | apply pw_below_drewN | apply below_drew1) | exact HB.out)) hb); clear HB; have HB := n0_; clear n0_; (try clear hb); (try clear hb2); (try clear hk); (try clear hi)) | ((with_reducible refine gate_callee (f := 14) rfl ?_); refine goesL_ (some 53) rfl rfl Try.func14 (by kernel_rfl) rfl #[.string a1] rfl (by (try simp only [List.map_toArray, List.map_cons, List.map_nil]); first | done | rfl | (simp only [List.length_drop, List.length_take]; rfl)) ?_; (with_reducible refine (nib_Str.calls kj14 a1 t133 _ A22.out).mono ?_); rintro e w32 ⟨rfl, hb⟩; refine ⟨_, rfl, ?_⟩; have n0_ := Aside0.mk (below_step (by repeat (first | (with_reducible first | exact HB.out | apply below_alloc | apply pw_below_drewN | apply below_drew1) | exact HB.out)) hb); clear HB; have HB := n0_; clear n0_; (try clear hb); (try clear hb2); (try clear hk); (try clear hi)) | ((with_reducible refine gate_callee (f := 18) rfl ?_); refine goesL_ (some 59) rfl rfl Try.func18 (by kernel_rfl) rfl #[.string (t133 ++ a2), .int .i64 (wrap64 ((a1.size : Int) - 1))] rfl (by (try simp only [List.map_toArray, List.map_cons, List.map_nil]); first | done | rfl | (simp only [List.length_drop, List.length_take]; rfl)) ?_; (with_reducible refine (nib_TakeStr.calls kj14 (t133 ++ a2) (wrap64 ((a1.size : Int) - 1)) t134 t135 t136 _ A24.out).mono ?_); rintro e w33 ⟨rfl, hb⟩; refine ⟨_, rfl, ?_⟩; have n0_ := Aside0.mk (below_step (by repeat (first | (with_reducible first | exact HB.out | apply below_alloc | apply pw_below_drewN | apply below_drew1) | exact HB.out)) hb); clear HB; have HB := n0_; clear n0_; (try clear hb); (try clear hb2); (try clear hk); (try clear hi)))
                            go_ret
                            exact ⟨by first | rfl | (simp [errW_none, errW_some] <;> rfl) | (simp [*, errW_none, errW_some] <;> rfl), by repeat (first | (with_reducible first | exact HB.out | apply below_alloc | apply pw_below_drewN | apply below_drew1) | exact HB.out)⟩
                        · rw [if_neg c26] at H
                          have c26b0 : (t131.toList == a2.toList) = false := beq_eq_false_iff_ne.mpr c26
                          have c26b1 : (t131.toList != a2.toList) = true := bne_iff_ne.mpr c26
                          obtain rfl := Option.some.inj H
                          go_wp2_with (first | ((with_reducible refine gate_callee (f := 18) rfl ?_); refine goesL_ (some 47) rfl rfl Try.func18 (by kernel_rfl) rfl #[.string t128, .int .i64 (a1.size : Int)] rfl (by (try simp only [List.map_toArray, List.map_cons, List.map_nil]); first | done | rfl | (simp only [List.length_drop, List.length_take]; rfl)) ?_; (with_reducible refine (nib_TakeStr.calls kj14 t128 (a1.size : Int) t130 t131 t132 _ A21.out).mono ?_); rintro e w34 ⟨rfl, hb⟩; refine ⟨_, rfl, ?_⟩; have n0_ := Aside0.mk (below_step (by repeat (first | (with_reducible first | exact HB.out | apply below_alloc | apply pw_below_drewN | apply below_drew1) | exact HB.out)) hb); clear HB; have HB := n0_; clear n0_; (try clear hb); (try clear hb2); (try clear hk); (try clear hi)) | ((with_reducible refine gate_callee (f := 14) rfl ?_); refine goesL_ (some 53) rfl rfl Try.func14 (by kernel_rfl) rfl #[.string a1] rfl (by (try simp only [List.map_toArray, List.map_cons, List.map_nil]); first | done | rfl | (simp only [List.length_drop, List.length_take]; rfl)) ?_; (with_reducible refine (nib_Str.calls kj14 a1 t133 _ A22.out).mono ?_); rintro e w35 ⟨rfl, hb⟩; refine ⟨_, rfl, ?_⟩; have n0_ := Aside0.mk (below_step (by repeat (first | (with_reducible first | exact HB.out | apply below_alloc | apply pw_below_drewN | apply below_drew1) | exact HB.out)) hb); clear HB; have HB := n0_; clear n0_; (try clear hb); (try clear hb2); (try clear hk); (try clear hi)) | ((with_reducible refine gate_callee (f := 18) rfl ?_); refine goesL_ (some 59) rfl rfl Try.func18 (by kernel_rfl) rfl #[.string (t133 ++ a2), .int .i64 (wrap64 ((a1.size : Int) - 1))] rfl (by (try simp only [List.map_toArray, List.map_cons, List.map_nil]); first | done | rfl | (simp only [List.length_drop, List.length_take]; rfl)) ?_; (with_reducible refine (nib_TakeStr.calls kj14 (t133 ++ a2) (wrap64 ((a1.size : Int) - 1)) t134 t135 t136 _ A24.out).mono ?_); rintro e w36 ⟨rfl, hb⟩; refine ⟨_, rfl, ?_⟩; have n0_ := Aside0.mk (below_step (by repeat (first | (with_reducible first | exact HB.out | apply below_alloc | apply pw_below_drewN | apply below_drew1) | exact HB.out)) hb); clear HB; have HB := n0_; clear n0_; (try clear hb); (try clear hb2); (try clear hk); (try clear hi)))
                          go_ret
                          exact ⟨by first | rfl | (simp [errW_none, errW_some] <;> rfl) | (simp [*, errW_none, errW_some] <;> rfl), by repeat (first | (with_reducible first | exact HB.out | apply below_alloc | apply pw_below_drewN | apply below_drew1) | exact HB.out)⟩
                      · rw [if_neg c25] at H
                        have c25b0 : (t130.toList == a1.toList) = false := beq_eq_false_iff_ne.mpr c25
                        have c25b1 : (t130.toList != a1.toList) = true := bne_iff_ne.mpr c25
                        obtain rfl := Option.some.inj H
                        go_wp2_with (first | ((with_reducible refine gate_callee (f := 18) rfl ?_); refine goesL_ (some 47) rfl rfl Try.func18 (by kernel_rfl) rfl #[.string t128, .int .i64 (a1.size : Int)] rfl (by (try simp only [List.map_toArray, List.map_cons, List.map_nil]); first | done | rfl | (simp only [List.length_drop, List.length_take]; rfl)) ?_; (with_reducible refine (nib_TakeStr.calls kj14 t128 (a1.size : Int) t130 t131 t132 _ A21.out).mono ?_); rintro e w37 ⟨rfl, hb⟩; refine ⟨_, rfl, ?_⟩; have n0_ := Aside0.mk (below_step (by repeat (first | (with_reducible first | exact HB.out | apply below_alloc | apply pw_below_drewN | apply below_drew1) | exact HB.out)) hb); clear HB; have HB := n0_; clear n0_; (try clear hb); (try clear hb2); (try clear hk); (try clear hi)) | ((with_reducible refine gate_callee (f := 14) rfl ?_); refine goesL_ (some 53) rfl rfl Try.func14 (by kernel_rfl) rfl #[.string a1] rfl (by (try simp only [List.map_toArray, List.map_cons, List.map_nil]); first | done | rfl | (simp only [List.length_drop, List.length_take]; rfl)) ?_; (with_reducible refine (nib_Str.calls kj14 a1 t133 _ A22.out).mono ?_); rintro e w38 ⟨rfl, hb⟩; refine ⟨_, rfl, ?_⟩; have n0_ := Aside0.mk (below_step (by repeat (first | (with_reducible first | exact HB.out | apply below_alloc | apply pw_below_drewN | apply below_drew1) | exact HB.out)) hb); clear HB; have HB := n0_; clear n0_; (try clear hb); (try clear hb2); (try clear hk); (try clear hi)) | ((with_reducible refine gate_callee (f := 18) rfl ?_); refine goesL_ (some 59) rfl rfl Try.func18 (by kernel_rfl) rfl #[.string (t133 ++ a2), .int .i64 (wrap64 ((a1.size : Int) - 1))] rfl (by (try simp only [List.map_toArray, List.map_cons, List.map_nil]); first | done | rfl | (simp only [List.length_drop, List.length_take]; rfl)) ?_; (with_reducible refine (nib_TakeStr.calls kj14 (t133 ++ a2) (wrap64 ((a1.size : Int) - 1)) t134 t135 t136 _ A24.out).mono ?_); rintro e w39 ⟨rfl, hb⟩; refine ⟨_, rfl, ?_⟩; have n0_ := Aside0.mk (below_step (by repeat (first | (with_reducible first | exact HB.out | apply below_alloc | apply pw_below_drewN | apply below_drew1) | exact HB.out)) hb); clear HB; have HB := n0_; clear n0_; (try clear hb); (try clear hb2); (try clear hk); (try clear hi)))
                        go_ret
                        exact ⟨by first | rfl | (simp [errW_none, errW_some] <;> rfl) | (simp [*, errW_none, errW_some] <;> rfl), by repeat (first | (with_reducible first | exact HB.out | apply below_alloc | apply pw_below_drewN | apply below_drew1) | exact HB.out)⟩
                    · rw [if_neg c23] at H
                      exact absurd H (by simp)
            · rw [if_neg c13] at H
              exact absurd H (by simp)
          · rw [if_neg c12] at H
            exact absurd H (by simp)
  · replace c5 := Bool.eq_false_iff.mpr c5
    subst c5
    have H1 : (some false) = some r := by rw [if_neg (show ¬ (false = true) by decide)] at H; exact H
    clear H
    have H := H1
    clear H1
    obtain rfl := Option.some.inj H
    go_enter Try.func5, Try.ntmps5
    go_wp2_with (first | ((with_reducible refine gate_callee (f := 11) rfl ?_); refine goesL_ (some 14) rfl rfl Try.func11 (by kernel_rfl) rfl #[] rfl (by (try simp only [List.map_toArray, List.map_cons, List.map_nil]); first | done | rfl | (simp only [List.length_drop, List.length_take]; rfl)) ?_; (with_reducible refine (seneschallaw01_awake.calls k  false _ A4.out).mono ?_); rintro e w40 ⟨rfl, hb⟩; refine ⟨_, rfl, ?_⟩; have n0_ := Aside0.mk (below_step (by repeat (first | (with_reducible first | exact HB.out | apply below_alloc | apply pw_below_drewN | apply below_drew1) | exact HB.out)) hb); clear HB; have HB := n0_; clear n0_; (try clear hb); (try clear hb2); (try clear hk); (try clear hi)))
    go_ret
    exact ⟨by first | rfl | (simp [errW_none, errW_some] <;> rfl) | (simp [*, errW_none, errW_some] <;> rfl), by repeat (first | (with_reducible first | exact HB.out | apply below_alloc | apply pw_below_drewN | apply below_drew1) | exact HB.out)⟩

/-- THE ONE PURE STATEMENT of seneschallaw01_NibBack: yours. -/
def seneschallaw01_NibBack.Pure : Prop := ∀ (a0 : Int) (a1 : ByteArray) (a2 : ByteArray), (Lit.int .i64 a0).wf = true → a1.size ≤ 140737488351232 → a2.size ≤ 140737488351232 → ∃ k, seneschallaw01_NibBack.f k a0 a1 a2 = some true
theorem seneschallaw01_NibBack.walk (P : seneschallaw01_NibBack.Pure) (a0 : Int) (a1 : ByteArray) (a2 : ByteArray) (w : World) (w0 : (Lit.int .i64 a0).wf = true) (w1 : a1.size ≤ 140737488351232) (w2 : a2.size ≤ 140737488351232) :
    Calls Try.prog 5 #[.int .i64 a0, .string a1, .string a2] w fun e w' => e = .returned (.bool true) ∧ Below w.heap.size w w' := by
  obtain ⟨k, h⟩ := P a0 a1 a2 w0 w1 w2
  refine (seneschallaw01_NibBack.calls k a0 a1 a2 true w h).mono ?_
  rintro e w' ⟨rfl, hd⟩
  exact ⟨rfl, hd⟩

end Go.Proofs.Ytioiijekbnammaa.PNibBack
