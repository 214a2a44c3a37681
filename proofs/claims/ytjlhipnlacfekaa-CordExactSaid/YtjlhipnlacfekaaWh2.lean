/-
  'Take': a datagram of this session comes: the walk, a text for each way through the acknowledgement.
-/
import Derived.Test.YtjlhipnlacfekaaWg
namespace Go.Proofs.Ytjlhipnlacfekaa.Wa
open Go.RowKit Go.Maps Go.Proofs.Ytjlhipnlacfekaa.Md Go.Proofs.Ytjlhipnlacfekaa.Hp Go.Proofs.Ytjlhipnlacfekaa.Rp
set_option linter.unusedSimpArgs false
set_option linter.unusedVariables false

set_option maxHeartbeats 8000000 in
theorem take_a2 {w : World} {p : Nat} {E : En} {F : Nat → Prop} {N : Nat} {m : Nat} (hN : N ≤ 10000) (hF : ∀ b, F b → b < w.heap.size) (c : Int) (u : Bool) (ep : Int) (sq ak : Nat) (b : ByteArray) {ao : Option Addr} {cap : Nat}
    (HX : Hid (Calls Try.prog 27 #[.pointer (some ⟨p, 0, none⟩), .agg #[.int .i64 c, .bool u, .int .i64 ep, .int .i64 (sq : Int), .int .i64 (ak : Int), .string b]] (w.alloc (.cells #[.int .i64 c, .bool u, .int .i64 ep, .int .i64 (sq : Int), .int .i64 (ak : Int), .string b] 41)) fun e w' => e = .returned (.int .i64 0) ∧ Below (w.alloc (.cells #[.int .i64 c, .bool u, .int .i64 ep, .int .i64 (sq : Int), .int .i64 (ak : Int), .string b] 41)).heap.size (w.alloc (.cells #[.int .i64 c, .bool u, .int .i64 ep, .int .i64 (sq : Int), .int .i64 (ak : Int), .string b] 41)) w'))
    (b1 : ak ≤ E.given) (b2 : (sq : Int) ≤ (E.got : Int) + 32) (b3 : b.size ≤ 16384) (hgv : E.given ≤ N) (hgt : E.got ≤ 33 * N) (hwin : E.opn.length ≤ 32) (HM : Hid (Mem w p E F N (.slice ao E.opn.length cap) m)) (HO : Hid (Ok E N)) (HE : Hid (rightErr E ⟨c, u, ep, sq, ak, b⟩ = 0)) (hlf : E.given - ak < E.opn.length) (hcap : ¬ cap = E.opn.length - (E.given - ak)) :
    Calls Try.prog 12 #[.pointer (some ⟨p, 0, none⟩), .agg #[.int .i64 c, .bool u, .int .i64 ep, .int .i64 (sq : Int), .int .i64 (ak : Int), .string b]] w (TakePost w p E F N ⟨c, u, ep, sq, ak, b⟩) := by
  go_enter Try.func12, Try.ntmps12
  go_wp2_with fail
  refine HX.out.mono ?_
  rintro e w2 ⟨rfl, hb2⟩
  have HM2 := Lib.hid ((HM.out.box (.cells #[.int .i64 c, .bool u, .int .i64 ep, .int .i64 (sq : Int), .int .i64 (ak : Int), .string b] 41)).below hb2 (Nat.le_refl _))
  have x3 : w2.cell? ⟨w.heap.size, 3, none⟩ = some (.int .i64 (sq : Int)) := (hb2.cell (p := ⟨w.heap.size, 3, none⟩) (by simp)).trans (blk_cell (heap_alloc_new w _) 3 _ rfl)
  have x4 : w2.cell? ⟨w.heap.size, 4, none⟩ = some (.int .i64 (ak : Int)) := (hb2.cell (p := ⟨w.heap.size, 4, none⟩) (by simp)).trans (blk_cell (heap_alloc_new w _) 4 _ rfl)
  have x5 : w2.cell? ⟨w.heap.size, 5, none⟩ = some (.string b) := (hb2.cell (p := ⟨w.heap.size, 5, none⟩) (by simp)).trans (blk_cell (heap_alloc_new w _) 5 _ rfl)
  have HP := Lib.hid (Pre.mk (w := w) (B := w.heap.size) HM2.out (Chg.ofBelow (((Below.refl w.heap.size w).alloc (Nat.le_refl _) (.cells #[.int .i64 c, .bool u, .int .i64 ep, .int .i64 (sq : Int), .int .i64 (ak : Int), .string b] 41)).trans (hb2.mono (by simp)))) x3 x5 (Nat.ne_of_lt HM.out.lt))
  clear hb2
  have y1 := HM2.out.c1
  have y2 := HM2.out.c2
  have z1 := HM2.out.fz 1
  go_wp2_with fail
  have s1 : IntKind.i64.wrap ((E.given : Int) - (ak : Int)) = ((E.given - ak : Nat) : Int) := by rw [IntKind.wrap_i64]; omega
  go_quiet (fail)
  clear s1
  go_wp2_with fail
  have s2 : IntKind.i64.wrap ((E.opn.length : Int) - ((E.given - ak : Nat) : Int)) = ((E.opn.length - (E.given - ak) : Nat) : Int) := by rw [IntKind.wrap_i64]; omega
  have t0 : (0 : Int) ≤ ((E.opn.length - (E.given - ak) : Nat) : Int) := by omega
  have t1 : ((E.opn.length - (E.given - ak) : Nat) : Int) ≤ (E.opn.length : Int) := by omega
  go_region
  have hl0 : E.opn.length - (E.opn.length - (E.given - ak)) = (E.opn.drop (E.opn.length - (E.given - ak))).length := by rw [List.length_drop]
  have HP0 := HP.out
  have HP3 := Lib.hid (pre_open HP0 (nq + 1) (.slice (Option.map (fun x => x.add (E.opn.length - (E.given - ak))) ao) (E.opn.length - (E.opn.length - (E.given - ak))) (cap - (E.opn.length - (E.given - ak)))) (E.opn.drop (E.opn.length - (E.given - ak))) (drop_sl2 HP0.mem.sl rfl (by omega) (by omega)))
  generalize (w2.drewN (nq + 1)).setCell ⟨p, 1, none⟩ (.slice (Option.map (fun x => x.add (E.opn.length - (E.given - ak))) ao) (E.opn.length - (E.opn.length - (E.given - ak))) (cap - (E.opn.length - (E.given - ak)))) = W3 at HP3 ⊢
  clear HP0 s2 t0 t1 hl0
  obtain ⟨E1, hE1⟩ : ∃ E1, E1 = acked E (ak : Int) := ⟨_, rfl⟩
  obtain ⟨sv3, HP5⟩ : ∃ sv3, Hid (Pre w w.heap.size W3 p E1 F N sv3 m sq b) := ⟨_, by rw [hE1]; exact HP3⟩
  have HE1 := Lib.hid hE1
  clear HP3 HP HM2 x3 x4 x5 y1 y2 z1 hE1 nq
  have x3 := HP5.out.x3
  have y5 := HP5.out.mem.c5
  have z5 := HP5.out.mem.fz 5
  by_cases hs : sq = 0
  · have hs0 : ((sq : Int) == 0) = true := beq_iff_eq.2 (by omega)
    go_wp2_with fail
    go_ret2
    exact zero_post HP5.out HE1.out HE.out (by omega) HO.out
  · have hs0 : ((sq : Int) == 0) = false := beq_eq_false_iff_ne.2 (by omega)
    go_wp2_with fail
    have HP6 := Lib.hid (pre_owed HP5.out true)
    generalize W3.setCell ⟨p, 5, none⟩ (.bool true) = W4 at HP6 ⊢
    clear x3 y5 z5
    obtain ⟨E2, hE2⟩ : ∃ E2 : En, E2 = { E1 with owed := true } := ⟨_, rfl⟩
    have HE2 := Lib.hid hE2
    have HP7 : Hid (Pre w w.heap.size W4 p E2 F N sv3 m sq b) := by rw [hE2]; exact HP6
    have hgot2 : E2.got = E.got := by rw [hE2, HE1.out]; rfl
    have hb5 : sq ≤ E2.got + 32 := by omega
    have hb6 : E2.got ≤ 33 * N := by omega
    clear HP6 hgot2 hE2
    have x3 := HP7.out.x3
    have x5 := HP7.out.x5
    have y3 := HP7.out.mem.c3
    have y4 := HP7.out.mem.c4
    have hlk := fun n => (HP7.out.mem.drewN n).mp.look (wf_nat sq (by omega))
    by_cases hcase : E2.early (sq : Int) = none ∧ E2.got < sq
    · -- stored
      obtain ⟨he0, hgt0⟩ := hcase
      simp only [he0, Option.getD_none, Option.isSome_none] at hlk
      have HE0 := Lib.hid he0
      clear he0
      have d2 : decide (E2.got < sq) = true := decide_eq_true hgt0
      go_quiet (fail)
      have HP8 := Lib.hid (pre_drewN HP7.out nq)
      generalize W4.drewN nq = W5 at HP8 ⊢
      clear x3 x5 y3 y4 hlk nq
      have x3 := HP8.out.x3
      have y3 := HP8.out.mem.c3
      go_wp2_with fail
      go_quiet (fail)
      have HP9 := Lib.hid (pre_drewN HP8.out nq)
      generalize W5.drewN nq = W6 at HP9 ⊢
      clear x3 y3 nq
      have x3 := HP9.out.x3
      have x5 := HP9.out.x5
      have y4 := HP9.out.mem.c4
      obtain ⟨w7, hrun, hmp, hgb⟩ := HP9.out.mem.drew.mp.store (wf_nat sq (by omega)) (by unfold maxLen; omega) b (by unfold maxLen; omega)
      have HMP := Lib.hid hmp
      have HGB := Lib.hid hgb
      clear hmp hgb
      go_wp2_with fail
      go_region
      clear hrun x3 x5 y4
      obtain ⟨EF, LF, top, HL0⟩ : ∃ EF LF top, Hid (LoopR w p F N sv3 m EF LF top 33 { E2 with early := put E2.early (sq : Int) (some b) } [] (.slice none 0 0) w7 ∧ EF = takeE E ⟨c, u, ep, sq, ak, b⟩ ∧ LF = takeL E ⟨c, u, ep, sq, ak, b⟩) := ⟨_, _, _, Lib.hid (store_start HP9.out HMP.out HGB.out HE1.out HE2.out HE.out hs HE0.out hgt0 HO.out)⟩
      obtain ⟨HL0, hef, hlf'⟩ : Hid (LoopR w p F N sv3 m EF LF top 33 { E2 with early := put E2.early (sq : Int) (some b) } [] (.slice none 0 0) w7) ∧ EF = takeE E ⟨c, u, ep, sq, ak, b⟩ ∧ LF = takeL E ⟨c, u, ep, sq, ak, b⟩ := HL0.out
      have HEF := Lib.hid hef
      have HLF := Lib.hid hlf'
      clear hef hlf'
      go_wp2_with fail
      go_loopg [10] 33 (fun kq v10 wr => ∃ (e : En) (out : List ByteArray), Hid (LoopR w p F N sv3 m EF LF top kq e out v10 wr))
      case atStart => exact ⟨_, [], HL0⟩
      case round =>
        obtain ⟨e, out, HL⟩ := hrel
        have y3 := HL.out.mem.c3
        have y4 := HL.out.mem.c4
        have hg1 : e.got ≤ 400000 := by have := HL.out.upto.got; have := HL.out.hi; omega
        have ho1 : out.length + gk ≤ 33 := HL.out.len
        have hkk := fun n => (HL.out.mem.drewN n).mp.look (wf_succ e.got (by omega))
        have s1 : IntKind.i64.wrap ((e.got : Int) + 1) = (e.got : Int) + 1 := by rw [IntKind.wrap_i64]; omega
        obtain ⟨ao1, cap1, rfl⟩ := HL.out.sl.slice
        cases hnext : e.early ((e.got : Int) + 1) with
        | none =>
          simp only [hnext, Option.getD_none, Option.isSome_none] at hkk
          have HN := Lib.hid hnext
          clear hnext
          go_wp2_with fail
          go_quiet (fail)
          clear s1
          go_wp2_with fail
          go_ret2
          exact end_post2 (HL.out.drewN nq) HEF.out HLF.out HN.out HE.out HO.out
        | some s =>
          simp only [hnext, Option.getD_some, Option.isSome_some] at hkk
          have HN := Lib.hid hnext
          clear hnext
          go_wp2_with fail
          go_quiet (fail)
          clear s1
          have HL2 := Lib.hid (HL.out.drewN nq)
          generalize wr.drewN nq = W8 at HL2 ⊢
          clear y3 y4 hkk
          have y3 := HL2.out.mem.c3
          have z3 := HL2.out.mem.fz 3
          go_wp2_with fail
          have hcast : ((e.got : Int) + 1) = ((e.got + 1 : Nat) : Int) := by omega
          have HM9 := Lib.hid (HL2.out.mem.got (e.got + 1) (.int .i64 ((e.got : Int) + 1)) (by rw [hcast]))
          obtain ⟨W9, hW9⟩ : ∃ W9, W9 = W8.setCell ⟨p, 3, none⟩ (.int .i64 ((e.got : Int) + 1)) := ⟨_, rfl⟩
          rw [← hW9] at HM9 ⊢
          have HW9 := Lib.hid hW9
          have HCA := Lib.hid hcast
          clear hW9 hcast y3 z3
          have y3 : W9.cell? ⟨p, 3, none⟩ = some (.int .i64 ((e.got : Int) + 1)) := by rw [HCA.out]; exact HM9.out.c3
          have y4 := HM9.out.c4
          obtain ⟨wA, hdel, hdm, hdg⟩ := drop_all HM9.out.drew.mp (wf_succ e.got (by omega))
          have HDM := Lib.hid hdm
          have HDG := Lib.hid hdg
          have HDEL := Lib.hid hdel
          clear hdm hdg hdel
          go_region_law (refine step_delete rfl _ _ 64 3 rfl rfl rfl HDEL.out ?_)
          all_goals
            have HSX := Lib.hid (sl_later HL2.out.sl HL2.out.mem.fp HL2.out.mem.fm hF HW9.out HDG.out)
            clear y3 y4
            go_wp2_with (at_builtin; refine wpList_append_sl _ rfl _ _ 34 rfl 9 (.string ⟨#[]⟩) 1 16 Try.underlying34 info9 rfl (by decide) rfl rfl (sl_box1 HSX.out _) (src_one _ (.string s) 9) rfl (by intro u hu; simp at hu; subst hu; rfl) (by unfold maxLen; omega) (by omega) ?_; intro v' wB hslB hchB; have HSB := Lib.hid hslB; have HCB := Lib.hid hchB; clear hslB hchB)
            have HST := Lib.hid (loop_step HL2.out hF HN.out (by rw [HCA.out]) HW9.out (by rw [← HCA.out]; exact HDM.out) HDG.out HSB.out HCB.out)
            go_roundg (gk - 1)
            case measure => have := HST.out.1; omega
            case rel => exact ⟨_, _, HST.out.2⟩
    · have HCASE := Lib.hid hcase
      cases hes : E2.early (sq : Int) with
      | none =>
        have d2 : decide (E2.got < sq) = false := decide_eq_false (fun x => hcase ⟨hes, x⟩)
        simp only [hes, Option.getD_none, Option.isSome_none] at hlk
        clear hcase hes
        go_quiet (fail)
        have HP8 := Lib.hid (pre_drewN HP7.out nq)
        generalize W4.drewN nq = W5 at HP8 ⊢
        clear x3 x5 y3 y4 hlk nq
        have x3 := HP8.out.x3
        have y3 := HP8.out.mem.c3
        go_wp2_with fail
        go_quiet (fail)
        have HP9 := Lib.hid (pre_drewN HP8.out nq)
        generalize W5.drewN nq = W6 at HP9 ⊢
        clear x3 y3 nq
        obtain ⟨EF, LF, top, HL0⟩ : ∃ EF LF top, Hid (LoopR w p F N sv3 m EF LF top 33 E2 [] (.slice none 0 0) W6 ∧ EF = takeE E ⟨c, u, ep, sq, ak, b⟩ ∧ LF = takeL E ⟨c, u, ep, sq, ak, b⟩) := ⟨_, _, _, Lib.hid (plain_start HP9.out HE1.out HE2.out HE.out hs HCASE.out HO.out)⟩
        obtain ⟨HL0, hef, hlf'⟩ : Hid (LoopR w p F N sv3 m EF LF top 33 E2 [] (.slice none 0 0) W6) ∧ EF = takeE E ⟨c, u, ep, sq, ak, b⟩ ∧ LF = takeL E ⟨c, u, ep, sq, ak, b⟩ := HL0.out
        have HEF := Lib.hid hef
        have HLF := Lib.hid hlf'
        clear hef hlf'
        go_wp2_with fail
        go_loopg [10] 33 (fun kq v10 wr => ∃ (e : En) (out : List ByteArray), Hid (LoopR w p F N sv3 m EF LF top kq e out v10 wr))
        case atStart => exact ⟨_, [], HL0⟩
        case round =>
          obtain ⟨e, out, HL⟩ := hrel
          have y3 := HL.out.mem.c3
          have y4 := HL.out.mem.c4
          have hg1 : e.got ≤ 400000 := by have := HL.out.upto.got; have := HL.out.hi; omega
          have ho1 : out.length + gk ≤ 33 := HL.out.len
          have hkk := fun n => (HL.out.mem.drewN n).mp.look (wf_succ e.got (by omega))
          have s1 : IntKind.i64.wrap ((e.got : Int) + 1) = (e.got : Int) + 1 := by rw [IntKind.wrap_i64]; omega
          obtain ⟨ao1, cap1, rfl⟩ := HL.out.sl.slice
          cases hnext : e.early ((e.got : Int) + 1) with
          | none =>
            simp only [hnext, Option.getD_none, Option.isSome_none] at hkk
            have HN := Lib.hid hnext
            clear hnext
            go_wp2_with fail
            go_quiet (fail)
            clear s1
            go_wp2_with fail
            go_ret2
            exact end_post2 (HL.out.drewN nq) HEF.out HLF.out HN.out HE.out HO.out
          | some s =>
            simp only [hnext, Option.getD_some, Option.isSome_some] at hkk
            have HN := Lib.hid hnext
            clear hnext
            go_wp2_with fail
            go_quiet (fail)
            clear s1
            have HL2 := Lib.hid (HL.out.drewN nq)
            generalize wr.drewN nq = W8 at HL2 ⊢
            clear y3 y4 hkk
            have y3 := HL2.out.mem.c3
            have z3 := HL2.out.mem.fz 3
            go_wp2_with fail
            have hcast : ((e.got : Int) + 1) = ((e.got + 1 : Nat) : Int) := by omega
            have HM9 := Lib.hid (HL2.out.mem.got (e.got + 1) (.int .i64 ((e.got : Int) + 1)) (by rw [hcast]))
            obtain ⟨W9, hW9⟩ : ∃ W9, W9 = W8.setCell ⟨p, 3, none⟩ (.int .i64 ((e.got : Int) + 1)) := ⟨_, rfl⟩
            rw [← hW9] at HM9 ⊢
            have HW9 := Lib.hid hW9
            have HCA := Lib.hid hcast
            clear hW9 hcast y3 z3
            have y3 : W9.cell? ⟨p, 3, none⟩ = some (.int .i64 ((e.got : Int) + 1)) := by rw [HCA.out]; exact HM9.out.c3
            have y4 := HM9.out.c4
            obtain ⟨wA, hdel, hdm, hdg⟩ := drop_all HM9.out.drew.mp (wf_succ e.got (by omega))
            have HDM := Lib.hid hdm
            have HDG := Lib.hid hdg
            have HDEL := Lib.hid hdel
            clear hdm hdg hdel
            go_region_law (refine step_delete rfl _ _ 64 3 rfl rfl rfl HDEL.out ?_)
            all_goals
              have HSX := Lib.hid (sl_later HL2.out.sl HL2.out.mem.fp HL2.out.mem.fm hF HW9.out HDG.out)
              clear y3 y4
              go_wp2_with (at_builtin; refine wpList_append_sl _ rfl _ _ 34 rfl 9 (.string ⟨#[]⟩) 1 16 Try.underlying34 info9 rfl (by decide) rfl rfl (sl_box1 HSX.out _) (src_one _ (.string s) 9) rfl (by intro u hu; simp at hu; subst hu; rfl) (by unfold maxLen; omega) (by omega) ?_; intro v' wB hslB hchB; have HSB := Lib.hid hslB; have HCB := Lib.hid hchB; clear hslB hchB)
              have HST := Lib.hid (loop_step HL2.out hF HN.out (by rw [HCA.out]) HW9.out (by rw [← HCA.out]; exact HDM.out) HDG.out HSB.out HCB.out)
              go_roundg (gk - 1)
              case measure => have := HST.out.1; omega
              case rel => exact ⟨_, _, HST.out.2⟩
      | some so =>
        simp only [hes, Option.getD_some, Option.isSome_some] at hlk
        clear hcase hes
        go_quiet (fail)
        have HP8 := Lib.hid (pre_drewN HP7.out nq)
        generalize W4.drewN nq = W5 at HP8 ⊢
        clear x3 x5 y3 y4 hlk nq
        have x3 := HP8.out.x3
        have y3 := HP8.out.mem.c3
        go_wp2_with fail
        go_quiet (fail)
        have HP9 := Lib.hid (pre_drewN HP8.out nq)
        generalize W5.drewN nq = W6 at HP9 ⊢
        clear x3 y3 nq
        obtain ⟨EF, LF, top, HL0⟩ : ∃ EF LF top, Hid (LoopR w p F N sv3 m EF LF top 33 E2 [] (.slice none 0 0) W6 ∧ EF = takeE E ⟨c, u, ep, sq, ak, b⟩ ∧ LF = takeL E ⟨c, u, ep, sq, ak, b⟩) := ⟨_, _, _, Lib.hid (plain_start HP9.out HE1.out HE2.out HE.out hs HCASE.out HO.out)⟩
        obtain ⟨HL0, hef, hlf'⟩ : Hid (LoopR w p F N sv3 m EF LF top 33 E2 [] (.slice none 0 0) W6) ∧ EF = takeE E ⟨c, u, ep, sq, ak, b⟩ ∧ LF = takeL E ⟨c, u, ep, sq, ak, b⟩ := HL0.out
        have HEF := Lib.hid hef
        have HLF := Lib.hid hlf'
        clear hef hlf'
        go_wp2_with fail
        go_loopg [10] 33 (fun kq v10 wr => ∃ (e : En) (out : List ByteArray), Hid (LoopR w p F N sv3 m EF LF top kq e out v10 wr))
        case atStart => exact ⟨_, [], HL0⟩
        case round =>
          obtain ⟨e, out, HL⟩ := hrel
          have y3 := HL.out.mem.c3
          have y4 := HL.out.mem.c4
          have hg1 : e.got ≤ 400000 := by have := HL.out.upto.got; have := HL.out.hi; omega
          have ho1 : out.length + gk ≤ 33 := HL.out.len
          have hkk := fun n => (HL.out.mem.drewN n).mp.look (wf_succ e.got (by omega))
          have s1 : IntKind.i64.wrap ((e.got : Int) + 1) = (e.got : Int) + 1 := by rw [IntKind.wrap_i64]; omega
          obtain ⟨ao1, cap1, rfl⟩ := HL.out.sl.slice
          cases hnext : e.early ((e.got : Int) + 1) with
          | none =>
            simp only [hnext, Option.getD_none, Option.isSome_none] at hkk
            have HN := Lib.hid hnext
            clear hnext
            go_wp2_with fail
            go_quiet (fail)
            clear s1
            go_wp2_with fail
            go_ret2
            exact end_post2 (HL.out.drewN nq) HEF.out HLF.out HN.out HE.out HO.out
          | some s =>
            simp only [hnext, Option.getD_some, Option.isSome_some] at hkk
            have HN := Lib.hid hnext
            clear hnext
            go_wp2_with fail
            go_quiet (fail)
            clear s1
            have HL2 := Lib.hid (HL.out.drewN nq)
            generalize wr.drewN nq = W8 at HL2 ⊢
            clear y3 y4 hkk
            have y3 := HL2.out.mem.c3
            have z3 := HL2.out.mem.fz 3
            go_wp2_with fail
            have hcast : ((e.got : Int) + 1) = ((e.got + 1 : Nat) : Int) := by omega
            have HM9 := Lib.hid (HL2.out.mem.got (e.got + 1) (.int .i64 ((e.got : Int) + 1)) (by rw [hcast]))
            obtain ⟨W9, hW9⟩ : ∃ W9, W9 = W8.setCell ⟨p, 3, none⟩ (.int .i64 ((e.got : Int) + 1)) := ⟨_, rfl⟩
            rw [← hW9] at HM9 ⊢
            have HW9 := Lib.hid hW9
            have HCA := Lib.hid hcast
            clear hW9 hcast y3 z3
            have y3 : W9.cell? ⟨p, 3, none⟩ = some (.int .i64 ((e.got : Int) + 1)) := by rw [HCA.out]; exact HM9.out.c3
            have y4 := HM9.out.c4
            obtain ⟨wA, hdel, hdm, hdg⟩ := drop_all HM9.out.drew.mp (wf_succ e.got (by omega))
            have HDM := Lib.hid hdm
            have HDG := Lib.hid hdg
            have HDEL := Lib.hid hdel
            clear hdm hdg hdel
            go_region_law (refine step_delete rfl _ _ 64 3 rfl rfl rfl HDEL.out ?_)
            all_goals
              have HSX := Lib.hid (sl_later HL2.out.sl HL2.out.mem.fp HL2.out.mem.fm hF HW9.out HDG.out)
              clear y3 y4
              go_wp2_with (at_builtin; refine wpList_append_sl _ rfl _ _ 34 rfl 9 (.string ⟨#[]⟩) 1 16 Try.underlying34 info9 rfl (by decide) rfl rfl (sl_box1 HSX.out _) (src_one _ (.string s) 9) rfl (by intro u hu; simp at hu; subst hu; rfl) (by unfold maxLen; omega) (by omega) ?_; intro v' wB hslB hchB; have HSB := Lib.hid hslB; have HCB := Lib.hid hchB; clear hslB hchB)
              have HST := Lib.hid (loop_step HL2.out hF HN.out (by rw [HCA.out]) HW9.out (by rw [← HCA.out]; exact HDM.out) HDG.out HSB.out HCB.out)
              go_roundg (gk - 1)
              case measure => have := HST.out.1; omega
              case rel => exact ⟨_, _, HST.out.2⟩

end Go.Proofs.Ytjlhipnlacfekaa.Wa
