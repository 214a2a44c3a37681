/-
  The laws' own first look ('awake').
-/
import Derived.Test.YtjlhipnlacfekaaWe
import Derived.Test.YtjlhipnlacfekaaWi
import Derived.Test.YtjlhipnlacfekaaLb
namespace Go.Proofs.Ytjlhipnlacfekaa.Wa
open Go.RowKit Go.Maps Go.Proofs.Ytjlhipnlacfekaa.Md Go.Proofs.Ytjlhipnlacfekaa.Hp Go.Proofs.Ytjlhipnlacfekaa.Rp Go.Proofs.Ytjlhipnlacfekaa.Lbl
set_option linter.unusedSimpArgs false
set_option linter.unusedVariables false

def sa : ByteArray := ⟨#[97]⟩
def sb : ByteArray := ⟨#[98]⟩
def a2 : En := sent (sent (newE 3) sa) sb
def g1 : Gr := gram a2 1 sa
def g2 : Gr := gram a2 2 sb
def b1 : En := takeE (newE 3) g2
def b2 : En := takeE b1 g1
def b3 : En := takeE b2 g1
theorem aw1 : sendErr (newE 3) sa = 0 := by decide
theorem aw2 : sendErr (sent (newE 3) sa) sb = 0 := by decide
theorem aw3 : outL a2 = [g1, g2] := by rfl
theorem aw4 : takeErr (newE 3) g2 = 0 := by decide
theorem aw5 : takeL (newE 3) g2 = [] := by rfl
theorem aw6 : takeErr b1 g1 = 0 := by decide
theorem aw7 : takeL b1 g1 = [sa, sb] := by rfl
theorem aw8 : takeErr b2 g1 = 0 := by decide
theorem aw9 : takeL b2 g1 = [] := by rfl
theorem aw10 : outL b3 = [⟨0, false, 3, 0, 2, ⟨#[]⟩⟩] := by rfl
theorem aw11 : owes (outE b3) = false := by rfl
theorem aw12 : (outE b3).got = 2 := by rfl
theorem aw13 : (outE a2).opn.length = 2 := by rfl
theorem aw14 : (outE a2).epoch = 3 := by rfl

theorem sb_list : sb.toList = [98] := by simp [sb, ByteArray.toList, ByteArray.toList.loop, ByteArray.size, ByteArray.get!]
theorem sa_list : sa.toList = [97] := by simp [sa, ByteArray.toList, ByteArray.toList.loop, ByteArray.size, ByteArray.get!]
/-- Cell f of datagram i of a list. -/
theorem gr_cell {w : World} {n b off cap : Nat} {l : List Gr} {F : Nat → Prop} (h : Sl w 6 (.slice (some ⟨b, off, none⟩) n cap) n (gcells l) F) (i f : Nat) (u : Value) (hu : (gcells l)[i * 6 + f]? = some u) : w.cell? ⟨b, off + (i * 6 + f), none⟩ = some u := by
  have hl := h.len
  have hn : 0 < n := by
    have := (List.getElem?_eq_some_iff.1 hu).1
    omega
  obtain ⟨b', off', cap', e, _, _, _, hx⟩ := h.form hn
  injection e with e
  injection e with e
  injection e with e1 e2
  subst e1 e2
  exact hx _ u hu

set_option maxHeartbeats 4000000 in
theorem awake_any (w : World) : Calls Try.prog 8 #[] w fun e w' => e = .returned (.bool true) ∧ Below w.heap.size w w' := by
  have h1 := aw1
  have h2 := aw2
  have h4 := aw4
  have h6 := aw6
  have h8 := aw8
  have h11 := aw11
  have h12 := aw12
  have h13 := aw13
  have h14 := aw14
  go_enter Try.func8, Try.ntmps8
  go_wp2_with fail
  refine (new_any 3 (by decide) (by decide) _ 10).mono ?_
  rintro e w1 ⟨rfl, hr, hb⟩
  have RA := Lib.hid (rep_new (L := fun _ => 0) (r := 1) hr)
  have HL := Lib.hid ((Lab.start w).stay hb 1)
  generalize rel (fun _ => 0) w 1 = L1 at RA HL
  clear hr hb
  generalize w.heap.size + 1 = pA at *
  go_wp2_with fail
  refine (new_any 3 (by decide) (by decide) _ 10).mono ?_
  rintro e w2 ⟨rfl, hr, hb⟩
  have RB := Lib.hid (rep_new (L := L1) (r := 2) hr)
  have RA2 := Lib.hid (rep_stay (r := 2) RA.out hb)
  have HL2 := Lib.hid (HL.out.stay hb 2)
  generalize rel L1 w1 2 = L2 at RA2 RB HL2
  clear hr hb RA HL
  generalize w1.heap.size + 1 = pB at *
  go_wp2_with fail
  refine (new_none 0 (by decide) _).mono ?_
  rintro e w3 ⟨rfl, rfl⟩
  go_wp2_with fail
  refine (send_any RA2.out (by decide) sa).mono ?_
  rintro e w3 ⟨rfl, hr, hc⟩
  have RA3 := Lib.hid (rep_grown hr hc.size)
  have RB3 := Lib.hid (rep_other (r := 1) RB.out hc (by decide))
  have HL3 := Lib.hid (HL2.out.step (by decide) hc 1)
  generalize rel L2 w2 1 = L3 at RA3 RB3 HL3
  clear hr hc RA2 RB HL2
  go_wp2_with fail
  refine (send_any RA3.out (by decide) sb).mono ?_
  rintro e w4 ⟨rfl, hr, hc⟩
  have RA4 := Lib.hid (rep_grown hr hc.size)
  have RB4 := Lib.hid (rep_other (r := 1) RB3.out hc (by decide))
  have HL4 := Lib.hid (HL3.out.step (by decide) hc 1)
  generalize rel L3 w3 1 = L4 at RA4 RB4 HL4
  clear hr hc RA3 RB3 HL3
  go_wp2_with fail
  refine (out_any RA4.out (by decide)).mono ?_
  rintro e w5 ⟨vl, rfl, hr, hs, hc⟩
  have RA5 := Lib.hid (rep_same (r := 3) hr hc.size)
  have RB5 := Lib.hid (rep_other (r := 3) RB4.out hc (by decide))
  have HL5 := Lib.hid (HL4.out.step (by decide) hc 3)
  have S5 := Lib.hid (sl_new (L := L4) (r := 3) hs)
  generalize rel L4 w4 3 = L5 at RA5 RB5 HL5 S5
  clear hr hs hc RA4 RB4 HL4
  have S5' : Hid (Sl w5 6 vl 2 (gcells [g1, g2]) (Lb L5 w5 3)) := by have := S5.out; rw [show sent (sent (newE 3) sa) sb = a2 from rfl, aw3] at this; exact this
  obtain ⟨bl, ol, cl, rfl, _, _, _, _⟩ := S5'.out.form (by decide)
  clear S5
  have kl0 : w5.cell? ⟨bl, ol + 6, none⟩ = some (.int .i64 0) := gr_cell S5'.out 1 0 _ rfl
  have kl1 : w5.cell? ⟨bl, ol + 6 + 1, none⟩ = some (.bool false) := gr_cell S5'.out 1 1 _ rfl
  have kl2 : w5.cell? ⟨bl, ol + 6 + 2, none⟩ = some (.int .i64 3) := gr_cell S5'.out 1 2 _ rfl
  have kl3 : w5.cell? ⟨bl, ol + 6 + 3, none⟩ = some (.int .i64 2) := gr_cell S5'.out 1 3 _ rfl
  have kl4 : w5.cell? ⟨bl, ol + 6 + 4, none⟩ = some (.int .i64 0) := gr_cell S5'.out 1 4 _ rfl
  have kl5 : w5.cell? ⟨bl, ol + 6 + 5, none⟩ = some (.string sb) := gr_cell S5'.out 1 5 _ rfl
  have kl9 : w5.cell? ⟨bl, ol + 9, none⟩ = some (.int .i64 2) := gr_cell S5'.out 1 3 _ rfl
  have kl11 : w5.cell? ⟨bl, ol + 11, none⟩ = some (.string sb) := gr_cell S5'.out 1 5 _ rfl
  have hsb : sb.toList = [98] := sb_list
  have HT1 := Lib.hid (take_any RB5.out (by decide) lb_lt g2)
  rw [show Gr.val g2 = .agg #[.int .i64 0, .bool false, .int .i64 3, .int .i64 2, .int .i64 0, .string sb] from rfl] at HT1
  go_wp2_with fail
  refine HT1.out.mono ?_
  rintro e w6 ⟨v1, rfl, hr, hs, hc, h0⟩
  obtain rfl := h0 aw5
  have RB6 := Lib.hid (rep_same (r := 4) hr hc.size)
  have RA6 := Lib.hid (rep_other (r := 4) RA5.out hc (by decide))
  have HL6 := Lib.hid (HL5.out.step (by decide) hc 4)
  have S6 := Lib.hid (sl_other (r := 4) S5'.out hc (by decide))
  generalize rel L5 w5 4 = L6 at RA6 RB6 HL6 S6
  clear hr hs hc RA5 RB5 HL5 HT1 h0 kl0 kl1 kl2 kl3 kl4 kl5 kl9 kl11 S5'
  have kl0 : w6.cell? ⟨bl, ol, none⟩ = some (.int .i64 0) := gr_cell S6.out 0 0 _ rfl
  have kl1 : w6.cell? ⟨bl, ol + 1, none⟩ = some (.bool false) := gr_cell S6.out 0 1 _ rfl
  have kl2 : w6.cell? ⟨bl, ol + 2, none⟩ = some (.int .i64 3) := gr_cell S6.out 0 2 _ rfl
  have kl3 : w6.cell? ⟨bl, ol + 3, none⟩ = some (.int .i64 1) := gr_cell S6.out 0 3 _ rfl
  have kl4 : w6.cell? ⟨bl, ol + 4, none⟩ = some (.int .i64 0) := gr_cell S6.out 0 4 _ rfl
  have kl5 : w6.cell? ⟨bl, ol + 5, none⟩ = some (.string sa) := gr_cell S6.out 0 5 _ rfl
  have HT1 := Lib.hid (take_any (E := b1) RB6.out (by decide) lb_lt g1)
  rw [show Gr.val g1 = .agg #[.int .i64 0, .bool false, .int .i64 3, .int .i64 1, .int .i64 0, .string sa] from rfl] at HT1
  go_wp2_with fail
  refine HT1.out.mono ?_
  rintro e w7 ⟨v2, rfl, hr, hs, hc, -⟩
  rw [aw7] at hs
  have RB7 := Lib.hid (rep_same (r := 5) hr hc.size)
  have RA7 := Lib.hid (rep_other (r := 5) RA6.out hc (by decide))
  have HL7 := Lib.hid (HL6.out.step (by decide) hc 5)
  have S7 := Lib.hid (sl_other (r := 5) S6.out hc (by decide))
  have Y7 := Lib.hid (sl_new (L := L6) (r := 5) hs)
  generalize rel L6 w6 5 = L7 at RA7 RB7 HL7 S7 Y7
  clear hr hs hc RA6 RB6 HL6 HT1 kl0 kl1 kl2 kl3 kl4 kl5 S6
  obtain ⟨by_, oy, cy, rfl, _, _, _, _⟩ := Y7.out.form (by decide)
  have kl0 : w7.cell? ⟨bl, ol, none⟩ = some (.int .i64 0) := gr_cell S7.out 0 0 _ rfl
  have kl1 : w7.cell? ⟨bl, ol + 1, none⟩ = some (.bool false) := gr_cell S7.out 0 1 _ rfl
  have kl2 : w7.cell? ⟨bl, ol + 2, none⟩ = some (.int .i64 3) := gr_cell S7.out 0 2 _ rfl
  have kl3 : w7.cell? ⟨bl, ol + 3, none⟩ = some (.int .i64 1) := gr_cell S7.out 0 3 _ rfl
  have kl4 : w7.cell? ⟨bl, ol + 4, none⟩ = some (.int .i64 0) := gr_cell S7.out 0 4 _ rfl
  have kl5 : w7.cell? ⟨bl, ol + 5, none⟩ = some (.string sa) := gr_cell S7.out 0 5 _ rfl
  have HT1 := Lib.hid (take_any (E := b2) RB7.out (by decide) lb_lt g1)
  rw [show Gr.val g1 = .agg #[.int .i64 0, .bool false, .int .i64 3, .int .i64 1, .int .i64 0, .string sa] from rfl] at HT1
  go_wp2_with fail
  refine HT1.out.mono ?_
  rintro e w8 ⟨v3, rfl, hr, hs, hc, h0⟩
  obtain rfl := h0 aw9
  have RB8 := Lib.hid (rep_same (r := 6) hr hc.size)
  have RA8 := Lib.hid (rep_other (r := 6) RA7.out hc (by decide))
  have HL8 := Lib.hid (HL7.out.step (by decide) hc 6)
  have Y8 := Lib.hid (sl_other (r := 6) Y7.out hc (by decide))
  generalize rel L7 w7 6 = L8 at RA8 RB8 HL8 Y8
  clear hr hs hc RA7 RB7 HL7 HT1 kl0 kl1 kl2 kl3 kl4 kl5 S7 Y7 h0
  go_wp2_with fail
  refine (out_any (E := b3) RB8.out (by decide)).mono ?_
  rintro e w9 ⟨v4, rfl, hr, hs, hc⟩
  rw [aw10] at hs
  have RB9 := Lib.hid (rep_same (r := 7) hr hc.size)
  have RA9 := Lib.hid (rep_other (r := 7) RA8.out hc (by decide))
  have HL9 := Lib.hid (HL8.out.step (by decide) hc 7)
  have Y9 := Lib.hid (sl_other (r := 7) Y8.out hc (by decide))
  have O9 := Lib.hid (sl_new (L := L8) (r := 7) hs)
  generalize rel L8 w8 7 = L9 at RA9 RB9 HL9 Y9 O9
  clear hr hs hc RA8 RB8 HL8 Y8
  obtain ⟨bo, oo, co, rfl, _, _, _, _⟩ := O9.out.form (by decide)
  have hsa : sa.toList = [97] := sa_list
  have ky0 : w9.cell? ⟨by_, oy, none⟩ = some (.string sa) := by
    obtain ⟨_, _, _, e, _, _, _, hx⟩ := Y9.out.form (by decide)
    injection e with e
    injection e with e
    injection e with e1 e2
    subst e1 e2
    exact hx 0 _ rfl
  have kl0 : w9.cell? ⟨bo, oo, none⟩ = some (.int .i64 0) := gr_cell O9.out 0 0 _ rfl
  have kl1 : w9.cell? ⟨bo, oo + 1, none⟩ = some (.bool false) := gr_cell O9.out 0 1 _ rfl
  have kl2 : w9.cell? ⟨bo, oo + 2, none⟩ = some (.int .i64 3) := gr_cell O9.out 0 2 _ rfl
  have kl3 : w9.cell? ⟨bo, oo + 3, none⟩ = some (.int .i64 0) := gr_cell O9.out 0 3 _ rfl
  have kl4 : w9.cell? ⟨bo, oo + 4, none⟩ = some (.int .i64 2) := gr_cell O9.out 0 4 _ rfl
  have kl5 : w9.cell? ⟨bo, oo + 5, none⟩ = some (.string ⟨#[]⟩) := gr_cell O9.out 0 5 _ rfl
  have hx11 : owes (outE b3) = false := aw11
  have hx12 : (outE b3).got = 2 := aw12
  have hx13 : (outE a2).opn.length = 2 := aw13
  have hx14 : (outE a2).epoch = 3 := aw14
  go_wp2_with fail
  refine (owes_any RB9.out).mono ?_
  rintro e w10 ⟨rfl, rfl⟩
  go_wp2_with fail
  refine (got_any RB9.out).mono ?_
  rintro e w10 ⟨rfl, rfl⟩
  go_wp2_with fail
  refine (open_any (E := outE a2) RA9.out).mono ?_
  rintro e w10 ⟨rfl, rfl⟩
  go_wp2_with fail
  refine (epoch_any (E := outE a2) RA9.out).mono ?_
  rintro e w10 ⟨rfl, rfl⟩
  go_wp2_with fail
  go_ret
  exact ⟨rfl, HL9.out.bel⟩

end Go.Proofs.Ytjlhipnlacfekaa.Wa
