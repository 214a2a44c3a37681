/-
  CordFull: a text is refused only when as many aren't acknowledged as may be: the walk.
-/
import Derived.Test.YtjlhipnlacfekaaAw
namespace Go.Proofs.Ytjlhipnlacfekaa.Wa
open Go.RowKit Go.Maps Go.Proofs.Ytjlhipnlacfekaa.Md Go.Proofs.Ytjlhipnlacfekaa.Hp Go.Proofs.Ytjlhipnlacfekaa.Rp
set_option linter.unusedSimpArgs false
set_option linter.unusedVariables false

/-- One end alone in all that is new. -/
structure One (w0 w : World) (p : Nat) (E : En) (N : Nat) : Prop where
  rep : Rep w p E (New w0 w) N
  bel : Below w0.heap.size w0 w
theorem One.start {w0 w1 w2 : World} {p : Nat} {E : En} {N : Nat} (h : Below w0.heap.size w0 w1) (hr : Rep w2 p E (New w1 w2) N) (hb : Below w1.heap.size w1 w2) : One w0 w2 p E N := by
  have := h.size
  exact ⟨hr.mono (fun b _ hf => ⟨by have := hf.1; omega, hf.2⟩) (Nat.le_refl _), h.trans (hb.mono (by omega))⟩
theorem one_chg {w0 w w' : World} (h : Below w0.heap.size w0 w) (hc : Chg (New w0 w) w w') : Below w0.heap.size w0 w' := by
  have := h.size
  exact h.trans (hc.below (by omega) fun k hk hn => by have := hn.1; omega)
theorem One.step {w0 w w' : World} {p : Nat} {E E' : En} {N M : Nat} (h : One w0 w p E N) (hr : Rep w' p E' (Grow (New w0 w) w w') M) (hc : Chg (New w0 w) w w') : One w0 w' p E' M := by
  have := h.bel.size
  refine ⟨hr.mono (fun b hb hf => ⟨?_, hb⟩) (Nat.le_refl _), one_chg h.bel hc⟩
  rcases hf with ⟨a, _⟩ | ⟨a, _⟩
  · exact a.1
  · omega
theorem One.same {w0 w w' : World} {p : Nat} {E E' : En} {N M : Nat} (h : One w0 w p E N) (hr : Rep w' p E' (New w0 w) M) (hc : Chg (New w0 w) w w') : One w0 w' p E' M :=
  ⟨hr.mono (fun b hb hf => ⟨hf.1, hb⟩) (Nat.le_refl _), one_chg h.bel hc⟩

/-- The law's own count of one end. -/
structure Full (E : En) (s g : Nat) : Prop where
  ep : E.epoch = 1
  ow : E.owed = false
  gv : E.given = s
  op : E.opn.length + g = s
  wn : E.opn.length ≤ 32
def sx : ByteArray := ⟨#[120]⟩
theorem Full.err {E : En} {s g : Nat} (h : Full E s g) : (E.opn.length < 32 ∧ sendErr E sx = 0) ∨ (E.opn.length = 32 ∧ sendErr E sx = 11) := by
  have := h.wn
  by_cases h1 : 32 ≤ E.opn.length
  · exact .inr ⟨by omega, by unfold sendErr; rw [if_neg (by decide), if_pos h1]⟩
  · exact .inl ⟨by omega, by unfold sendErr; rw [if_neg (by decide), if_neg h1]⟩
theorem Full.sent {E : En} {s g : Nat} (h : Full E s g) (hl : E.opn.length < 32) (he : sendErr E sx = 0) : Full (sent E sx) (s + 1) g ∧ (Md.sent E sx).opn.length = E.opn.length + 1 := by
  have h1 := h.gv
  have h2 := h.op
  unfold Md.sent
  rw [if_pos he]
  exact ⟨⟨h.ep, h.ow, by show E.given + 1 = s + 1; omega, by show (E.opn ++ [sx]).length + g = s + 1; simp; omega, by show (E.opn ++ [sx]).length ≤ 32; simp; omega⟩, by simp⟩
theorem Full.not {E : En} {s g : Nat} (h : Full E s g) (he : sendErr E sx = 11) : Md.sent E sx = E := by
  unfold Md.sent
  rw [he]
  rfl
def gn (n : Nat) : Gr := ⟨0, false, 1, 0, (n : Int), ⟨#[]⟩⟩
theorem Full.take {E : En} {s g n : Nat} (h : Full E s g) (h1 : g ≤ n) (h2 : n ≤ s) : takeErr E (gn n) = 0 ∧ Full (takeE E (gn n)) s n := by
  have a1 := h.gv
  have a2 := h.op
  have a3 := h.wn
  have hb : bad E (gn n) = false := by
    unfold bad
    refine decide_eq_false ?_
    rintro (x | x | x | x | x)
    · have y : (n : Int) < 0 := x; omega
    · have y : (E.given : Int) < (n : Int) := x; omega
    · have y : (0 : Int) < 0 := x; omega
    · have y : (E.got : Int) + 32 < 0 := x; omega
    · exact x.2 rfl
  have hr : rightErr E (gn n) = 0 := by
    unfold rightErr
    rw [if_neg (by rw [h.ep]; simp [gn]), if_neg (by rw [hb]; decide), if_neg (show ¬ 16384 < (gn n).body.size by show ¬ 16384 < 0; decide)]
  refine ⟨hr, ?_⟩
  unfold takeE
  rw [if_neg (by rw [hr]; decide), if_pos (by rfl)]
  refine ⟨h.ep, h.ow, h.gv, ?_, ?_⟩
  · show (E.opn.drop (E.opn.length - (E.given - (n : Int).toNat))).length + n = s
    rw [List.length_drop]; omega
  · show (E.opn.drop (E.opn.length - (E.given - (n : Int).toNat))).length ≤ 32
    rw [List.length_drop]; omega
theorem Full.outs {E : En} {s g : Nat} (h : Full E s g) : (outL E).length = s - g ∧ Full (outE E) s g := by
  have a2 := h.op
  refine ⟨?_, h.ep, rfl, h.gv, h.op, h.wn⟩
  unfold outL owes
  rw [h.ow]
  by_cases h0 : E.opn = []
  · rw [h0] at a2 ⊢
    simp at a2 ⊢
    omega
  · have : 0 < E.opn.length := List.length_pos_iff.2 h0
    rw [if_neg (by simp; omega), if_neg h0, grams_G, G_length]
    omega

set_option maxHeartbeats 4000000 in
set_option maxRecDepth 20000 in
theorem full_walk (ao : Option Addr) (n cap : Nat) (w : World) (hn : n ≤ maxLen) (hx : ∀ i, i < n → ∃ x z, ao = some x ∧ w.cell? (x.add i) = some (.int .i64 z)) :
    Calls Try.prog 4 #[.slice ao n cap] w fun e w' => e = .returned (.bool true) ∧ Below w.heap.size w w' := by
  have HX := Lib.hid hx
  have hn2 : n ≤ 9223372036854775807 := by have := hn; unfold maxLen at this; omega
  clear hx hn
  go_enter Try.func4, Try.ntmps4
  go_wp2_with fail
  refine (awake_any w).mono ?_
  rintro e w1 ⟨rfl, hb1⟩
  have HB1 := Lib.hid hb1
  clear hb1
  go_wp2_with fail
  refine (new_any 1 (by decide) (by decide) w1 0).mono ?_
  rintro e w2 ⟨rfl, hr, hb⟩
  have HO := Lib.hid (One.start HB1.out hr hb)
  clear hr hb HB1
  generalize w1.heap.size + 1 = p at HO ⊢
  go_wp2_with fail
  have HF0 : Hid (Full (newE 1) 0 0) := Lib.hid ⟨rfl, rfl, rfl, rfl, by decide⟩
  go_loopg [4, 5, 6] 20 (fun kq v4 v5 v6 wr => ∃ (s g i : Nat) (E : En), v4 = .int .i64 (s : Int) ∧ v5 = .int .i64 (g : Int) ∧ v6 = .int .i64 (i : Int) ∧ kq + i ≤ 20 ∧ 20 ≤ kq + i ∧ Hid (Full E s g) ∧ Hid (One w wr p E (100 * i)))
  case atStart => exact ⟨0, 0, 0, _, rfl, rfl, rfl, by omega, by omega, HF0, HO⟩
  case round =>
    obtain ⟨s, g, i, E, rfl, rfl, rfl, hk1, hk2, HF, HO⟩ := hrel
    by_cases hi : i < n
    · obtain ⟨x, z, rfl, hcx⟩ := HX.out i hi
      have HC := Lib.hid hcx
      clear hcx
      by_cases h20 : i < 20
      · have d1 : decide (i < n) = true := decide_eq_true hi
        have d2 : decide ((i : Int) < 20) = true := decide_eq_true (by omega)
        go_wp2_with fail
        obtain ⟨wo, rfl⟩ : ∃ wo : World, wo = wr := ⟨_, rfl⟩
        go_loopg [4, 7] 40 (fun kq v4 v7 wi => ∃ (s' k : Nat) (E' : En), v4 = .int .i64 (s' : Int) ∧ v7 = .int .i64 (k : Int) ∧ kq + k ≤ 40 ∧ 40 ≤ kq + k ∧ Hid (Full E' s' g) ∧ Hid (E'.opn.length = 32 ∨ k ≤ E'.opn.length) ∧ Hid (One w wi p E' (100 * i + k)))
        case atStart => exact ⟨s, 0, E, rfl, rfl, by omega, by omega, HF, Lib.hid (.inr (Nat.zero_le _)), HO⟩
        case round =>
          clear HF HO
          obtain ⟨s', k, E', rfl, rfl, hk3, hk4, HF, HK, HO⟩ := hrel
          by_cases hk : k < 40
          · have hs : s' ≤ 3000 := by have := HO.out.rep.ok.given; have := HF.out.gv; omega
            rcases HF.out.err with ⟨hl, he⟩ | ⟨hl, he⟩
            · go_wp2_with fail
              refine (send_any HO.out.rep (by omega) sx).mono ?_
              rintro e w3 ⟨rfl, hr, hc⟩
              have HO3 := Lib.hid (HO.out.step hr hc)
              have HF3 := Lib.hid (HF.out.sent hl he)
              have HK3 := Lib.hid (show (sent E' sx).opn.length = 32 ∨ k + 1 ≤ (sent E' sx).opn.length by have := HK.out; have := HF3.out.2; omega)
              have hop := HF.out.op
              have d3 : decide ((s' : Int) - (g : Int) < 32) = true := decide_eq_true (by omega)
              have s1 : IntKind.i64.wrap ((s' : Int) - (g : Int)) = (s' : Int) - (g : Int) := by rw [IntKind.wrap_i64]; omega
              clear hr hc
              go_wp2_with fail
              go_roundg (gk - 1)
              case measure => omega
              case rel => exact ⟨s' + 1, k + 1, _, by go_num, by go_num, by omega, by omega, Lib.hid HF3.out.1, HK3, HO3⟩
            · go_wp2_with fail
              refine (send_any HO.out.rep (by omega) sx).mono ?_
              rintro e w3 ⟨rfl, hr, hc⟩
              have HO3 := Lib.hid (HO.out.step hr hc)
              rw [HF.out.not he] at HO3
              have hop := HF.out.op
              have d3 : decide ((s' : Int) - (g : Int) < 32) = false := decide_eq_false (by omega)
              have s1 : IntKind.i64.wrap ((s' : Int) - (g : Int)) = (s' : Int) - (g : Int) := by rw [IntKind.wrap_i64]; omega
              clear hr hc
              go_wp2_with fail
              go_roundg (gk - 1)
              case measure => omega
              case rel => exact ⟨s', k + 1, _, rfl, by go_num, by omega, by omega, HF, Lib.hid (.inl hl), HO3⟩
          · have : gk = 0 := by omega
            subst this
            obtain rfl : k = 40 := by omega
            have hs : s' ≤ 3000 := by have := HO.out.rep.ok.given; have := HF.out.gv; omega
            have hw32 : E'.opn.length = 32 := by have := HK.out; have := HF.out.wn; omega
            have hcx : wr.cell? (x.add i) = some (.int .i64 z) := by
              have hlt := HC.out
              rw [← hlt]
              exact HO.out.bel.cell (by
                have : ∃ o, w.heap[(x.add i).block]? = some o := by
                  cases hh : w.heap[(x.add i).block]? with
                  | some o => exact ⟨o, rfl⟩
                  | none => simp [World.cell?, hh] at hlt
                obtain ⟨o, ho⟩ := this
                exact (Array.getElem?_eq_some_iff.1 ho).1)
            obtain ⟨t, ht, htl⟩ : ∃ t : Nat, wrap64 ((IntKind.u64.wrap z).tmod 33) = (t : Int) ∧ t ≤ 32 := by
              have hu : 0 ≤ IntKind.u64.wrap z := by simp [IntKind.wrap, IntKind.bits, IntKind.signed]; omega
              rw [Int.tmod_eq_emod_of_nonneg hu]
              refine ⟨(IntKind.u64.wrap z % 33).toNat, ?_, by omega⟩
              unfold wrap64; omega
            have hop := HF.out.op
            have hgv := HF.out.gv
            obtain ⟨m, hm, hm1, hm2⟩ : ∃ m : Nat, wrap64 ((g : Int) + (t : Int)) = (m : Int) ∧ g ≤ m ∧ m ≤ s' := ⟨g + t, by unfold wrap64; omega, by omega, by omega⟩
            obtain ⟨ht0, HF1'⟩ := HF.out.take hm1 hm2
            have HF1 := Lib.hid HF1'
            clear HF1'
            have HT := Lib.hid (take_any HO.out.rep (by omega) (fun b hb => hb.2) (gn m))
            rw [show Gr.val (gn m) = .agg #[.int .i64 0, .bool false, .int .i64 1, .int .i64 0, .int .i64 (m : Int), .string ⟨#[]⟩] from rfl] at HT
            clear hop hgv hm1 hm2 htl
            go_wp2_with fail
            refine HT.out.mono ?_
            rintro e w3 ⟨v3, rfl, hr, -, hc, -⟩
            have HO3 := Lib.hid (HO.out.same hr hc)
            clear hr hc HT HO HF HK HC hcx hw32
            generalize takeE E' (gn m) = E2 at HF1 HO3
            have hop := HF1.out.op
            have s1 : wrap64 ((s' : Int) - (m : Int)) = (E2.opn.length : Int) := by unfold wrap64; omega
            go_wp2_with fail
            refine (open_any HO3.out.rep).mono ?_
            rintro e w4 ⟨rfl, rfl⟩
            go_wp2_with fail
            refine (out_any HO3.out.rep (by omega)).mono ?_
            rintro e w4 ⟨v4, rfl, hr, hs4, hc⟩
            have HO4 := Lib.hid (HO3.out.same hr hc)
            have hlo : (outL E2).length = E2.opn.length := by rw [HF1.out.outs.1]; omega
            obtain ⟨ao4, cap4, rfl⟩ := hs4.slice
            rw [hlo]
            have HF4 := Lib.hid HF1.out.outs.2
            clear hs4 hr hc hop hlo
            go_wp2_with fail
            go_roundg (gk - 1)
            case measure => omega
            case rel => exact ⟨s', m, i + 1, outE E2, rfl, rfl, by go_num, by omega, by omega, HF4, Lib.hid ⟨HO4.out.rep.mono (fun _ _ h => h) (by omega), HO4.out.bel⟩⟩
      · have d1 : decide (i < n) = true := decide_eq_true hi
        have d2 : decide ((i : Int) < 20) = false := decide_eq_false (by omega)
        go_wp2_with fail
        go_ret
        exact ⟨rfl, HO.out.bel⟩
    · have d1 : decide (i < n) = false := decide_eq_false hi
      go_wp2_with fail
      go_ret
      exact ⟨rfl, HO.out.bel⟩

end Go.Proofs.Ytjlhipnlacfekaa.Wa
