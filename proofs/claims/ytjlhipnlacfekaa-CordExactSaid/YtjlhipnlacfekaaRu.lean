/-
  The reference's 'Out'.
-/
import Derived.Test.YtjlhipnlacfekaaRs
import Derived.Deep.RegionHeld3
namespace Go.Proofs.Ytjlhipnlacfekaa.Rf
open Go.RowKit Go.Maps Go.Proofs.Ytjlhipnlacfekaa.Md Go.Proofs.Ytjlhipnlacfekaa.Hp Go.Proofs.Ytjlhipnlacfekaa.Rp Go.Proofs.Ytjlhipnlacfekaa.Lbl Go.Proofs.Ytjlhipnlacfekaa.Wa Go.Proofs.Ytjlhipnlacfekaa.Tm
set_option linter.unusedSimpArgs false
set_option linter.unusedVariables false

def rgram (R : Re) (x : Tx) : Gr := ⟨0, false, R.epoch, x.1, (R.got : Int), x.2⟩
def rgs (R : Re) (i : Nat) : List Gr := (R.l.take i).map (rgram R)
def routL (R : Re) : List Gr := if R.l.length = 0 then (if R.owed = true then [rgram R (0, ⟨#[]⟩)] else []) else R.l.map (rgram R)
def routE (R : Re) : Re := { R with owed := false }

/-- A row that lies in what is new, one element more. -/
theorem new_grown {w wr w6 : World} {o : Obj} {size n : Nat} {v : Value} {xs : List Value} (hz : w.heap.size ≤ wr.heap.size) (h : Sl w6 size v n xs (Grow (New w wr) (wr.alloc o) w6)) : Sl w6 size v n xs (New w w6) := by
  refine h.mono fun b hb hf => ⟨?_, hb⟩
  rcases hf with ⟨a, _⟩ | ⟨a, _⟩
  · exact a.1
  · rw [World.size_alloc] at a; omega
theorem rgs_snoc {R : Re} {i : Nat} {x : Tx} (h : R.l[i]? = some x) : gcells (rgs R (i + 1)) = gcells (rgs R i) ++ Gr.cells (rgram R x) ∧ (rgs R (i + 1)).length = (rgs R i).length + 1 := by
  unfold rgs
  rw [List.take_add_one, h, List.map_append, gcells_append]
  constructor
  · simp [gcells]
  · simp
theorem one_gr (c : Int) (u : Bool) (ep sq ak : Int) (b : ByteArray) : ∀ x ∈ (#[.int .i64 c, .bool u, .int .i64 ep, .int .i64 sq, .int .i64 ak, .string b] : Array Value).toList, x.oneCell' = true := by
  intro x hx
  simp only [List.mem_cons, List.not_mem_nil, or_false] at hx
  rcases hx with rfl | rfl | rfl | rfl | rfl | rfl <;> rfl

/-- The cells that a round of 'Out' reads. -/
theorem out_reads {w0 : World} {L : Nat → Nat} {w w' : World} {p : Nat} {R : Re} {v4 : Value} {b o n cap i : Nat} {k : Int} {s : ByteArray} (h : RepR w0 L w p R (.slice (some ⟨b, o, none⟩) n cap) v4) (hx : R.l[i]? = some (k, s)) (hn : R.l.length = n) (hb : Below w.heap.size w w') :
    w'.cell? ⟨p, 0, none⟩ = some (.int .i64 R.epoch) ∧ w'.cell? ⟨p, 1, none⟩ = some (.slice (some ⟨b, o, none⟩) n cap) ∧ w'.cell? ⟨p, 3, none⟩ = some (.int .i64 (R.got : Int)) ∧ w'.cell? ⟨b, o + i * 2, none⟩ = some (.int .i64 k) ∧ w'.cell? ⟨b, o + i * 2 + 1, none⟩ = some (.string s) := by
  have H := h.stay hb 9
  subst hn
  obtain ⟨b', o', e, x0, x1⟩ := tx_cells H.s1 hx rfl
  injection e with e
  injection e with e1 e2
  subst e1 e2
  exact ⟨H.c0, H.c1, H.c3, x0, x1⟩
theorem rout_post {w0 : World} {L : Nat → Nat} {w wr : World} {p : Nat} {R : Re} {v1 v4 v : Value} {ls : List Gr} (h : RepR w0 L w p R v1 v4) (hb : Below w.heap.size w wr) (hs : Sl wr 6 v ls.length (gcells ls) (New w wr)) :
    ∃ L', RR w0 L' (wr.setCell ⟨p, 5, none⟩ (.bool false)) p (routE R) ∧ Sl (wr.setCell ⟨p, 5, none⟩ (.bool false)) 6 v ls.length (gcells ls) (Lb L' (wr.setCell ⟨p, 5, none⟩ (.bool false)) 9) ∧ KeptR L w L' (wr.setCell ⟨p, 5, none⟩ (.bool false)) := by
  have H := h.stay hb 9
  exact ⟨_, ⟨v1, v4, H.toCore.set5 false, sl_set12 H.s1 (by decide) H.lp, sl_set12 H.s4 (by decide) H.lp⟩, sl_set12 (sl_new hs) (by decide) H.lp, (KeptR.stay hb 9).trans (KeptR.set H.lp _)⟩

theorem rout_none {R : Re} {w wr : World} {v : Value} (h0 : R.l.length = 0) (ho : R.owed = false) (h : Sl wr 6 v R.l.length (gcells (rgs R R.l.length)) (New w wr)) : Sl wr 6 v (routL R).length (gcells (routL R)) (New w wr) := by
  have e : routL R = [] := by unfold routL; rw [if_pos h0, if_neg (by rw [ho]; decide)]
  have e2 : rgs R R.l.length = [] := by unfold rgs; rw [h0]; rfl
  rw [e2, h0] at h
  rw [e]
  exact h
theorem rout_one {R : Re} {w wr : World} {v : Value} (h0 : R.l.length = 0) (ho : R.owed = true) (h : Sl wr 6 v (R.l.length + 1) (gcells (rgs R R.l.length) ++ (#[.int .i64 0, .bool false, .int .i64 R.epoch, .int .i64 0, .int .i64 (R.got : Int), .string ⟨#[]⟩] : Array Value).toList) (New w wr)) : Sl wr 6 v (routL R).length (gcells (routL R)) (New w wr) := by
  have e : routL R = [rgram R (0, ⟨#[]⟩)] := by unfold routL; rw [if_pos h0, if_pos ho]
  have e2 : rgs R R.l.length = [] := by unfold rgs; rw [h0]; rfl
  rw [e2, h0] at h
  rw [e]
  exact h
theorem rout_many {R : Re} {w wr : World} {v : Value} (h0 : ¬ R.l.length = 0) (h : Sl wr 6 v R.l.length (gcells (rgs R R.l.length)) (New w wr)) : Sl wr 6 v (routL R).length (gcells (routL R)) (New w wr) := by
  have e : routL R = rgs R R.l.length := by unfold routL rgs; rw [if_neg h0, List.take_length]
  have e2 : (rgs R R.l.length).length = R.l.length := by unfold rgs; simp
  rw [e, e2]
  exact h

set_option maxHeartbeats 2000000 in
theorem rout_any {w0 : World} {L : Nat → Nat} {w : World} {p : Nat} {R : Re} (h : RR w0 L w p R) (hl : R.l.length ≤ 100000) :
    Calls Try.prog 21 #[.pointer (some ⟨p, 0, none⟩)] w fun e w' => ∃ v L', e = .returned v ∧ RR w0 L' w' p (routE R) ∧ Sl w' 6 v (routL R).length (gcells (routL R)) (Lb L' w' 9) ∧ KeptR L w L' w' := by
  obtain ⟨v1, v4, hr⟩ := h
  obtain ⟨a1, c1, rfl⟩ := hr.s1.slice
  have HR := Lib.hid hr
  clear hr
  go_enter Try.func21, Try.ntmps21
  go_wp2_with fail
  have HX0 : Hid (Sl (w.alloc (.cells #[] 41)) 6 (.slice (some ⟨w.heap.size, 0, none⟩) 0 0) 0 (gcells (rgs R 0)) (New w (w.alloc (.cells #[] 41)))) := Lib.hid ⟨by simp [rgs, gcells], _, _, rfl, .inl ⟨rfl, rfl⟩⟩
  have HB0 := Lib.hid ((Below.refl w.heap.size w).alloc (Nat.le_refl _) (.cells #[] 41))
  generalize w.alloc (.cells #[] 41) = w1 at HX0 HB0 ⊢
  obtain ⟨bz, hbz⟩ : ∃ bz, bz = w.heap.size := ⟨_, rfl⟩
  rw [← hbz] at HX0 ⊢
  have HBZ := Lib.hid hbz
  clear hbz
  go_loopg [3, 4] R.l.length (fun kq v3 v4 wr => ∃ i : Nat, v4 = .int .i64 (i : Int) ∧ kq + i ≤ R.l.length ∧ R.l.length ≤ kq + i ∧ Hid (Sl wr 6 v3 i (gcells (rgs R i)) (New w wr)) ∧ Hid (Below w.heap.size w wr))
  case atStart => exact ⟨0, rfl, by omega, by omega, HX0, HB0⟩
  case round =>
    clear HX0 HB0
    obtain ⟨i, rfl, hk1, hk2, HX, HB⟩ := hrel
    obtain ⟨a5, c5, rfl⟩ := HX.out.slice
    by_cases hi : i < R.l.length
    · obtain ⟨x, hx⟩ : ∃ x, R.l[i]? = some x := ⟨_, List.getElem?_eq_getElem hi⟩
      obtain ⟨b, o, rfl, -, -⟩ := tx_cells HR.out.s1 hx rfl
      have HSN := Lib.hid (rgs_snoc hx)
      obtain ⟨k, s⟩ := x
      have HS := Lib.hid (fun (w' : World) (hb : Below w.heap.size w w') => out_reads HR.out hx rfl hb)
      have HRR := HS.out wr HB.out
      have HRD := Lib.hid (HS.out wr.drew HB.out.drew)
      have HBA := Lib.hid (HB.out.drew.alloc HB.out.size (.cells #[.int .i64 0, .bool false, .int .i64 R.epoch, .int .i64 k, .int .i64 (R.got : Int), .string s] 41))
      have HRA := Lib.hid (HS.out _ HBA.out)
      have HX2 := Lib.hid (sl_box HX.out (.cells #[.int .i64 0, .bool false, .int .i64 R.epoch, .int .i64 k, .int .i64 (R.got : Int), .string s] 41))
      have q1 : i + 1 ≤ maxLen := by unfold maxLen; omega
      have q2 : (i + 1) * 56 ≤ 140737488355328 := by omega
      have i1 : (0 : Int) ≤ (i : Int) := by omega
      have i2 : (i : Int) < (R.l.length : Int) := by omega
      clear hx
      obtain ⟨z0, z1, z3, x0, x1⟩ := HRR
      go_wp2_with fail
      clear z0 z1 z3 x0 x1
      go_region_held3 (fun W => W.cell? ⟨p, 0, none⟩ = some (.int .i64 R.epoch) ∧ W.cell? ⟨p, 1, none⟩ = some (.slice (some ⟨b, o, none⟩) R.l.length c1) ∧ W.cell? ⟨p, 3, none⟩ = some (.int .i64 (R.got : Int)) ∧ W.cell? ⟨b, o + i * 2, none⟩ = some (.int .i64 k) ∧ W.cell? ⟨b, o + i * 2 + 1, none⟩ = some (.string s)) (first | exact HRD.out | exact HRA.out | exact HR6.out) (first | (refine step_append_sl rfl _ _ 45 rfl 41 _ 6 56 Try.underlying45 info41 rfl (by decide) rfl rfl HX2.out (src_many wr.drew #[.int .i64 0, .bool false, .int .i64 R.epoch, .int .i64 k, .int .i64 (R.got : Int), .string s] 41) rfl (one_gr 0 false R.epoch k (R.got : Int) s) q1 q2 ?_; intro v6 w6 hsl hch; have HX3 := Lib.hid hsl; have HC3 := Lib.hid hch; have HR6 := Lib.hid (HS.out w6 (abv_below HB.out.drew hch)); clear hsl hch q1 q2) | fail)
      go_wp2_with fail
      go_roundg (gk - 1)
      case measure => omega
      case rel => exact ⟨i + 1, by go_num, by omega, by omega, Lib.hid (by rw [HSN.out.1]; exact new_grown (wr := wr.drew) HB.out.size HX3.out), Lib.hid (abv_below HB.out.drew HC3.out)⟩
    · have : gk = 0 := by omega
      subst this
      obtain rfl : i = R.l.length := by omega
      have H2 := Lib.hid (HR.out.stay HB.out 9)
      have z1 := H2.out.c1
      have z5 := H2.out.c5
      have f5 := H2.out.fz 5
      by_cases h0 : R.l.length = 0
      · have hc : ((R.l.length : Int) == 0) = true := beq_iff_eq.2 (by omega)
        cases ho : R.owed with
        | false =>
          rw [ho] at z5
          have HS := Lib.hid (rout_none h0 ho HX.out)
          go_wp2_with fail
          go_ret
          obtain ⟨L', p1, p2, p3⟩ := rout_post HR.out HB.out HS.out
          exact ⟨_, L', rfl, p1, p2, p3⟩
        | true =>
          rw [ho] at z5
          have HO := Lib.hid ho
          have H0 := Lib.hid h0
          clear ho h0
          have z0 := H2.out.c0
          have z3 := H2.out.c3
          go_wp2_with fail
          have HSS := Lib.hid (fun (w' : World) (hb : Below w.heap.size w w') => (show w'.cell? ⟨p, 0, none⟩ = some (.int .i64 R.epoch) ∧ w'.cell? ⟨p, 3, none⟩ = some (.int .i64 (R.got : Int)) from ⟨(HR.out.stay hb 9).c0, (HR.out.stay hb 9).c3⟩))
          have HRD := Lib.hid (HSS.out wr.drew HB.out.drew)
          have HBA := Lib.hid (HB.out.drew.alloc HB.out.size (.cells #[.int .i64 0, .bool false, .int .i64 R.epoch, .int .i64 0, .int .i64 (R.got : Int), .string ⟨#[]⟩] 41))
          have HRA := Lib.hid (HSS.out _ HBA.out)
          have HX2 := Lib.hid (sl_box HX.out (.cells #[.int .i64 0, .bool false, .int .i64 R.epoch, .int .i64 0, .int .i64 (R.got : Int), .string ⟨#[]⟩] 41))
          have q1 : R.l.length + 1 ≤ maxLen := by unfold maxLen; omega
          have q2 : (R.l.length + 1) * 56 ≤ 140737488355328 := by omega
          clear z0 z3 z5 f5
          go_region_held3 (fun W => W.cell? ⟨p, 0, none⟩ = some (.int .i64 R.epoch) ∧ W.cell? ⟨p, 3, none⟩ = some (.int .i64 (R.got : Int))) (first | exact HRD.out | exact HRA.out | exact HR6.out) (first | (refine step_append_sl rfl _ _ 45 rfl 41 _ 6 56 Try.underlying45 info41 rfl (by decide) rfl rfl HX2.out (src_many wr.drew #[.int .i64 0, .bool false, .int .i64 R.epoch, .int .i64 0, .int .i64 (R.got : Int), .string ⟨#[]⟩] 41) rfl (one_gr 0 false R.epoch 0 (R.got : Int) ⟨#[]⟩) q1 q2 ?_; intro v6 w6 hsl hch; have HX3 := Lib.hid hsl; have HC3 := Lib.hid hch; have HR6 := Lib.hid (HSS.out w6 (abv_below HB.out.drew hch)); clear hsl hch q1 q2) | fail)
          have HB6 := Lib.hid (abv_below HB.out.drew HC3.out)
          have HS := Lib.hid (rout_one H0.out HO.out (new_grown (wr := wr.drew) HB.out.size HX3.out))
          have H3 := Lib.hid (HR.out.stay HB6.out 9)
          have z5 := H3.out.c5
          have f5 := H3.out.fz 5
          go_wp2_with fail
          go_ret
          obtain ⟨L', p1, p2, p3⟩ := rout_post HR.out HB6.out HS.out
          exact ⟨_, rfl, L', p1, p2, p3⟩
      · have hc : ((R.l.length : Int) == 0) = false := beq_eq_false_iff_ne.2 (by omega)
        have HS := Lib.hid (rout_many h0 HX.out)
        go_wp2_with fail
        go_ret
        obtain ⟨L', p1, p2, p3⟩ := rout_post HR.out HB.out HS.out
        exact ⟨_, L', rfl, p1, p2, p3⟩

end Go.Proofs.Ytjlhipnlacfekaa.Rf
