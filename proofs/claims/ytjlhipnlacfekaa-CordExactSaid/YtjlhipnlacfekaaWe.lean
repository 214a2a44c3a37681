/-
  'Out': the datagrams to be sent now.
-/
import Derived.Test.YtjlhipnlacfekaaWd
import Derived.Deep.RegionLaw
namespace Go.Proofs.Ytjlhipnlacfekaa.Wa
open Go.RowKit Go.Maps Go.Proofs.Ytjlhipnlacfekaa.Md Go.Proofs.Ytjlhipnlacfekaa.Hp Go.Proofs.Ytjlhipnlacfekaa.Rp
set_option linter.unusedSimpArgs false
set_option linter.unusedVariables false

theorem info41 : (Try.prog.info? 41).map (fun i => (i.zero, i.size, i.bytes)) = some (some (.agg #[.int .i64 0, .bool false, .int .i64 0, .int .i64 0, .int .i64 0, .string ⟨#[]⟩]), 6, 56) := by kernel_rfl

def OutPost (w : World) (p : Nat) (E : En) (F : Nat → Prop) (N : Nat) (e : Ending) (w' : World) : Prop :=
  ∃ v, e = .returned v ∧ Rep w' p (outE E) F N ∧ Sl w' 6 v (outL E).length (gcells (outL E)) (New w w') ∧ Chg F w w'

theorem out_nil (w : World) : Calls Try.prog 15 #[.pointer none] w fun e w' => e = .returned (.slice none 0 0) ∧ w = w' := by
  have HO := Lib.hid owes_nil
  go_enter Try.func15, Try.ntmps15
  go_wp2_with fail
  refine (HO.out _).mono ?_
  rintro e w1 ⟨rfl, rfl⟩
  go_wp2_with fail
  go_ret
  exact ⟨rfl, rfl⟩

theorem out_none {w : World} {p : Nat} {E : En} {F : Nat → Prop} {N : Nat} (h : Rep w p E F N) (ho : owes E = false) : Calls Try.prog 15 #[.pointer (some ⟨p, 0, none⟩)] w (OutPost w p E F N) := by
  have HO := Lib.hid (owes_any h)
  rw [ho] at HO
  have hlt : OutPost w p E F N (.returned (.slice none 0 0)) w := by
    have he : outE E = E := by
      have : E.owed = false := by unfold owes at ho; cases hx : E.owed <;> simp [hx] at ho ⊢
      unfold outE
      rw [← this]
    have hl : outL E = [] := by unfold outL; rw [if_pos ho]
    refine ⟨_, rfl, ?_, ?_, Chg.refl _ _⟩
    · rw [he]; exact h
    · rw [hl]; exact Sl.nil _ _ _
  have HL := Lib.hid hlt
  clear h hlt
  go_enter Try.func15, Try.ntmps15
  go_wp2_with fail
  refine HO.out.mono ?_
  rintro e w1 ⟨rfl, rfl⟩
  go_wp2_with fail
  go_ret
  exact HL.out

/-- Behind the store of 'owed'. -/
theorem owed_off {w : World} {p : Nat} {E : En} {F : Nat → Prop} {N : Nat} {sv : Value} {m : Nat} (h : RepAt w p E F N sv m) (x : Bool) : RepAt (w.setCell ⟨p, 5, none⟩ (.bool x)) p { E with owed := x } F N sv m := by
  refine ⟨⟨h.ok.win, h.ok.le, h.ok.given, h.ok.got, h.ok.early, h.ok.opn⟩, h.fp, h.fm, h.ne, ?_, ?_, ?_⟩
  · rw [blk_set h.blk 5 _]
    rfl
  · exact h.sl.keep (by rw [size_set]; exact Nat.le_refl _) fun b hb hf => Below.heap_setCell _ _ _ _ hf.2.1
  · exact h.mp.keep (Below.heap_setCell _ _ _ _ h.ne.symm)

theorem rep_grow {w w1 w2 : World} {p : Nat} {E : En} {F : Nat → Prop} {N : Nat} (h : Rep w1 p E F N) (hs : w1.heap.size = w.heap.size) (hc : Chg (fun _ => False) w1 w2) : Rep w2 p E F N :=
  h.keep hc.size fun b hb _ => hc.block b hb id

theorem ack_post {w w2 : World} {p : Nat} {E : En} {F : Nat → Prop} {N : Nat} {sv : Value} {m : Nat} (ho : owes E = true) (he : E.opn = []) (hf : F p) (hr : RepAt (w.setCell ⟨p, 5, none⟩ (.bool false)) p { E with owed := false } F N sv m)
    (hb : Below (w.setCell ⟨p, 5, none⟩ (.bool false)).heap.size (w.setCell ⟨p, 5, none⟩ (.bool false)) w2) :
    OutPost w p E F N (.returned (.slice (some ⟨w2.heap.size, 0, none⟩) 1 1)) (w2.alloc (.cells #[.int .i64 0, .bool false, .int .i64 E.epoch, .int .i64 0, .int .i64 (E.got : Int), .string ⟨#[]⟩] 41)) := by
  have hsz := hb.size
  rw [size_set] at hsz
  have hc2 : Chg (fun _ => False) (w.setCell ⟨p, 5, none⟩ (.bool false)) (w2.alloc (.cells #[.int .i64 0, .bool false, .int .i64 E.epoch, .int .i64 0, .int .i64 (E.got : Int), .string ⟨#[]⟩] 41)) := (Chg.ofBelow hb).alloc _
  refine ⟨_, rfl, rep_grow (w := w) ⟨sv, m, hr⟩ (size_set _ _ _) hc2, ?_, ?_⟩
  · have hl : outL E = [gram E 0 ByteArray.empty] := by unfold outL; rw [if_neg (by rw [ho]; decide), if_pos he]
    rw [hl]
    exact Sl.lit (n := 1) rfl (by decide) ⟨hsz, by simp⟩
  · exact ((Chg.refl F w).setCell (.inl hf) _).trans2 hc2 fun _ _ x => x.elim

set_option maxHeartbeats 1000000 in
theorem out_ack {w : World} {p : Nat} {E : En} {F : Nat → Prop} {N : Nat} (h : Rep w p E F N) (ho : owes E = true) (he : E.opn = []) : Calls Try.prog 15 #[.pointer (some ⟨p, 0, none⟩)] w (OutPost w p E F N) := by
  have HO := Lib.hid (owes_any h)
  rw [ho] at HO
  obtain ⟨sv, m, hr⟩ := h
  have k1 := c1 hr
  have k5 := c5 hr
  have f5 := fz hr 5
  have hlt := hr.lt
  obtain ⟨ao, cap, rfl⟩ := hr.sl.slice
  have hn : E.opn.length = 0 := by rw [he]; rfl
  rw [hn] at k1
  have HR := Lib.hid (owed_off hr false)
  have hr1 := HR.out
  have d0 : (w.setCell ⟨p, 5, none⟩ (.bool false)).cell? ⟨p, 0, none⟩ = some (.int .i64 E.epoch) := by have x := c0 hr1; exact x
  have d3 : (w.setCell ⟨p, 5, none⟩ (.bool false)).cell? ⟨p, 3, none⟩ = some (.int .i64 (E.got : Int)) := by have x := c3 hr1; exact x
  have HG := Lib.hid (gram_cells E.epoch E.got hr1.lt d0 d3 0 ⟨#[]⟩)
  have HC := Lib.hid hr.fp
  clear hr hr1 d0 d3
  go_enter Try.func15, Try.ntmps15
  go_wp2_with fail
  refine HO.out.mono ?_
  rintro e w1 ⟨rfl, rfl⟩
  go_wp2_with fail
  refine HG.out.mono ?_
  rintro e w2 ⟨rfl, hb⟩
  go_wp2_with fail
  go_ret
  exact ack_post ho he HC.out HR.out hb

theorem sl_below {wr W w2 : World} {size n : Nat} {v : Value} {xs : List Value} {F : Nat → Prop} (h : Sl wr size v n xs F) (e : W.heap = wr.heap) (hb : Below W.heap.size W w2) : Sl w2 size v n xs F :=
  h.keep (by rw [← e]; exact hb.size) fun b hlt _ => by rw [← e]; exact hb.block b (by rw [e]; exact hlt)
theorem chg_below {F : Nat → Prop} {w1 wr W w2 : World} (h : Chg F w1 wr) (e : W.heap = wr.heap) (e2 : W.os = wr.os) (e3 : W.tape = wr.tape) (e4 : W.output = wr.output) (hb : Below W.heap.size W w2) : Chg F w1 w2 :=
  h.trans ⟨hb.os.trans e2, hb.tape.trans e3, hb.output.trans e4, by rw [← e]; exact hb.size, fun k hk _ => by rw [← e]; exact hb.block k (by rw [e]; exact hk)⟩
theorem sl_box {w : World} {size n : Nat} {v : Value} {xs : List Value} {F : Nat → Prop} (h : Sl w size v n xs F) (o : Obj) : Sl (w.alloc o) size v n xs F :=
  h.keep (by simp) fun b hlt _ => Below.heap_alloc _ _ _ hlt
theorem gram_one (E : En) (sq : Int) (body : ByteArray) : ∀ u ∈ Gr.cells (gram E sq body), u.oneCell' = true := by
  intro u hu
  simp only [Gr.cells, List.mem_cons, List.not_mem_nil, or_false] at hu
  rcases hu with rfl | rfl | rfl | rfl | rfl | rfl <;> rfl
theorem src_gram (w : World) (E : En) (sq : Int) (body : ByteArray) : Hp.Src (w.alloc (.cells #[.int .i64 0, .bool false, .int .i64 E.epoch, .int .i64 sq, .int .i64 (E.got : Int), .string body] 41)) (.slice (some ⟨w.heap.size, 0, none⟩) 1 1) 1 (Gr.cells (gram E sq body)) :=
  src_many w _ 41

theorem out_sl {w w1 wr w2 w3 : World} {E : En} {i : Nat} {body : ByteArray} {v : Value} {o : Obj} (hb : E.opn.getD i ByteArray.empty = body)
    (h3 : Sl w3 6 v (i + 1) (gcells (G E i) ++ Gr.cells (gram E ((E.given : Int) - (E.opn.length : Int) + 1 + (i : Int)) body)) (Grow (New w wr) (w2.alloc o) w3))
    (g3 : Chg (New w wr) (w2.alloc o) w3) (g2 : Chg (fun _ => False) w1 w2) (hz : w1.heap.size = w.heap.size) : Sl w3 6 v (i + 1) (gcells (G E (i + 1))) (New w w3) := by
  have e : gcells (G E i) ++ Gr.cells (gram E ((E.given : Int) - (E.opn.length : Int) + 1 + (i : Int)) body) = gcells (G E (i + 1)) := by
    rw [G_succ, gcells_append]
    subst hb
    simp [gcells, gi]
  rw [e] at h3
  refine h3.mono fun b hb hf => ⟨?_, hb⟩
  have := g2.size
  rcases hf with ⟨a, _⟩ | ⟨a, _⟩
  · exact a.1
  · rw [World.size_alloc] at a; omega
theorem out_chg {w w1 wr w2 w3 : World} {o : Obj} (g3 : Chg (New w wr) (w2.alloc o) w3) (g2 : Chg (fun _ => False) w1 w2) (hz : w1.heap.size = w.heap.size) : Chg (fun _ => False) w1 w3 :=
  (g2.alloc o).trans2 g3 fun i hi hn => by have := hn.1; omega
theorem many_post {w wr : World} {p : Nat} {E : En} {F : Nat → Prop} {N : Nat} {sv v : Value} {m : Nat} {w1 : World} (ho : owes E = true) (he : 0 < E.opn.length) (hf : F p) (hr : RepAt w1 p { E with owed := false } F N sv m) (hz : w1.heap.size = w.heap.size) (hw : Chg F w w1)
    (hs : Sl wr 6 v E.opn.length (gcells (G E E.opn.length)) (New w wr)) (hg : Chg (fun _ => False) w1 wr) : OutPost w p E F N (.returned v) wr := by
  have hl : outL E = G E E.opn.length := by
    unfold outL
    rw [if_neg (by rw [ho]; decide), if_neg (fun x => by rw [x] at he; cases he), grams_G]
  refine ⟨v, rfl, rep_grow ⟨sv, m, hr⟩ hz hg, ?_, hw.trans2 hg fun _ _ x => x.elim⟩
  rw [hl, G_length]
  exact hs

set_option maxHeartbeats 4000000 in
theorem out_many {w : World} {p : Nat} {E : En} {F : Nat → Prop} {N : Nat} (h : Rep w p E F N) (hN : N ≤ 10000) (he : 0 < E.opn.length) : Calls Try.prog 15 #[.pointer (some ⟨p, 0, none⟩)] w (OutPost w p E F N) := by
  have ho : owes E = true := by unfold owes; rw [decide_eq_true he]; simp
  have HO := Lib.hid (owes_any h)
  rw [ho] at HO
  obtain ⟨sv, m, hr⟩ := h
  have k1 := c1 hr
  have k5 := c5 hr
  have f5 := fz hr 5
  have hlt := hr.lt
  have hwin := hr.ok.win
  have hle := hr.ok.le
  have hgv := hr.ok.given
  obtain ⟨b, off, cap, rfl, _, hblt, hcap, _⟩ := hr.sl.form he
  have HR := Lib.hid (owed_off hr false)
  have HC := Lib.hid hr.fp
  have e1 : (w.setCell ⟨p, 5, none⟩ (.bool false)).cell? ⟨p, 1, none⟩ = some (.slice (some ⟨b, off, none⟩) E.opn.length cap) := by have x := c1 HR.out; exact x
  have HZ := Lib.hid (size_set w ⟨p, 5, none⟩ (.bool false))
  have HW := Lib.hid ((Chg.refl F w).setCell (p := ⟨p, 5, none⟩) (.inl hr.fp) (.bool false))
  have hne0 : ((E.opn.length : Int) == 0) = false := beq_eq_false_iff_ne.2 (by omega)
  clear hr
  go_enter Try.func15, Try.ntmps15
  go_wp2_with fail
  refine HO.out.mono ?_
  rintro e w1 ⟨rfl, rfl⟩
  go_wp2_with fail
  generalize w.setCell ⟨p, 5, none⟩ (.bool false) = w1 at HR HZ HW e1 ⊢
  go_wp2_with fail
  go_loopg [3, 26] E.opn.length (fun kq v3 v26 wr => ∃ i : Nat, v26 = .int .i64 (i : Int) ∧ kq + i ≤ E.opn.length ∧ E.opn.length ≤ kq + i ∧ Hid (Sl wr 6 v3 i (gcells (G E i)) (New w wr)) ∧ Hid (Chg (fun _ => False) w1 wr))
  case atStart => exact ⟨0, rfl, by omega, by omega, Lib.hid (Sl.nil _ _ _), Lib.hid (Chg.refl _ _)⟩
  case round =>
    obtain ⟨i, rfl, h1, h2, HS, HG⟩ := hrel
    by_cases hi : i < E.opn.length
    · have hr2 := HR.out.keep HG.out.size fun b hb _ => HG.out.block b hb id
      have d0 : wr.cell? ⟨p, 0, none⟩ = some (.int .i64 E.epoch) := by have x := c0 hr2; exact x
      have d1 : wr.cell? ⟨p, 1, none⟩ = some (.slice (some ⟨b, off, none⟩) E.opn.length cap) := by have x := c1 hr2; exact x
      have d2 : wr.cell? ⟨p, 2, none⟩ = some (.int .i64 (E.given : Int)) := by have x := c2 hr2; exact x
      have d3 : wr.cell? ⟨p, 3, none⟩ = some (.int .i64 (E.got : Int)) := by have x := c3 hr2; exact x
      have dx : wr.cell? ⟨b, off + i, none⟩ = some (.string (E.opn.getD i ByteArray.empty)) := by
        obtain ⟨b', off', cap', e', _, _, _, hx⟩ := hr2.sl.form he
        injection e' with e'
        injection e' with e'
        injection e' with e2 e3
        subst e2 e3
        apply hx
        rw [List.getElem?_map, List.getElem?_eq_getElem hi, List.getD_eq_getElem?_getD, List.getElem?_eq_getElem hi]
        rfl
      have hgc := fun (w' : World) (hb : Below wr.heap.size wr w') => gram_cells (w := w') (p := p) E.epoch E.got (Nat.lt_of_lt_of_le hr2.lt hb.size) ((hb.cell (p := ⟨p, 0, none⟩) hr2.lt).trans d0) ((hb.cell (p := ⟨p, 3, none⟩) hr2.lt).trans d3)
      have HGC := Lib.hid (hgc wr.drew (Below.refl _ _).drew)
      have hplt := hr2.lt
      clear hgc hr2
      generalize hbody : E.opn.getD i ByteArray.empty = body at dx
      have HB := Lib.hid hbody
      clear hbody
      obtain ⟨ao3, cap3, rfl⟩ := HS.out.slice
      go_wp2_with fail
      have q1 : i + 1 ≤ maxLen := by unfold maxLen; omega
      have q2 : (i + 1) * 56 ≤ 140737488355328 := by omega
      have s1 : IntKind.i64.wrap ((E.given : Int) - (E.opn.length : Int)) = (E.given : Int) - (E.opn.length : Int) := by rw [IntKind.wrap_i64]; omega
      have s2 : IntKind.i64.wrap ((E.given : Int) - (E.opn.length : Int) + 1) = (E.given : Int) - (E.opn.length : Int) + 1 := by rw [IntKind.wrap_i64]; omega
      have s3 : IntKind.i64.wrap ((E.given : Int) - (E.opn.length : Int) + 1 + (i : Int)) = (E.given : Int) - (E.opn.length : Int) + 1 + (i : Int) := by rw [IntKind.wrap_i64]; omega
      go_region_law (first
        | (refine step_append_sl rfl _ _ 45 rfl 41 _ 6 56 Try.underlying45 info41 rfl (by decide) rfl rfl (sl_box HS2.out _) (src_gram _ E _ body) rfl (gram_one _ _ _) q1 q2 ?_; intro v' w3 hsl hch; have HS3 := Lib.hid hsl; have HG3 := Lib.hid hch; clear hsl hch)
        | (go_simp; go_at_call 28; refine (HGC.out _ _).mono ?_; rintro e w2 ⟨rfl, hb2⟩; have HS2 := Lib.hid (sl_below (W := wr.drew) HS.out rfl hb2); have HG2 := Lib.hid (chg_below (W := wr.drew) HG.out rfl rfl rfl rfl hb2); clear hb2))
      all_goals
        clear s1 s2 s3
        go_wp2_with fail
        go_roundg (gk - 1)
        case measure => omega
        case rel => exact ⟨i + 1, by go_num, by omega, by omega, Lib.hid (out_sl HB.out HS3.out HG3.out HG2.out HZ.out), Lib.hid (out_chg HG3.out HG2.out HZ.out)⟩
    · have : gk = 0 := by omega
      subst this
      go_wp2_with fail
      go_ret
      obtain rfl : i = E.opn.length := by omega
      exact many_post ho he HC.out HR.out HZ.out HW.out HS.out HG.out

theorem out_any {w : World} {p : Nat} {E : En} {F : Nat → Prop} {N : Nat} (h : Rep w p E F N) (hN : N ≤ 10000) : Calls Try.prog 15 #[.pointer (some ⟨p, 0, none⟩)] w (OutPost w p E F N) := by
  by_cases ho : owes E = false
  · exact out_none h ho
  · by_cases he : 0 < E.opn.length
    · exact out_many h hN he
    · exact out_ack h (by simpa using ho) (List.eq_nil_of_length_eq_zero (by omega))

end Go.Proofs.Ytjlhipnlacfekaa.Wa
