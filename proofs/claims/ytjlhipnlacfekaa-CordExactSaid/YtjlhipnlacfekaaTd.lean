/-
  'sends': an end sends; all is in the pool.
-/
import Derived.Test.YtjlhipnlacfekaaTc
import Derived.Deep.LoopGhost
namespace Go.Proofs.Ytjlhipnlacfekaa.Tm
open Go.RowKit Go.Maps Go.Proofs.Ytjlhipnlacfekaa.Md Go.Proofs.Ytjlhipnlacfekaa.Hp Go.Proofs.Ytjlhipnlacfekaa.Rp Go.Proofs.Ytjlhipnlacfekaa.Lbl Go.Proofs.Ytjlhipnlacfekaa.Wa
set_option linter.unusedSimpArgs false
set_option linter.unusedVariables false

section
variable {P : Program}
/-- append(v, x...), x empty. -/
theorem run_append_zero (w : World) (t ty e : TypeId) (size bytes : Nat) (z : Option Value) (ht : P.underlying t = some (.slice e)) (hinfo : (P.info? e).map (fun i => (i.zero, i.size, i.bytes)) = some (z, size, bytes))
    {v : Value} {ax : Option Addr} {cx n : Nat} {xs : List Value} {F : Nat → Prop} (h : Sl w size v n xs F) : (Builtin.append_ #[t, t] ty #[v, .slice ax 0 cx]).run P w = .ok v w := by
  obtain ⟨i, hi, hzz⟩ := Option.map_eq_some_iff.1 hinfo
  obtain ⟨hlen, ao, cap, rfl, hcase⟩ := h
  have hnc : n ≤ cap := by rcases hcase with ⟨a, b⟩ | ⟨b, off, _, _, _, h, _⟩ <;> omega
  rcases ao with _ | a
  · rcases hcase with ⟨a, b⟩ | ⟨b, off, e', _⟩
    · subst a b
      rcases ax with _ | ax <;> simp [Builtin.append_, run_underlying ht, sizeOf, typeInfo, hi, Builtin.lenOf, Builtin.firstCells, storeCells, loadCells, loadCellsFrom]
    · cases e'
  · rcases ax with _ | ax <;> simp [Builtin.append_, run_underlying ht, sizeOf, typeInfo, hi, Builtin.lenOf, Builtin.firstCells, hnc, storeCells, loadCells, loadCellsFrom]
theorem wpList_append_zero (w : World) {ops : Array Oper} {rest : List Oper} {o : Oper} {a : Act} {Q : Exit → Act → World → Prop} (hgd : o.guard = none) (s y : Operand) (t : TypeId)
    (ho : o.op = Op.call { callee := Callee.builtin Builtin.append, args := #[s, y], argTypes := #[t, t] })
    (e : TypeId) (size bytes : Nat) (z : Option Value) (ht : P.underlying t = some (.slice e)) (hinfo : (P.info? e).map (fun i => (i.zero, i.size, i.bytes)) = some (z, size, bytes))
    {v : Value} {ax : Option Addr} {cx n : Nat} {xs : List Value} {F : Nat → Prop} (hs : a.eval s = v) (hy : a.eval y = .slice ax 0 cx) (h : Sl w size v n xs F)
    (hK : wpList P ops Q rest (a.put o.dst v) w) : wpList P ops Q (o :: rest) a w := by
  refine wpList_plain hgd fun K hK' => ?_
  have hrun := run_append_zero (P := P) w t o.type e size bytes z ht hinfo h (ax := ax) (cx := cx)
  unfold Oper.wp
  simp [execOp, ho, resolve, invoke, builtin, hs, hy, hrun, Result.andThen]
  exact hK' _ _ hK
end

theorem gcells_at : ∀ (l : List Gr) (i f : Nat) (s : Gr), l[i]? = some s → f < 6 → (gcells l)[i * 6 + f]? = (Gr.cells s)[f]?
  | [], i, f, s, h, _ => by simp at h
  | x :: l, 0, f, s, h, hf => by
    simp at h
    subst h
    show (Gr.cells x ++ gcells l)[0 * 6 + f]? = _
    rw [List.getElem?_append_left (by show 0 * 6 + f < 6; omega), Nat.zero_mul, Nat.zero_add]
  | x :: l, i + 1, f, s, h, hf => by
    show (Gr.cells x ++ gcells l)[(i + 1) * 6 + f]? = _
    rw [List.getElem?_append_right (by show 6 ≤ (i + 1) * 6 + f; omega)]
    rw [show (i + 1) * 6 + f - (Gr.cells x).length = i * 6 + f by show (i + 1) * 6 + f - 6 = _; omega]
    exact gcells_at l i f s (by simpa using h) hf
theorem info43 : (Try.prog.info? 43).map (fun i => (i.zero, i.size, i.bytes)) = some (some (.agg #[.int .i64 0, .bool false, .int .i64 0, .int .i64 0, .int .i64 0, .string ⟨#[]⟩, .bool false]), 7, 64) := by kernel_rfl

theorem one_s (c : Int) (u : Bool) (ep sq ak : Int) (b : ByteArray) (f : Bool) : ∀ x ∈ (#[.int .i64 c, .bool u, .int .i64 ep, .int .i64 sq, .int .i64 ak, .string b, .bool f] : Array Value).toList, x.oneCell' = true := by
  intro x hx
  simp only [List.mem_cons, List.not_mem_nil, or_false] at hx
  rcases hx with rfl | rfl | rfl | rfl | rfl | rfl | rfl <;> rfl
theorem one_p (l : List (Gr × Bool)) : ∀ x ∈ pcells l, x.oneCell' = true := by
  intro x hx
  obtain ⟨s, _, hs⟩ := List.mem_flatMap.1 hx
  exact one_s _ _ _ _ _ _ _ x hs
/-- Label i, and new behind B. -/
def Own (B : Nat) (L : Nat → Nat) (w : World) (i : Nat) : Nat → Prop := fun b => Lb L w i b ∧ B ≤ b
theorem kept_own {B : Nat} {L L1 : Nat → Nat} {w w1 w2 : World} (hB : w.heap.size ≤ B) {i r : Nat} (h : Kept L w L1 w1) (hc : Chg (Own B L1 w1 i) w1 w2) : Kept L w (rel L1 w1 r) w2 := by
  have := h.size
  refine ⟨Nat.le_trans h.size hc.size, fun b hb => ?_, fun b hb hl => ?_⟩
  · unfold Lbl.rel
    rw [if_pos (by omega)]
    exact h.lab b hb
  · rw [hc.block b (by omega) fun x => by have := x.2; omega]
    exact h.block b hb hl
theorem own_chg {B : Nat} {L : Nat → Nat} {w w' : World} {i : Nat} (hc : Chg (Own B L w i) w w') : Chg (Lb L w i) w w' := hc.mono fun _ _ x => x.1
theorem sl_own_stay {B : Nat} {L : Nat → Nat} {w w' : World} {i r size n : Nat} {v : Value} {xs : List Value} (h : Sl w size v n xs (Own B L w i)) (hb : Below w.heap.size w w') : Sl w' size v n xs (Own B (rel L w r) w' i) :=
  (h.keep hb.size fun b hlt _ => hb.block b hlt).mono fun b hlt hf => ⟨lb_old hb.size b hf.1, hf.2⟩
theorem sl_own_grown {B : Nat} {L : Nat → Nat} {w w' : World} {i size n : Nat} {v : Value} {xs : List Value} (hB : B ≤ w.heap.size) (h : Sl w' size v n xs (Grow (Own B L w i) w w')) (hs : w.heap.size ≤ w'.heap.size) : Sl w' size v n xs (Own B (rel L w i) w' i) :=
  h.mono fun b _ hf => by
    rcases hf with ⟨a, c⟩ | a
    · exact ⟨lb_old hs b a.1, a.2⟩
    · exact ⟨lb_new b a, by have := a.1; omega⟩
theorem next_s {w : World} {l : List Gr} {i : Nat} {c : Int} {u : Bool} {ep sq ak : Int} {b : ByteArray} {f : Bool} {v : Value} {F : Nat → Prop} (hg : l[i]? = some ⟨c, u, ep, sq, ak, b⟩)
    (h : Sl w 7 v (i + 1) (pcells ((l.take i).map (·, f)) ++ (#[.int .i64 c, .bool u, .int .i64 ep, .int .i64 sq, .int .i64 ak, .string b, .bool f] : Array Value).toList) F) : Sl w 7 v (i + 1) (pcells ((l.take (i + 1)).map (·, f))) F := by
  have e : pcells ((l.take (i + 1)).map (·, f)) = pcells ((l.take i).map (·, f)) ++ (#[.int .i64 c, .bool u, .int .i64 ep, .int .i64 sq, .int .i64 ak, .string b, .bool f] : Array Value).toList := by
    rw [List.take_add_one, hg, List.map_append, pcells_append]
    rfl
  rw [e]
  exact h

theorem own_sl2 {B : Nat} {L : Nat → Nat} {w : World} {i size n : Nat} {v : Value} {xs : List Value} (h : Sl w size v n xs (Own B L w i)) : Sl w size v n xs (Lb L w i) := h.mono fun _ _ x => x.1
theorem rel_old {L : Nat → Nat} {w : World} {r t : Nat} (ht : t < w.heap.size) (hl : L t = 1) : rel L w r t = 1 := by unfold Lbl.rel; rw [if_pos ht]; exact hl
theorem sl_set {L : Nat → Nat} {w : World} {i size n t f : Nat} {v : Value} {xs : List Value} (h : Sl w size v n xs (Lb L w i)) (hi : i ≠ 1) (ht : L t = 1) (u : Value) : Sl (w.setCell ⟨t, f, none⟩ u) size v n xs (Lb L (w.setCell ⟨t, f, none⟩ u) i) :=
  (h.keep (by rw [size_set]; exact Nat.le_refl _) fun b _ hf => Below.heap_setCell _ _ _ _ fun x => by subst x; have := hf.1; omega).mono fun b _ x => ⟨x.1, by rw [size_set]; exact x.2⟩
/-- What stood in the cell is laid into it. -/
theorem set_same {w0 : World} {L : Nat → Nat} {w : World} {t : Nat} {T : Tk} {N : Nat} {pa pb : Nat} {vs : Nat → Value} (h : RepT w0 L w t T N pa pb vs) {u : Value} {f : Bool} (hu : vs 6 = u) : RepT w0 L (w.setCell ⟨t, 6, none⟩ u) t { T with pool := T.pool ++ ([] : List Gr).map (·, f) } N pa pb vs := by
  have hsz : (w.setCell ⟨t, 6, none⟩ u).heap.size = w.heap.size := size_set _ _ _
  have hk : ∀ b : Nat, (w.setCell ⟨t, 6, none⟩ u).heap[b]? = w.heap[b]? := by
    intro b
    by_cases hb : b = t
    · subst hb
      rw [blk_set h.blk 6 u, h.blk, ← hu]
      rfl
    · exact Below.heap_setCell _ _ _ _ hb
  have hs : w.heap.size ≤ (w.setCell ⟨t, 6, none⟩ u).heap.size := by rw [hsz]; exact Nat.le_refl _
  have hl : ∀ i b, Lb L w i b → Lb L (w.setCell ⟨t, 6, none⟩ u) i b := fun i b x => ⟨x.1, by rw [hsz]; exact x.2⟩
  have e : { T with pool := T.pool ++ ([] : List Gr).map (·, f) } = T := by simp
  rw [e]
  exact ⟨⟨h.lab.bel.trans ⟨rfl, rfl, rfl, hs, fun k _ => hk k⟩, h.lab.zero⟩, h.lt, by rw [hk]; exact h.blk, (h.ra.keep hs fun b _ _ => hk b).mono (fun b _ => hl 2 b) (Nat.le_refl _),
    (h.rb.keep hs fun b _ _ => hk b).mono (fun b _ => hl 3 b) (Nat.le_refl _), fun i h1 h2 => ((h.sl i h1 h2).keep hs fun b _ _ => hk b).mono fun b _ => hl (i + 2) b⟩

set_option maxHeartbeats 1000000 in
theorem sends_a {w0 : World} {L : Nat → Nat} {w : World} {t : Nat} {T : Tk} {N : Nat} {pa pb : Nat} {vs : Nat → Value} (h : RepT w0 L w t T N pa pb vs) (hN : N ≤ 10000) (hB : T.pool.length ≤ 1000000) :
    Calls Try.prog 24 #[.pointer (some ⟨t, 0, none⟩), .bool true] w fun e w' => ∃ v L', e = .returned v ∧ RT w0 L' w' t (outT T true) N ∧ Sl w' 7 v (outL T.a).length (pcells ((outL T.a).map (·, true))) (Lb L' w' 10) ∧ Kept L w L' w' := by
  obtain ⟨B, hBB⟩ : ∃ B, B = w.heap.size := ⟨_, rfl⟩
  have HBB := Lib.hid hBB
  have HBW := Lib.hid (Nat.le_of_eq hBB.symm)
  clear hBB
  have HBE := Lib.hid (show B = w.heap.size from HBB.out)
  have H1 := Lib.hid (h.alloc (.cells #[] 41) 9)
  have HK := Lib.hid (Kept.stay (L := L) (((Below.refl w.heap.size w).alloc (Nat.le_refl _) (.cells #[] 41))) 9)
  have y0 := H1.out.c0
  generalize rel L w 9 = L1 at H1 HK
  have hok := h.ra.ok
  have hlen := outL_len hok
  have HO := Lib.hid (out_any H1.out.ra hN)
  unfold OutPost at HO
  unfold outT
  rw [if_pos rfl]
  generalize outL T.a = l at HO hlen ⊢
  generalize outE T.a = e1 at HO ⊢
  clear h hok
  go_enter Try.func24, Try.ntmps24
  go_wp2_with fail
  refine HO.out.mono ?_
  rintro e w2 ⟨vl, rfl, hr, hs, hc⟩
  have H2 := Lib.hid (H1.out.turnA (Nat.le_refl N) hc (rep_same (r := 9) hr hc.size))
  have HK2 := Lib.hid (HK.out.trans (Kept.rel (by decide) hc 9))
  have HS2 := Lib.hid (sl_new (L := L1) (r := 9) hs)
  generalize rel L1 (w.alloc (.cells #[] 41)) 9 = L2 at H2 HK2 HS2
  clear HO H1 HK y0 hr hs hc
  obtain ⟨al, cl, rfl⟩ := HS2.out.slice
  go_wp2_with fail
  have H3 := Lib.hid (H2.out.alloc (.cells #[] 43) 9)
  have HK3 := Lib.hid (HK2.out.trans (Kept.stay (L := L2) (((Below.refl w2.heap.size w2).alloc (Nat.le_refl _) (.cells #[] 43))) 9))
  have HS3 := Lib.hid (sl_stay (r := 9) HS2.out ((Below.refl w2.heap.size w2).alloc (Nat.le_refl _) (.cells #[] 43)))
  generalize rel L2 w2 9 = L3 at H3 HK3 HS3
  have HX3 := Lib.hid (show Sl (w2.alloc (.cells #[] 43)) 7 (.slice (some ⟨w2.heap.size, 0, none⟩) 0 0) 0 (pcells ((l.take 0).map (·, true))) (Own B L3 (w2.alloc (.cells #[] 43)) 10) from ⟨by simp [pcells], _, _, rfl, .inl ⟨rfl, rfl⟩⟩)
  generalize w2.alloc (.cells #[] 43) = w3 at H3 HK3 HS3 HX3 ⊢
  generalize w2.heap.size = b2 at HX3 ⊢
  generalize w.heap.size = b1 at HBB ⊢
  clear H2 HK2 HS2
  go_loopg [6, 7] l.length (fun kq v6 v7 wr => ∃ (i : Nat) (L4 : Nat → Nat), v7 = .int .i64 (i : Int) ∧ kq + i ≤ l.length ∧ l.length ≤ kq + i ∧ Hid (RepT w0 L4 wr t { T with a := e1 } N pa pb vs) ∧ Hid (Kept L w L4 wr) ∧ Hid (Sl wr 6 (.slice al l.length cl) l.length (gcells l) (Lb L4 wr 9)) ∧ Hid (Sl wr 7 v6 i (pcells ((l.take i).map (·, true))) (Own B L4 wr 10)))
  case atStart => exact ⟨0, L3, rfl, by omega, by omega, H3, HK3, HS3, HX3⟩
  case round =>
    clear H3 HK3 HS3 HX3
    obtain ⟨i, L4, rfl, hk1, hk2, H4, HK4, HS4, HX4⟩ := hrel
    obtain ⟨ax, cx, rfl⟩ := HX4.out.slice
    by_cases hi : i < l.length
    · obtain ⟨g, hg⟩ : ∃ g, l[i]? = some g := ⟨_, List.getElem?_eq_getElem hi⟩
      have hcell : ∀ f, f < 6 → ∀ u, (Gr.cells g)[f]? = some u → ∃ b o, al = some ⟨b, o, none⟩ ∧ wr.cell? ⟨b, o + (i * 6 + f), none⟩ = some u := by
        intro f hf u hu
        obtain ⟨b, off, cap, e, _, _, _, hx⟩ := HS4.out.form (by omega)
        injection e with e
        exact ⟨b, off, e, hx _ u (by rw [gcells_at l i f g hg hf]; exact hu)⟩
      obtain ⟨bl, ol, rfl, _⟩ := hcell 0 (by decide) _ rfl
      have hc2 : ∀ f, f < 6 → ∀ u, (Gr.cells g)[f]? = some u → wr.cell? ⟨bl, ol + i * 6 + f, none⟩ = some u := by
        intro f hf u hu
        obtain ⟨b, o, e, h⟩ := hcell f hf u hu
        injection e with e
        injection e with e1 e2
        subst e1 e2
        rw [Nat.add_assoc]
        exact h
      have HG := Lib.hid hg
      obtain ⟨c, u, ep, sq, ak, b⟩ := g
      have x0 : wr.cell? ⟨bl, ol + i * 6, none⟩ = _ := hc2 0 (by decide) _ rfl
      have x1 : wr.cell? ⟨bl, ol + i * 6 + 1, none⟩ = _ := hc2 1 (by decide) _ rfl
      have x2 : wr.cell? ⟨bl, ol + i * 6 + 2, none⟩ = _ := hc2 2 (by decide) _ rfl
      have x3 : wr.cell? ⟨bl, ol + i * 6 + 3, none⟩ = _ := hc2 3 (by decide) _ rfl
      have x4 : wr.cell? ⟨bl, ol + i * 6 + 4, none⟩ = _ := hc2 4 (by decide) _ rfl
      have x5 : wr.cell? ⟨bl, ol + i * 6 + 5, none⟩ = _ := hc2 5 (by decide) _ rfl
      clear hcell hc2 hg
      have HB := (Below.refl wr.heap.size wr).alloc (Nat.le_refl _) (.cells #[.int .i64 c, .bool u, .int .i64 ep, .int .i64 sq, .int .i64 ak, .string b, .bool true] 43)
      have H5 := Lib.hid (H4.out.alloc (.cells #[.int .i64 c, .bool u, .int .i64 ep, .int .i64 sq, .int .i64 ak, .string b, .bool true] 43) 9)
      have HK5 := Lib.hid (HK4.out.trans (Kept.stay (L := L4) HB 9))
      have HS5 := Lib.hid (sl_stay (r := 9) HS4.out HB)
      have HX5 := Lib.hid (sl_own_stay (r := 9) HX4.out HB)
      have HSZ := Lib.hid (Nat.le_trans (Nat.le_trans (Nat.le_of_eq HBE.out) HK4.out.size) HB.size)
      generalize rel L4 wr 9 = L5 at H5 HK5 HS5 HX5
      clear H4 HK4 HS4 HX4 HB
      have q1 : i + 1 ≤ maxLen := by unfold maxLen; omega
      have q2 : (i + 1) * 64 ≤ 140737488355328 := by omega
      go_wp2_with (at_builtin; refine wpList_append_sl _ rfl _ _ 35 rfl 43 _ 7 64 Try.underlying35 info43 rfl (by decide) rfl rfl HX5.out (src_many wr #[.int .i64 c, .bool u, .int .i64 ep, .int .i64 sq, .int .i64 ak, .string b, .bool true] 43) rfl (one_s c u ep sq ak b true) q1 q2 ?_; intro v6 w6 hsl hch; have H6 := Lib.hid (H5.out.other (by decide) (own_chg hch) 10); have HK6 := Lib.hid (kept_own (r := 10) HBW.out HK5.out hch); have HS6 := Lib.hid (sl_other (r := 10) HS5.out (own_chg hch) (by decide)); have HX6 := Lib.hid (sl_own_grown HSZ.out hsl hch.size); clear hsl hch q1 q2)
      go_roundg (gk - 1)
      case measure => omega
      case rel => exact ⟨i + 1, _, by go_num, by omega, by omega, H6, HK6, HS6, Lib.hid (next_s HG.out HX6.out)⟩
    · have : gk = 0 := by omega
      subst this
      obtain rfl : i = l.length := by omega
      rw [List.take_length] at HX4
      have y6 := H4.out.c6
      have HP := Lib.hid (show Sl wr 7 (vs 6) T.pool.length (pcells T.pool) (Lb L4 wr 8) from H4.out.sl 6 (by decide) (by decide))
      by_cases h0 : l.length = 0
      · have hl0 : l = [] := List.eq_nil_of_length_eq_zero h0
        subst hl0
        have f6 := H4.out.fz 6
        obtain ⟨ao6, cap6, hv6⟩ := HP.out.slice
        rw [hv6] at y6
        have HV := Lib.hid hv6
        have HP' := Lib.hid (show Sl wr 7 (.slice ao6 T.pool.length cap6) T.pool.length (pcells T.pool) (Lb L4 wr 8) from hv6 ▸ HP.out)
        clear hv6 HP
        go_wp2_with (at_builtin; refine wpList_append_zero _ rfl _ _ 35 rfl 43 7 64 _ Try.underlying35 info43 rfl rfl HP'.out ?_)
        go_ret
        refine ⟨.slice ax 0 cx, _, rfl, ⟨pa, pb, _, set_same H4.out HV.out⟩, ?_, ?_⟩
        · exact sl_set (own_sl2 HX4.out) (by decide) H4.out.lt _
        · exact HK4.out.trans (Kept.set H4.out.lt _)
      · have q1 : T.pool.length + l.length ≤ maxLen := by unfold maxLen; omega
        have q2 : (T.pool.length + l.length) * 64 ≤ 140737488355328 := by omega
        have HXS := Lib.hid (sl_src HX4.out (fun e => absurd e h0))
        have HPL := Lib.hid (show (pcells (l.map (·, true))).length = l.length * 7 by rw [pcells_length, List.length_map])
        go_wp2_with (at_builtin; refine wpList_append_sl _ rfl _ _ 35 rfl 43 _ 7 64 Try.underlying35 info43 rfl (by decide) rfl rfl HP.out HXS.out HPL.out (one_p _) q1 q2 ?_; intro v6 w6 hsl hch; obtain ⟨ao6, cap6, rfl⟩ := hsl.slice; have hb := seen H4.out (by decide) hch; have z6 := blk_cell hb 6 _ rfl; have f6 := blk_free hb 6; have HS6 := Lib.hid hsl; have HC6 := Lib.hid hch; clear hsl hch hb q1 q2)
        go_ret
        refine ⟨.slice ax l.length cx, _, rfl, ⟨pa, pb, _, H4.out.push 6 (by decide) (by decide) HS6.out HC6.out { T with a := e1, pool := T.pool ++ l.map (·, true) } rfl rfl (by simp [Tk.ns]) (by simp [Tk.xs, pcells_append]) ?_⟩, ?_, ?_⟩
        · intro j h2 h6 hj
          obtain rfl | rfl | rfl | rfl : j = 2 ∨ j = 3 ∨ j = 4 ∨ j = 5 := by omega
          all_goals exact ⟨rfl, rfl⟩
        · exact sl_set (sl_other (r := 8) (own_sl2 HX4.out) HC6.out (by decide)) (by decide) (rel_old H4.out.tlt H4.out.lt) _
        · exact (HK4.out.trans (Kept.rel (by decide) HC6.out 8)).trans (Kept.set (rel_old H4.out.tlt H4.out.lt) _)

set_option maxHeartbeats 1000000 in
theorem sends_b {w0 : World} {L : Nat → Nat} {w : World} {t : Nat} {T : Tk} {N : Nat} {pa pb : Nat} {vs : Nat → Value} (h : RepT w0 L w t T N pa pb vs) (hN : N ≤ 10000) (hB : T.pool.length ≤ 1000000) :
    Calls Try.prog 24 #[.pointer (some ⟨t, 0, none⟩), .bool false] w fun e w' => ∃ v L', e = .returned v ∧ RT w0 L' w' t (outT T false) N ∧ Sl w' 7 v (outL T.b).length (pcells ((outL T.b).map (·, false))) (Lb L' w' 10) ∧ Kept L w L' w' := by
  obtain ⟨B, hBB⟩ : ∃ B, B = w.heap.size := ⟨_, rfl⟩
  have HBB := Lib.hid hBB
  have HBW := Lib.hid (Nat.le_of_eq hBB.symm)
  clear hBB
  have HBE := Lib.hid (show B = w.heap.size from HBB.out)
  have H1 := Lib.hid (h.alloc (.cells #[] 41) 9)
  have HK := Lib.hid (Kept.stay (L := L) (((Below.refl w.heap.size w).alloc (Nat.le_refl _) (.cells #[] 41))) 9)
  have y0 := H1.out.c1
  generalize rel L w 9 = L1 at H1 HK
  have hok := h.rb.ok
  have hlen := outL_len hok
  have HO := Lib.hid (out_any H1.out.rb hN)
  unfold OutPost at HO
  unfold outT
  rw [if_neg (by decide)]
  generalize outL T.b = l at HO hlen ⊢
  generalize outE T.b = e1 at HO ⊢
  clear h hok
  go_enter Try.func24, Try.ntmps24
  go_wp2_with fail
  refine HO.out.mono ?_
  rintro e w2 ⟨vl, rfl, hr, hs, hc⟩
  have H2 := Lib.hid (H1.out.turnB (Nat.le_refl N) hc (rep_same (r := 9) hr hc.size))
  have HK2 := Lib.hid (HK.out.trans (Kept.rel (by decide) hc 9))
  have HS2 := Lib.hid (sl_new (L := L1) (r := 9) hs)
  generalize rel L1 (w.alloc (.cells #[] 41)) 9 = L2 at H2 HK2 HS2
  clear HO H1 HK y0 hr hs hc
  obtain ⟨al, cl, rfl⟩ := HS2.out.slice
  go_wp2_with fail
  have H3 := Lib.hid (H2.out.alloc (.cells #[] 43) 9)
  have HK3 := Lib.hid (HK2.out.trans (Kept.stay (L := L2) (((Below.refl w2.heap.size w2).alloc (Nat.le_refl _) (.cells #[] 43))) 9))
  have HS3 := Lib.hid (sl_stay (r := 9) HS2.out ((Below.refl w2.heap.size w2).alloc (Nat.le_refl _) (.cells #[] 43)))
  generalize rel L2 w2 9 = L3 at H3 HK3 HS3
  have HX3 := Lib.hid (show Sl (w2.alloc (.cells #[] 43)) 7 (.slice (some ⟨w2.heap.size, 0, none⟩) 0 0) 0 (pcells ((l.take 0).map (·, false))) (Own B L3 (w2.alloc (.cells #[] 43)) 10) from ⟨by simp [pcells], _, _, rfl, .inl ⟨rfl, rfl⟩⟩)
  generalize w2.alloc (.cells #[] 43) = w3 at H3 HK3 HS3 HX3 ⊢
  generalize w2.heap.size = b2 at HX3 ⊢
  generalize w.heap.size = b1 at HBB ⊢
  clear H2 HK2 HS2
  go_loopg [6, 7] l.length (fun kq v6 v7 wr => ∃ (i : Nat) (L4 : Nat → Nat), v7 = .int .i64 (i : Int) ∧ kq + i ≤ l.length ∧ l.length ≤ kq + i ∧ Hid (RepT w0 L4 wr t { T with b := e1 } N pa pb vs) ∧ Hid (Kept L w L4 wr) ∧ Hid (Sl wr 6 (.slice al l.length cl) l.length (gcells l) (Lb L4 wr 9)) ∧ Hid (Sl wr 7 v6 i (pcells ((l.take i).map (·, false))) (Own B L4 wr 10)))
  case atStart => exact ⟨0, L3, rfl, by omega, by omega, H3, HK3, HS3, HX3⟩
  case round =>
    clear H3 HK3 HS3 HX3
    obtain ⟨i, L4, rfl, hk1, hk2, H4, HK4, HS4, HX4⟩ := hrel
    obtain ⟨ax, cx, rfl⟩ := HX4.out.slice
    by_cases hi : i < l.length
    · obtain ⟨g, hg⟩ : ∃ g, l[i]? = some g := ⟨_, List.getElem?_eq_getElem hi⟩
      have hcell : ∀ f, f < 6 → ∀ u, (Gr.cells g)[f]? = some u → ∃ b o, al = some ⟨b, o, none⟩ ∧ wr.cell? ⟨b, o + (i * 6 + f), none⟩ = some u := by
        intro f hf u hu
        obtain ⟨b, off, cap, e, _, _, _, hx⟩ := HS4.out.form (by omega)
        injection e with e
        exact ⟨b, off, e, hx _ u (by rw [gcells_at l i f g hg hf]; exact hu)⟩
      obtain ⟨bl, ol, rfl, _⟩ := hcell 0 (by decide) _ rfl
      have hc2 : ∀ f, f < 6 → ∀ u, (Gr.cells g)[f]? = some u → wr.cell? ⟨bl, ol + i * 6 + f, none⟩ = some u := by
        intro f hf u hu
        obtain ⟨b, o, e, h⟩ := hcell f hf u hu
        injection e with e
        injection e with e1 e2
        subst e1 e2
        rw [Nat.add_assoc]
        exact h
      have HG := Lib.hid hg
      obtain ⟨c, u, ep, sq, ak, b⟩ := g
      have x0 : wr.cell? ⟨bl, ol + i * 6, none⟩ = _ := hc2 0 (by decide) _ rfl
      have x1 : wr.cell? ⟨bl, ol + i * 6 + 1, none⟩ = _ := hc2 1 (by decide) _ rfl
      have x2 : wr.cell? ⟨bl, ol + i * 6 + 2, none⟩ = _ := hc2 2 (by decide) _ rfl
      have x3 : wr.cell? ⟨bl, ol + i * 6 + 3, none⟩ = _ := hc2 3 (by decide) _ rfl
      have x4 : wr.cell? ⟨bl, ol + i * 6 + 4, none⟩ = _ := hc2 4 (by decide) _ rfl
      have x5 : wr.cell? ⟨bl, ol + i * 6 + 5, none⟩ = _ := hc2 5 (by decide) _ rfl
      clear hcell hc2 hg
      have HB := (Below.refl wr.heap.size wr).alloc (Nat.le_refl _) (.cells #[.int .i64 c, .bool u, .int .i64 ep, .int .i64 sq, .int .i64 ak, .string b, .bool false] 43)
      have H5 := Lib.hid (H4.out.alloc (.cells #[.int .i64 c, .bool u, .int .i64 ep, .int .i64 sq, .int .i64 ak, .string b, .bool false] 43) 9)
      have HK5 := Lib.hid (HK4.out.trans (Kept.stay (L := L4) HB 9))
      have HS5 := Lib.hid (sl_stay (r := 9) HS4.out HB)
      have HX5 := Lib.hid (sl_own_stay (r := 9) HX4.out HB)
      have HSZ := Lib.hid (Nat.le_trans (Nat.le_trans (Nat.le_of_eq HBE.out) HK4.out.size) HB.size)
      generalize rel L4 wr 9 = L5 at H5 HK5 HS5 HX5
      clear H4 HK4 HS4 HX4 HB
      have q1 : i + 1 ≤ maxLen := by unfold maxLen; omega
      have q2 : (i + 1) * 64 ≤ 140737488355328 := by omega
      go_wp2_with (at_builtin; refine wpList_append_sl _ rfl _ _ 35 rfl 43 _ 7 64 Try.underlying35 info43 rfl (by decide) rfl rfl HX5.out (src_many wr #[.int .i64 c, .bool u, .int .i64 ep, .int .i64 sq, .int .i64 ak, .string b, .bool false] 43) rfl (one_s c u ep sq ak b false) q1 q2 ?_; intro v6 w6 hsl hch; have H6 := Lib.hid (H5.out.other (by decide) (own_chg hch) 10); have HK6 := Lib.hid (kept_own (r := 10) HBW.out HK5.out hch); have HS6 := Lib.hid (sl_other (r := 10) HS5.out (own_chg hch) (by decide)); have HX6 := Lib.hid (sl_own_grown HSZ.out hsl hch.size); clear hsl hch q1 q2)
      go_roundg (gk - 1)
      case measure => omega
      case rel => exact ⟨i + 1, _, by go_num, by omega, by omega, H6, HK6, HS6, Lib.hid (next_s HG.out HX6.out)⟩
    · have : gk = 0 := by omega
      subst this
      obtain rfl : i = l.length := by omega
      rw [List.take_length] at HX4
      have y6 := H4.out.c6
      have HP := Lib.hid (show Sl wr 7 (vs 6) T.pool.length (pcells T.pool) (Lb L4 wr 8) from H4.out.sl 6 (by decide) (by decide))
      by_cases h0 : l.length = 0
      · have hl0 : l = [] := List.eq_nil_of_length_eq_zero h0
        subst hl0
        have f6 := H4.out.fz 6
        obtain ⟨ao6, cap6, hv6⟩ := HP.out.slice
        rw [hv6] at y6
        have HV := Lib.hid hv6
        have HP' := Lib.hid (show Sl wr 7 (.slice ao6 T.pool.length cap6) T.pool.length (pcells T.pool) (Lb L4 wr 8) from hv6 ▸ HP.out)
        clear hv6 HP
        go_wp2_with (at_builtin; refine wpList_append_zero _ rfl _ _ 35 rfl 43 7 64 _ Try.underlying35 info43 rfl rfl HP'.out ?_)
        go_ret
        refine ⟨.slice ax 0 cx, _, rfl, ⟨pa, pb, _, set_same H4.out HV.out⟩, ?_, ?_⟩
        · exact sl_set (own_sl2 HX4.out) (by decide) H4.out.lt _
        · exact HK4.out.trans (Kept.set H4.out.lt _)
      · have q1 : T.pool.length + l.length ≤ maxLen := by unfold maxLen; omega
        have q2 : (T.pool.length + l.length) * 64 ≤ 140737488355328 := by omega
        have HXS := Lib.hid (sl_src HX4.out (fun e => absurd e h0))
        have HPL := Lib.hid (show (pcells (l.map (·, false))).length = l.length * 7 by rw [pcells_length, List.length_map])
        go_wp2_with (at_builtin; refine wpList_append_sl _ rfl _ _ 35 rfl 43 _ 7 64 Try.underlying35 info43 rfl (by decide) rfl rfl HP.out HXS.out HPL.out (one_p _) q1 q2 ?_; intro v6 w6 hsl hch; obtain ⟨ao6, cap6, rfl⟩ := hsl.slice; have hb := seen H4.out (by decide) hch; have z6 := blk_cell hb 6 _ rfl; have f6 := blk_free hb 6; have HS6 := Lib.hid hsl; have HC6 := Lib.hid hch; clear hsl hch hb q1 q2)
        go_ret
        refine ⟨.slice ax l.length cx, _, rfl, ⟨pa, pb, _, H4.out.push 6 (by decide) (by decide) HS6.out HC6.out { T with b := e1, pool := T.pool ++ l.map (·, false) } rfl rfl (by simp [Tk.ns]) (by simp [Tk.xs, pcells_append]) ?_⟩, ?_, ?_⟩
        · intro j h2 h6 hj
          obtain rfl | rfl | rfl | rfl : j = 2 ∨ j = 3 ∨ j = 4 ∨ j = 5 := by omega
          all_goals exact ⟨rfl, rfl⟩
        · exact sl_set (sl_other (r := 8) (own_sl2 HX4.out) HC6.out (by decide)) (by decide) (rel_old H4.out.tlt H4.out.lt) _
        · exact (HK4.out.trans (Kept.rel (by decide) HC6.out 8)).trans (Kept.set (rel_old H4.out.tlt H4.out.lt) _)

theorem sends_any {w0 : World} {L : Nat → Nat} {w : World} {t : Nat} {T : Tk} {N : Nat} (h : RT w0 L w t T N) (hN : N ≤ 10000) (hB : T.pool.length ≤ 1000000) (f : Bool) :
    Calls Try.prog 24 #[.pointer (some ⟨t, 0, none⟩), .bool f] w fun e w' => ∃ v L', e = .returned v ∧ RT w0 L' w' t (outT T f) N ∧ Sl w' 7 v (outs T f).length (pcells ((outs T f).map (·, f))) (Lb L' w' 10) ∧ Kept L w L' w' := by
  obtain ⟨pa, pb, vs, h⟩ := h
  cases f
  · exact sends_b h hN hB
  · exact sends_a h hN hB

end Go.Proofs.Ytjlhipnlacfekaa.Tm
