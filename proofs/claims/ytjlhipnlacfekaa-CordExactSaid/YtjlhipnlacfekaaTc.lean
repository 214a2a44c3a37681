/-
  'comes': a datagram comes to the other end.
-/
import Derived.Test.YtjlhipnlacfekaaTm
namespace Go.Proofs.Ytjlhipnlacfekaa.Tm
open Go.RowKit Go.Maps Go.Proofs.Ytjlhipnlacfekaa.Md Go.Proofs.Ytjlhipnlacfekaa.Hp Go.Proofs.Ytjlhipnlacfekaa.Rp Go.Proofs.Ytjlhipnlacfekaa.Lbl Go.Proofs.Ytjlhipnlacfekaa.Wa
set_option linter.unusedSimpArgs false
set_option linter.unusedVariables false

theorem one_string (l : List ByteArray) : ∀ u ∈ l.map Value.string, u.oneCell' = true := by
  intro u hu
  obtain ⟨x, _, rfl⟩ := List.mem_map.1 hu
  rfl
/-- The Talk's own block behind another label's turn. -/
theorem seen {w0 : World} {L : Nat → Nat} {w w' : World} {t : Nat} {T : Tk} {N : Nat} {pa pb : Nat} {vs : Nat → Value} (h : RepT w0 L w t T N pa pb vs) {i : Nat} (hi : i ≠ 1) (hc : Chg (Lb L w i) w w') :
    w'.heap[t]? = some (.cells #[.pointer (some ⟨pa, 0, none⟩), .pointer (some ⟨pb, 0, none⟩), vs 2, vs 3, vs 4, vs 5, vs 6] 37) := by
  rw [hc.block t h.tlt fun x => by have := x.1; have := h.lt; omega]
  exact h.blk

/-- What 'Take' does, its answer's and the end's own terms put aside. -/
def Takes (p : Nat) (e0 e1 : En) (l : List ByteArray) (N : Nat) (g : Gr) : Prop :=
  ∀ (w : World) (F : Nat → Prop), Rep w p e0 F N → (∀ b, F b → b < w.heap.size) → Calls Try.prog 12 #[.pointer (some ⟨p, 0, none⟩), Gr.val g] w fun e w' =>
    ∃ v, e = .returned (.tuple #[v, .int .i64 0]) ∧ Rep w' p e1 F (N + 1) ∧ Sl w' 1 v l.length (l.map .string) (New w w') ∧ Chg F w w' ∧ (l = [] → v = .slice none 0 0)
theorem takes_of (p : Nat) (E : En) {N : Nat} (hN : N ≤ 10000) (g : Gr) (he : takeErr E g = 0) : Takes p E (takeE E g) (takeL E g) N g := by
  intro w F hr hF
  have h := take_any hr hN hF g
  unfold TakePost at h
  rw [he] at h
  exact h

set_option maxHeartbeats 1000000 in
theorem comes_b {w0 : World} {L : Nat → Nat} {w : World} {t : Nat} {T : Tk} {N : Nat} {pa pb : Nat} {vs : Nat → Value} (h : RepT w0 L w t T N pa pb vs) (hB : T.atB.length ≤ 1000000) (g : Gr) (e1 : En) (l : List ByteArray) (hl : l.length ≤ 33) (HT : Takes pb T.b e1 l N g) :
    Calls Try.prog 25 #[.pointer (some ⟨t, 0, none⟩), Sv (g, true)] w fun e w' => e = .returned (.bool true) ∧ ∃ L', RT w0 L' w' t { T with b := e1, atB := T.atB ++ l } (N + 1) ∧ Kept L w L' w' := by
  obtain ⟨c, u, ep, sq, ak, b⟩ := g
  unfold Sv
  go_enter Try.func25, Try.ntmps25
  go_wp2_with fail
  have H1 := Lib.hid (h.alloc (.cells #[.int .i64 c, .bool u, .int .i64 ep, .int .i64 sq, .int .i64 ak, .string b, .bool true] 43) 9)
  have HK := Lib.hid (Kept.stay (L := L) (((Below.refl w.heap.size w).alloc (Nat.le_refl _) (.cells #[.int .i64 c, .bool u, .int .i64 ep, .int .i64 sq, .int .i64 ak, .string b, .bool true] 43))) 9)
  have hbx := heap_alloc_new w (.cells #[.int .i64 c, .bool u, .int .i64 ep, .int .i64 sq, .int .i64 ak, .string b, .bool true] 43)
  generalize w.alloc (.cells #[.int .i64 c, .bool u, .int .i64 ep, .int .i64 sq, .int .i64 ak, .string b, .bool true] 43) = w1 at H1 HK hbx ⊢
  generalize rel L w 9 = L1 at H1 HK
  have x0 := blk_cell hbx 0 _ rfl
  have x1 := blk_cell hbx 1 _ rfl
  have x2 := blk_cell hbx 2 _ rfl
  have x3 := blk_cell hbx 3 _ rfl
  have x4 := blk_cell hbx 4 _ rfl
  have x5 := blk_cell hbx 5 _ rfl
  generalize w.heap.size = bx at *
  have y1 := H1.out.c1
  have HTT := Lib.hid (HT w1.drew _ H1.out.drew.rb lb_lt)
  unfold Gr.val at HTT
  clear h hbx HT
  go_region_law (go_simp; go_at_call 12; refine HTT.out.mono ?_; rintro e w2 ⟨v2, rfl, hr, hs, hc, h0⟩; have HR2 := Lib.hid hr; have HS2 := Lib.hid hs; have HC2 := Lib.hid hc; have H02 := Lib.hid h0; clear hr hs hc h0 HTT)
  all_goals
    clear x0 x1 x2 x3 x4 x5 y1
    have H2 := Lib.hid (H1.out.drew.turnB (Nat.le_succ N) HC2.out (rep_same (r := 9) HR2.out HC2.out.size))
    have HK2 := Lib.hid (HK.out.trans ((Kept.same (L := L1) (w := w1) (w' := w1.drew) rfl).trans (Kept.rel (by decide) HC2.out 9)))
    have HX2 := Lib.hid (sl_src HS2.out (fun hn => H02.out (List.eq_nil_of_length_eq_zero hn)))
    generalize rel L1 w1.drew 9 = L2 at H2 HK2
    have y5 := H2.out.c5
    clear H1 HK HR2 HS2 HC2 H02
    have HS5 := Lib.hid (show Sl w2 1 (vs 5) T.atB.length (T.atB.map .string) (Lb L2 w2 7) from H2.out.sl 5 (by decide) (by decide))
    have q1 : T.atB.length + l.length ≤ maxLen := by unfold maxLen; omega
    have q2 : (T.atB.length + l.length) * 16 ≤ 140737488355328 := by omega
    go_wp2_with (at_builtin; refine wpList_append_sl _ rfl _ _ 34 rfl 9 (.string ⟨#[]⟩) 1 16 Try.underlying34 info9 rfl (by decide) rfl rfl HS5.out HX2.out (by simp) (one_string l) q1 q2 ?_; intro v3 w3 hsl hch; obtain ⟨ao3, cap3, rfl⟩ := hsl.slice; have hb := seen H2.out (by decide) hch; have z5 := blk_cell hb 5 _ rfl; have f5 := blk_free hb 5; have HS3 := Lib.hid hsl; have HC3 := Lib.hid hch; clear hsl hch hb q1 q2)
    go_ret
    refine ⟨rfl, _, ⟨pa, pb, _, H2.out.push 5 (by decide) (by decide) HS3.out HC3.out _ rfl rfl (by simp [Tk.ns]) (by simp [Tk.xs]) ?_⟩, ?_⟩
    · intro j h2 h6 hj
      obtain rfl | rfl | rfl | rfl : j = 2 ∨ j = 3 ∨ j = 4 ∨ j = 6 := by omega
      all_goals exact ⟨rfl, rfl⟩
    · exact (HK2.out.trans (Kept.rel (by decide) HC3.out 7)).trans (Kept.set (by unfold Lbl.rel; rw [if_pos H2.out.tlt]; exact H2.out.lt) _)

set_option maxHeartbeats 1000000 in
theorem comes_a {w0 : World} {L : Nat → Nat} {w : World} {t : Nat} {T : Tk} {N : Nat} {pa pb : Nat} {vs : Nat → Value} (h : RepT w0 L w t T N pa pb vs) (hB : T.atA.length ≤ 1000000) (g : Gr) (e1 : En) (l : List ByteArray) (hl : l.length ≤ 33) (HT : Takes pa T.a e1 l N g) :
    Calls Try.prog 25 #[.pointer (some ⟨t, 0, none⟩), Sv (g, false)] w fun e w' => e = .returned (.bool true) ∧ ∃ L', RT w0 L' w' t { T with a := e1, atA := T.atA ++ l } (N + 1) ∧ Kept L w L' w' := by
  obtain ⟨c, u, ep, sq, ak, b⟩ := g
  unfold Sv
  go_enter Try.func25, Try.ntmps25
  go_wp2_with fail
  have H1 := Lib.hid (h.alloc (.cells #[.int .i64 c, .bool u, .int .i64 ep, .int .i64 sq, .int .i64 ak, .string b, .bool false] 43) 9)
  have HK := Lib.hid (Kept.stay (L := L) (((Below.refl w.heap.size w).alloc (Nat.le_refl _) (.cells #[.int .i64 c, .bool u, .int .i64 ep, .int .i64 sq, .int .i64 ak, .string b, .bool false] 43))) 9)
  have hbx := heap_alloc_new w (.cells #[.int .i64 c, .bool u, .int .i64 ep, .int .i64 sq, .int .i64 ak, .string b, .bool false] 43)
  generalize w.alloc (.cells #[.int .i64 c, .bool u, .int .i64 ep, .int .i64 sq, .int .i64 ak, .string b, .bool false] 43) = w1 at H1 HK hbx ⊢
  generalize rel L w 9 = L1 at H1 HK
  have x0 := blk_cell hbx 0 _ rfl
  have x1 := blk_cell hbx 1 _ rfl
  have x2 := blk_cell hbx 2 _ rfl
  have x3 := blk_cell hbx 3 _ rfl
  have x4 := blk_cell hbx 4 _ rfl
  have x5 := blk_cell hbx 5 _ rfl
  generalize w.heap.size = bx at *
  have y1 := H1.out.c0
  have HTT := Lib.hid (HT w1.drew _ H1.out.drew.ra lb_lt)
  unfold Gr.val at HTT
  clear h hbx HT
  go_region_law (go_simp; go_at_call 12; refine HTT.out.mono ?_; rintro e w2 ⟨v2, rfl, hr, hs, hc, h0⟩; have HR2 := Lib.hid hr; have HS2 := Lib.hid hs; have HC2 := Lib.hid hc; have H02 := Lib.hid h0; clear hr hs hc h0 HTT)
  all_goals
    clear x0 x1 x2 x3 x4 x5 y1
    have H2 := Lib.hid (H1.out.drew.turnA (Nat.le_succ N) HC2.out (rep_same (r := 9) HR2.out HC2.out.size))
    have HK2 := Lib.hid (HK.out.trans ((Kept.same (L := L1) (w := w1) (w' := w1.drew) rfl).trans (Kept.rel (by decide) HC2.out 9)))
    have HX2 := Lib.hid (sl_src HS2.out (fun hn => H02.out (List.eq_nil_of_length_eq_zero hn)))
    generalize rel L1 w1.drew 9 = L2 at H2 HK2
    have y4 := H2.out.c4
    clear H1 HK HR2 HS2 HC2 H02
    have HS5 := Lib.hid (show Sl w2 1 (vs 4) T.atA.length (T.atA.map .string) (Lb L2 w2 6) from H2.out.sl 4 (by decide) (by decide))
    have q1 : T.atA.length + l.length ≤ maxLen := by unfold maxLen; omega
    have q2 : (T.atA.length + l.length) * 16 ≤ 140737488355328 := by omega
    go_wp2_with (at_builtin; refine wpList_append_sl _ rfl _ _ 34 rfl 9 (.string ⟨#[]⟩) 1 16 Try.underlying34 info9 rfl (by decide) rfl rfl HS5.out HX2.out (by simp) (one_string l) q1 q2 ?_; intro v3 w3 hsl hch; obtain ⟨ao3, cap3, rfl⟩ := hsl.slice; have hb := seen H2.out (by decide) hch; have z5 := blk_cell hb 4 _ rfl; have f5 := blk_free hb 4; have HS3 := Lib.hid hsl; have HC3 := Lib.hid hch; clear hsl hch hb q1 q2)
    go_ret
    refine ⟨rfl, _, ⟨pa, pb, _, H2.out.push 4 (by decide) (by decide) HS3.out HC3.out _ rfl rfl (by simp [Tk.ns]) (by simp [Tk.xs]) ?_⟩, ?_⟩
    · intro j h2 h6 hj
      obtain rfl | rfl | rfl | rfl : j = 2 ∨ j = 3 ∨ j = 5 ∨ j = 6 := by omega
      all_goals exact ⟨rfl, rfl⟩
    · exact (HK2.out.trans (Kept.rel (by decide) HC3.out 6)).trans (Kept.set (by unfold Lbl.rel; rw [if_pos H2.out.tlt]; exact H2.out.lt) _)

theorem comes_any {w0 : World} {L : Nat → Nat} {w : World} {t : Nat} {T : Tk} {N : Nat} (h : RT w0 L w t T N) (hN : N ≤ 10000) (hA : T.atA.length ≤ 1000000) (hB : T.atB.length ≤ 1000000) (s : Gr × Bool) (he : comeErr T s = 0) :
    Calls Try.prog 25 #[.pointer (some ⟨t, 0, none⟩), Sv s] w fun e w' => e = .returned (.bool true) ∧ ∃ L', RT w0 L' w' t (comeT T s) (N + 1) ∧ Kept L w L' w' := by
  obtain ⟨pa, pb, vs, h⟩ := h
  obtain ⟨g, f⟩ := s
  cases f
  · exact comes_a h hA g _ _ (takeL_len _ _) (takes_of pa T.a hN g he)
  · exact comes_b h hB g _ _ (takeL_len _ _) (takes_of pb T.b hN g he)

end Go.Proofs.Ytjlhipnlacfekaa.Tm
