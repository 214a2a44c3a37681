/-
  'Send': a text is to come to the other end.
-/
import Derived.Test.YtjlhipnlacfekaaWa
namespace Go.Proofs.Ytjlhipnlacfekaa.Wa
open Go.RowKit Go.Maps Go.Proofs.Ytjlhipnlacfekaa.Md Go.Proofs.Ytjlhipnlacfekaa.Hp Go.Proofs.Ytjlhipnlacfekaa.Rp
set_option linter.unusedSimpArgs false
set_option linter.unusedVariables false

theorem info9 : (Try.prog.info? 9).map (fun i => (i.zero, i.size, i.bytes)) = some (some (.string ⟨#[]⟩), 1, 16) := by kernel_rfl

theorem send_nil (b : ByteArray) (w : World) : Calls Try.prog 11 #[.pointer none, .string b] w fun e w' => e = .returned (.int .i64 2) ∧ w = w' := by
  go_enter Try.func11, Try.ntmps11
  go_wp2_with fail
  go_ret
  exact ⟨rfl, rfl⟩

/-- Behind an append to the open texts: the fields and the map are as they were. -/
theorem kept2 {w w1 : World} {p : Nat} {E : En} {F : Nat → Prop} {N : Nat} {sv : Value} {m : Nat} {o : Obj} (h : RepAt w p E F N sv m) (hc : Chg (fun b => F b ∧ b ≠ p ∧ b ≠ m) (w.alloc o) w1) :
    w1.heap[p]? = some (.cells (fields E sv m) 66) ∧ MapIs w1 m E.early N := by
  have hlt := h.lt
  have hm := h.mp.lt
  have e1 : w1.heap[p]? = w.heap[p]? := (hc.block p (by simp; omega) (fun x => x.2.1 rfl)).trans (Below.heap_alloc w o p hlt)
  have e2 : w1.heap[m]? = w.heap[m]? := (hc.block m (by simp; omega) (fun x => x.2.2 rfl)).trans (Below.heap_alloc w o m hm)
  exact ⟨by rw [e1]; exact h.blk, h.mp.keep e2⟩

theorem size_set (w : World) (a : Addr) (v : Value) : (w.setCell a v).heap.size = w.heap.size := by simp [World.setCell]

theorem send_post {w w1 : World} {p : Nat} {E : En} {F : Nat → Prop} {N : Nat} {sv v : Value} {m : Nat} {b : ByteArray} (hr : RepAt w p E F N sv m) (he : sendErr E b = 0)
    (hk : w1.heap[p]? = some (.cells (fields E sv m) 66) ∧ MapIs w1 m E.early N)
    (h1 : Sl w1 1 v (E.opn.length + 1) (E.opn.map Value.string ++ [Value.string b]) (Grow (fun b => F b ∧ b ≠ p ∧ b ≠ m) (w.alloc (.cells #[.string b] 9)) w1))
    (h2 : Chg (fun b => F b ∧ b ≠ p ∧ b ≠ m) (w.alloc (.cells #[.string b] 9)) w1) :
    Rep ((w1.setCell ⟨p, 1, none⟩ v).setCell ⟨p, 2, none⟩ (.int .i64 ((E.given : Int) + 1))) p (sent E b) (Grow F w ((w1.setCell ⟨p, 1, none⟩ v).setCell ⟨p, 2, none⟩ (.int .i64 ((E.given : Int) + 1)))) (N + 1) ∧
      Chg F w ((w1.setCell ⟨p, 1, none⟩ v).setCell ⟨p, 2, none⟩ (.int .i64 ((E.given : Int) + 1))) := by
  have hs : sent E b = { E with opn := E.opn ++ [b], given := E.given + 1 } := by unfold sent; rw [if_pos he]
  have hlt := hr.lt
  have hmlt := hr.mp.lt
  have hsz := h2.size
  rw [World.size_alloc] at hsz
  have hc : Chg F w w1 := by
    have a := Chg.alloc (Chg.refl F w) (.cells #[.string b] 9)
    exact a.trans2 h2 fun i _ x => x.1
  have hchg := (hc.setCell (p := ⟨p, 1, none⟩) (.inl hr.fp) v).setCell (p := ⟨p, 2, none⟩) (.inl hr.fp) (.int .i64 ((E.given : Int) + 1))
  refine ⟨⟨v, m, (hr.ok.sent b), .inl ⟨hr.fp, hlt⟩, .inl ⟨hr.fm, hmlt⟩, hr.ne, ?_, ?_, ?_⟩, hchg⟩
  · rw [blk_set (blk_set hk.1 1 v) 2 _, hs]
    rfl
  · rw [hs]
    simp only [List.length_append, List.length_cons, List.length_nil, List.map_append, List.map_cons, List.map_nil]
    have hk2 : ∀ x, x < w1.heap.size → Grow (fun b => F b ∧ b ≠ p ∧ b ≠ m) (w.alloc (.cells #[.string b] 9)) w1 x → x ≠ p ∧ x ≠ m ∧ Grow F w ((w1.setCell ⟨p, 1, none⟩ v).setCell ⟨p, 2, none⟩ (.int .i64 ((E.given : Int) + 1))) x := by
      intro x hx hg
      rcases hg with ⟨⟨a1, a2, a3⟩, a4⟩ | ⟨a1, a2⟩
      · refine ⟨a2, a3, ?_⟩
        by_cases hxw : x < w.heap.size
        · exact .inl ⟨a1, hxw⟩
        · exact .inr ⟨by omega, by rw [size_set, size_set]; exact hx⟩
      · rw [World.size_alloc] at a1
        exact ⟨by omega, by omega, .inr ⟨by omega, by rw [size_set, size_set]; exact hx⟩⟩
    refine (h1.keep (by rw [size_set, size_set]; exact Nat.le_refl _) fun x hx hg => ?_).mono fun x hx hg => ?_
    · rw [Below.heap_setCell _ _ _ _ (hk2 x hx hg).1, Below.heap_setCell _ _ _ _ (hk2 x hx hg).1]
    · rw [size_set, size_set] at hx
      exact ⟨(hk2 x hx hg).2.2, (hk2 x hx hg).1, (hk2 x hx hg).2.1⟩
  · rw [hs]
    refine (hk.2.keep ?_).mono (by omega)
    rw [Below.heap_setCell _ _ _ _ hr.ne.symm, Below.heap_setCell _ _ _ _ hr.ne.symm]

set_option maxHeartbeats 1000000 in
theorem send_any {w : World} {p : Nat} {E : En} {F : Nat → Prop} {N : Nat} (h : Rep w p E F N) (hN : N ≤ 10000) (b : ByteArray) :
    Calls Try.prog 11 #[.pointer (some ⟨p, 0, none⟩), .string b] w fun e w' => e = .returned (.int .i64 (sendErr E b)) ∧ Rep w' p (sent E b) (Grow F w w') (N + 1) ∧ Chg F w w' := by
  have same : sendErr E b ≠ 0 → Rep w p (sent E b) (Grow F w w) (N + 1) := by
    intro hne
    unfold sent
    rw [if_neg hne]
    exact h.mono (fun x hx hf => .inl ⟨hf, hx⟩) (by omega)
  by_cases a1 : 16384 < b.size
  · have he : sendErr E b = 5 := by unfold sendErr; rw [if_pos a1]
    rw [he] at same ⊢
    have same' := Lib.hid (same (by decide))
    clear same he h
    go_enter Try.func11, Try.ntmps11
    go_wp2_with fail
    go_ret
    exact ⟨rfl, same'.out, Chg.refl _ _⟩
  · obtain ⟨sv, m, hr⟩ := h
    have k1 := c1 hr
    have hlt := hr.lt
    by_cases a2 : 32 ≤ E.opn.length
    · have he : sendErr E b = 11 := by unfold sendErr; rw [if_neg a1, if_pos a2]
      rw [he] at same ⊢
      have same' := Lib.hid (same (by decide))
      obtain ⟨ao, cap, rfl⟩ := hr.sl.slice
      clear same he hr
      go_enter Try.func11, Try.ntmps11
      go_wp2_with fail
      go_ret
      exact ⟨rfl, same'.out, Chg.refl _ _⟩
    · have he : sendErr E b = 0 := by unfold sendErr; rw [if_neg a1, if_neg a2]
      clear same
      obtain ⟨ao, cap, rfl⟩ := hr.sl.slice
      have HS := Lib.hid (hr.sl.chg (Chg.alloc (Chg.refl (fun _ => False) w) (.cells #[.string b] 9)) (fun _ _ _ => id))
      have HE := Lib.hid he
      have hgv : E.given ≤ 10000 := Nat.le_trans hr.ok.given hN
      clear he
      go_enter Try.func11, Try.ntmps11
      go_wp2_with (at_builtin; refine wpList_append_sl _ rfl _ _ 34 rfl 9 (.string ⟨#[]⟩) 1 16 Try.underlying34 info9 rfl (by decide) rfl rfl HS.out (src_one w (.string b) 9) rfl (by intro u hu; simp at hu; subst hu; rfl) (by unfold maxLen; omega) (by omega) ?_; intro v' w1 hsl1 hch1; obtain ⟨ao1, cap1, rfl⟩ := hsl1.slice; have hk2 := kept2 hr hch1; have j1 := blk_cell hk2.1 1 _ rfl; have g1 := blk_free hk2.1 1; have j2 := blk_cell hk2.1 2 (.int .i64 (E.given : Int)) rfl; have g2 := blk_free hk2.1 2; have HK := Lib.hid hk2; have H1 := Lib.hid hsl1; have H2 := Lib.hid hch1; clear hk2 hsl1 hch1)
      go_ret
      exact ⟨by rw [HE.out]; rfl, send_post hr HE.out HK.out H1.out H2.out⟩

end Go.Proofs.Ytjlhipnlacfekaa.Wa
