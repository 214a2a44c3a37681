/-
  'Take', whole; 'New' as an end's memory.
-/
import Derived.Test.YtjlhipnlacfekaaWh0
import Derived.Test.YtjlhipnlacfekaaWh1
import Derived.Test.YtjlhipnlacfekaaWh2
namespace Go.Proofs.Ytjlhipnlacfekaa.Wa
open Go.RowKit Go.Maps Go.Proofs.Ytjlhipnlacfekaa.Md Go.Proofs.Ytjlhipnlacfekaa.Hp Go.Proofs.Ytjlhipnlacfekaa.Rp
set_option linter.unusedSimpArgs false
set_option linter.unusedVariables false

theorem take_any {w : World} {p : Nat} {E : En} {F : Nat → Prop} {N : Nat} (h : Rep w p E F N) (hN : N ≤ 10000) (hF : ∀ b, F b → b < w.heap.size) (g : Gr) :
    Calls Try.prog 12 #[.pointer (some ⟨p, 0, none⟩), Gr.val g] w (TakePost w p E F N g) := by
  by_cases he : rightErr E g = 0
  · have hz := right_zero he
    obtain ⟨c, u, ep, sq, ak, b⟩ := g
    obtain ⟨ak, rfl⟩ := Int.eq_ofNat_of_zero_le hz.2.1
    obtain ⟨sq, rfl⟩ := Int.eq_ofNat_of_zero_le hz.2.2.2.1
    have hbox : Rep (w.alloc (.cells #[.int .i64 c, .bool u, .int .i64 ep, .int .i64 (sq : Int), .int .i64 (ak : Int), .string b] 41)) p E F N := h.keep (by simp) fun b hlt _ => Below.heap_alloc _ _ _ hlt
    have hx := right_any hbox hN ⟨c, u, ep, sq, ak, b⟩
    rw [he] at hx
    unfold Gr.val at hx ⊢
    have b1 : ak ≤ E.given := by have := hz.2.2.1; simpa using this
    have b2 : (sq : Int) ≤ (E.got : Int) + 32 := hz.2.2.2.2.1
    have b3 : b.size ≤ 16384 := hz.2.2.2.2.2
    have hok := h.ok
    obtain ⟨sv, m, hr⟩ := h
    obtain ⟨ao, cap, rfl⟩ := hr.sl.slice
    by_cases hlf : E.given - ak < E.opn.length
    · by_cases hcap : cap = E.opn.length - (E.given - ak)
      · exact take_a1 hN hF c u ep sq ak b hx b1 b2 b3 hok.given hok.got hok.win (mem_of hr) hok he hlf hcap
      · exact take_a2 hN hF c u ep sq ak b hx b1 b2 b3 hok.given hok.got hok.win (mem_of hr) hok he hlf hcap
    · exact take_b hN hF c u ep sq ak b hx b1 b2 b3 hok.given hok.got hok.win (mem_of hr) hok he hlf
  · exact take_err h hN g he

theorem take_nil (g : Gr) (w : World) : Calls Try.prog 12 #[.pointer none, Gr.val g] w fun e w' => e = .returned (.tuple #[.slice none 0 0, .int .i64 2]) ∧ Below w.heap.size w w' := by
  obtain ⟨c, u, ep, sq, ak, b⟩ := g
  unfold Gr.val
  have HX := Lib.hid (right_nil c u ep sq ak b)
  go_enter Try.func12, Try.ntmps12
  go_wp2_with fail
  refine (HX.out _).mono ?_
  rintro e w2 ⟨rfl, hb2⟩
  go_wp2_with fail
  go_ret2
  exact ⟨rfl, ((Below.refl _ _).alloc (Nat.le_refl _) _).trans (hb2.mono (by simp))⟩

/-- 'New' of an epoch that there is. -/
theorem new_any (ep : Int) (h1 : 1 ≤ ep) (h2 : ep ≤ 1073741824) (w : World) (N : Nat) :
    Calls Try.prog 10 #[.int .i64 ep] w fun e w' => e = .returned (.pointer (some ⟨w.heap.size + 1, 0, none⟩)) ∧ Rep w' (w.heap.size + 1) (newE ep) (New w w') N ∧ Below w.heap.size w w' := by
  refine (new_some ep h1 h2 w).mono ?_
  rintro e w' ⟨rfl, rfl⟩
  have hz : ((w.alloc (.map #[] 0)).alloc (.cells (fields (newE ep) (.slice none 0 0) w.heap.size) 66)).heap.size = w.heap.size + 2 := by simp
  refine ⟨rfl, ⟨.slice none 0 0, w.heap.size, Ok.new ep N, ⟨by omega, by omega⟩, ⟨by omega, by omega⟩, by omega, ?_, Sl.nil _ _ _, ?_⟩, (((Below.refl _ _).alloc (Nat.le_refl _) _).alloc (by simp) _)⟩
  · have := heap_alloc_new (w.alloc (.map #[] 0)) (.cells (fields (newE ep) (.slice none 0 0) w.heap.size) 66)
    rw [World.size_alloc] at this
    exact this
  · exact (MapIs.made w N).keep (Below.heap_alloc _ _ _ (by simp))

end Go.Proofs.Ytjlhipnlacfekaa.Wa
