/-
  'Same': whether two lists of datagrams are the same.
-/
import Derived.Test.YtjlhipnlacfekaaTe
import Derived.Test.YtjlhipnlacfekaaTd
namespace Go.Proofs.Ytjlhipnlacfekaa.Rf
open Go.RowKit Go.Maps Go.Proofs.Ytjlhipnlacfekaa.Md Go.Proofs.Ytjlhipnlacfekaa.Hp Go.Proofs.Ytjlhipnlacfekaa.Rp Go.Proofs.Ytjlhipnlacfekaa.Lbl Go.Proofs.Ytjlhipnlacfekaa.Wa Go.Proofs.Ytjlhipnlacfekaa.Tm
set_option linter.unusedSimpArgs false
set_option linter.unusedVariables false

/-- The six cells of the i-th. -/
theorem gr_cells {w : World} {ao : Option Addr} {cap : Nat} {l : List Gr} {F : Nat → Prop} (h : Sl w 6 (.slice ao l.length cap) l.length (gcells l) F) {i : Nat} {g : Gr} (hx : l[i]? = some g) :
    ∃ b o, ao = some ⟨b, o, none⟩ ∧ ∀ f u, f < 6 → (Gr.cells g)[f]? = some u → w.cell? ⟨b, o + i * 6 + f, none⟩ = some u := by
  have hlt := (List.getElem?_eq_some_iff.1 hx).1
  obtain ⟨b, o, c, e, _, _, _, hc⟩ := h.form (by omega)
  injection e with e _ _
  exact ⟨b, o, e, fun f u hf hu => by rw [Nat.add_assoc]; exact hc (i * 6 + f) _ (by rw [gcells_at l i f g hx hf]; exact hu)⟩

set_option maxHeartbeats 1000000 in
theorem same_true {w : World} {va vb : Value} {l : List Gr} {F G : Nat → Prop} (ha : Sl w 6 va l.length (gcells l) F) (hb : Sl w 6 vb l.length (gcells l) G) (hl : l.length ≤ 100000000) :
    Calls Try.prog 20 #[va, vb] w fun e w' => e = .returned (.bool true) ∧ Sm w w' := by
  obtain ⟨aa, ca, rfl⟩ := ha.slice
  obtain ⟨ab, cb, rfl⟩ := hb.slice
  have HA := Lib.hid ha
  have HB := Lib.hid hb
  clear ha hb
  go_enter Try.func20, Try.ntmps20
  go_wp2_with fail
  go_loopg [5] l.length (fun kq v5 wr => ∃ i : Nat, v5 = .int .i64 (i : Int) ∧ kq + i ≤ l.length ∧ l.length ≤ kq + i ∧ Hid (Sm w wr))
  case atStart => exact ⟨0, rfl, by omega, by omega, Lib.hid (Sm.refl w)⟩
  case round =>
    obtain ⟨i, rfl, hk1, hk2, HS⟩ := hrel
    by_cases hi : i < l.length
    · obtain ⟨g, hg⟩ : ∃ g, l[i]? = some g := ⟨_, List.getElem?_eq_getElem hi⟩
      obtain ⟨b1, o1, rfl, h1⟩ := gr_cells HA.out hg
      obtain ⟨b2, o2, rfl, h2⟩ := gr_cells HB.out hg
      obtain ⟨c, u, ep, sq, ak, b⟩ := g
      have x0 : wr.cell? ⟨b1, o1 + i * 6, none⟩ = _ := (HS.out.cell _).trans (h1 0 _ (by decide) rfl)
      have x1 : wr.cell? ⟨b1, o1 + i * 6 + 1, none⟩ = _ := (HS.out.cell _).trans (h1 1 _ (by decide) rfl)
      have x2 : wr.cell? ⟨b1, o1 + i * 6 + 2, none⟩ = _ := (HS.out.cell _).trans (h1 2 _ (by decide) rfl)
      have x3 : wr.cell? ⟨b1, o1 + i * 6 + 3, none⟩ = _ := (HS.out.cell _).trans (h1 3 _ (by decide) rfl)
      have x4 : wr.cell? ⟨b1, o1 + i * 6 + 4, none⟩ = _ := (HS.out.cell _).trans (h1 4 _ (by decide) rfl)
      have x5 : wr.cell? ⟨b1, o1 + i * 6 + 5, none⟩ = _ := (HS.out.cell _).trans (h1 5 _ (by decide) rfl)
      have y0 : wr.cell? ⟨b2, o2 + i * 6, none⟩ = _ := (HS.out.cell _).trans (h2 0 _ (by decide) rfl)
      have y1 : wr.cell? ⟨b2, o2 + i * 6 + 1, none⟩ = _ := (HS.out.cell _).trans (h2 1 _ (by decide) rfl)
      have y2 : wr.cell? ⟨b2, o2 + i * 6 + 2, none⟩ = _ := (HS.out.cell _).trans (h2 2 _ (by decide) rfl)
      have y3 : wr.cell? ⟨b2, o2 + i * 6 + 3, none⟩ = _ := (HS.out.cell _).trans (h2 3 _ (by decide) rfl)
      have y4 : wr.cell? ⟨b2, o2 + i * 6 + 4, none⟩ = _ := (HS.out.cell _).trans (h2 4 _ (by decide) rfl)
      have y5 : wr.cell? ⟨b2, o2 + i * 6 + 5, none⟩ = _ := (HS.out.cell _).trans (h2 5 _ (by decide) rfl)
      clear hg h1 h2
      go_wp2_with fail
      go_quiet (fail)
      go_wp2_with fail
      go_roundg (gk - 1)
      case measure => omega
      case rel => exact ⟨i + 1, by go_num, by omega, by omega, Lib.hid (HS.out.drewN _)⟩
    · have : gk = 0 := by omega
      subst this
      go_wp2_with fail
      go_ret
      exact ⟨rfl, HS.out⟩

end Go.Proofs.Ytjlhipnlacfekaa.Rf
