/-
  'Texts' and 'begins': whether two lists of texts are the same; whether one is the beginning of the other.
-/
import Derived.Test.YtjlhipnlacfekaaTm
import Derived.Deep.LoopGhost
import Derived.BigQuiet
namespace Go.Proofs.Ytjlhipnlacfekaa.Tm
open Go.RowKit Go.Maps Go.Proofs.Ytjlhipnlacfekaa.Md Go.Proofs.Ytjlhipnlacfekaa.Hp Go.Proofs.Ytjlhipnlacfekaa.Rp Go.Proofs.Ytjlhipnlacfekaa.Lbl Go.Proofs.Ytjlhipnlacfekaa.Wa
set_option linter.unusedSimpArgs false
set_option linter.unusedVariables false

/-- The world as it was, but for draws. -/
def Sm (w w' : World) : Prop := ∃ m, w' = w.drewN m
theorem Sm.refl (w : World) : Sm w w := ⟨0, rfl⟩
theorem Sm.drewN {a b : World} (h : Sm a b) (n : Nat) : Sm a (b.drewN n) := by
  obtain ⟨m, rfl⟩ := h
  exact ⟨m + n, by rw [World.drewN_drewN]⟩
theorem Sm.cell {a b : World} (h : Sm a b) (x : Addr) : b.cell? x = a.cell? x := by
  obtain ⟨m, rfl⟩ := h
  rfl

set_option maxHeartbeats 1000000 in
theorem texts_same {w : World} {va vb : Value} {l : List ByteArray} {F G : Nat → Prop} (ha : Sl w 1 va l.length (l.map .string) F) (hb : Sl w 1 vb l.length (l.map .string) G) (hl : l.length ≤ 100000000) :
    Calls Try.prog 23 #[va, vb] w fun e w' => e = .returned (.bool true) ∧ Sm w w' := by
  by_cases h0 : l.length = 0
  · rw [h0] at ha hb
    obtain ⟨aa, ca, rfl⟩ := ha.slice
    obtain ⟨ab, cb, rfl⟩ := hb.slice
    clear ha hb
    go_enter Try.func23, Try.ntmps23
    go_wp2_with fail
    go_loopg [5] 0 (fun kq v5 wr => v5 = .int .i64 0 ∧ Hid (Sm w wr))
    case atStart => exact ⟨rfl, Lib.hid (Sm.refl w)⟩
    case round =>
      obtain ⟨rfl, HS⟩ := hrel
      go_wp2_with fail
      go_ret
      exact ⟨rfl, HS.out⟩
  · obtain ⟨ba, oa, ca, rfl, _, _, _, hxa⟩ := ha.form (by omega)
    obtain ⟨bb, ob, cb, rfl, _, _, _, hxb⟩ := hb.form (by omega)
    have HA := Lib.hid hxa
    have HB := Lib.hid hxb
    clear ha hb hxa hxb h0
    go_enter Try.func23, Try.ntmps23
    go_wp2_with fail
    go_loopg [5] l.length (fun kq v5 wr => ∃ i : Nat, v5 = .int .i64 (i : Int) ∧ kq + i ≤ l.length ∧ l.length ≤ kq + i ∧ Hid (Sm w wr))
    case atStart => exact ⟨0, rfl, by omega, by omega, Lib.hid (Sm.refl w)⟩
    case round =>
      obtain ⟨i, rfl, hk1, hk2, HS⟩ := hrel
      by_cases hi : i < l.length
      · obtain ⟨s, hs⟩ : ∃ s, (l.map Value.string)[i]? = some (.string s) := ⟨l[i], by rw [List.getElem?_map, List.getElem?_eq_getElem hi]; rfl⟩
        have x1 : wr.cell? ⟨ba, oa + i, none⟩ = some (.string s) := (HS.out.cell _).trans (HA.out i _ hs)
        have x2 : wr.cell? ⟨bb, ob + i, none⟩ = some (.string s) := (HS.out.cell _).trans (HB.out i _ hs)
        clear hs
        go_wp2_with fail
        go_quiet (fail)
        go_wp2_with fail
        go_roundg (gk - 1)
        case measure => omega
        case rel => exact ⟨i + 1, by go_num, by omega, by omega, Lib.hid (HS.out.drewN _)⟩
      · have : gk = 0 := by omega
        subst this
        go_wp2_with fail
        go_ret
        exact ⟨rfl, HS.out⟩

/-- v[:k] -/
theorem sl_take {w : World} {v : Value} {l : List ByteArray} {F : Nat → Prop} {ao : Option Addr} {cap : Nat} (h : Sl w 1 (.slice ao l.length cap) l.length (l.map .string) F) (k : Nat) (hk : k ≤ l.length) :
    Sl w 1 (.slice ao k cap) (l.take k).length ((l.take k).map .string) F := by
  obtain ⟨h1, ao', cap', e, h2⟩ := h
  injection e with e1 e2 e3
  subst e1 e3
  have hkl : (l.take k).length = k := by rw [List.length_take]; omega
  rw [hkl]
  refine ⟨by simp; omega, ao, cap, rfl, ?_⟩
  rcases h2 with ⟨a, b⟩ | ⟨b, off, e, hf, hb, hc, hm, hx, hs, hz⟩
  · exact .inl ⟨by omega, b⟩
  · refine .inr ⟨b, off, e, hf, hb, by omega, hm, fun j u hj => hx j u ?_, hs, hz⟩
    rw [List.getElem?_map] at hj ⊢
    rw [List.getElem?_take] at hj
    split at hj
    · exact hj
    · cases hj

set_option maxHeartbeats 1000000 in
theorem begins_true {w : World} {va vb : Value} {la lb : List ByteArray} {F G : Nat → Prop} (ha : Sl w 1 va la.length (la.map .string) F) (hb : Sl w 1 vb lb.length (lb.map .string) G) (hl : lb.length ≤ 100000000) (hle : la.length ≤ lb.length) (he : la = lb.take la.length) :
    Calls Try.prog 26 #[va, vb] w fun e w' => e = .returned (.bool true) ∧ Sm w w' := by
  obtain ⟨aa, ca, rfl⟩ := ha.slice
  obtain ⟨ab, cb, rfl⟩ := hb.slice
  have hx := sl_take (v := .slice none 0 0) hb la.length hle
  rw [← he] at hx
  have HT := Lib.hid (texts_same ha hx (by omega))
  clear ha hx he
  have hd : decide (la.length ≤ lb.length) = true := decide_eq_true hle
  have hcap : la.length ≤ cb := by
    obtain ⟨_, ao, cap, e, hc⟩ := hb
    injection e with e1 e2 e3
    subst e3
    rcases hc with ⟨a, b⟩ | ⟨_, _, _, _, _, h, _⟩ <;> omega
  go_enter Try.func26, Try.ntmps26
  go_wp2_with fail
  refine HT.out.mono ?_
  rintro e w1 ⟨rfl, hs⟩
  have HS := Lib.hid hs
  clear hs
  go_wp2_with fail
  go_ret
  exact ⟨rfl, HS.out⟩

end Go.Proofs.Ytjlhipnlacfekaa.Tm
