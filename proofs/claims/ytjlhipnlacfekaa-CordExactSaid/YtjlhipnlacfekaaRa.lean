/-
  The reference's lists of numbered texts: 'find', 'above'.
-/
import Derived.Test.YtjlhipnlacfekaaTd
namespace Go.Proofs.Ytjlhipnlacfekaa.Rf
open Go.RowKit Go.Maps Go.Proofs.Ytjlhipnlacfekaa.Md Go.Proofs.Ytjlhipnlacfekaa.Hp Go.Proofs.Ytjlhipnlacfekaa.Rp Go.Proofs.Ytjlhipnlacfekaa.Lbl Go.Proofs.Ytjlhipnlacfekaa.Wa Go.Proofs.Ytjlhipnlacfekaa.Tm
set_option linter.unusedSimpArgs false
set_option linter.unusedVariables false

abbrev Tx := Int × ByteArray
def txc (x : Tx) : List Value := [.int .i64 x.1, .string x.2]
def tcells (l : List Tx) : List Value := l.flatMap txc
theorem tcells_length (l : List Tx) : (tcells l).length = l.length * 2 := by
  induction l with
  | nil => rfl
  | cons g l ih =>
    unfold tcells at ih ⊢
    rw [List.flatMap_cons, List.length_append, ih, List.length_cons]
    show 2 + _ = _
    omega
theorem tcells_append (a b : List Tx) : tcells (a ++ b) = tcells a ++ tcells b := by simp [tcells]
theorem tcells_at : ∀ (l : List Tx) (i f : Nat) (s : Tx), l[i]? = some s → f < 2 → (tcells l)[i * 2 + f]? = (txc s)[f]?
  | [], i, f, s, h, _ => by simp at h
  | x :: l, 0, f, s, h, hf => by
    simp at h
    subst h
    show (txc x ++ tcells l)[0 * 2 + f]? = _
    rw [List.getElem?_append_left (by show 0 * 2 + f < 2; omega), Nat.zero_mul, Nat.zero_add]
  | x :: l, i + 1, f, s, h, hf => by
    show (txc x ++ tcells l)[(i + 1) * 2 + f]? = _
    rw [List.getElem?_append_right (by show 2 ≤ (i + 1) * 2 + f; omega)]
    rw [show (i + 1) * 2 + f - (txc x).length = i * 2 + f by show (i + 1) * 2 + f - 2 = _; omega]
    exact tcells_at l i f s (by simpa using h) hf
def fnd : List Tx → Int → Option ByteArray
  | [], _ => none
  | x :: l, n => if x.1 = n then some x.2 else fnd l n
def abv (l : List Tx) (n : Int) : List Tx := l.filter fun x => decide (n < x.1)
theorem info71 : (Try.prog.info? 71).map (fun i => (i.zero, i.size, i.bytes)) = some (some (.agg #[.int .i64 0, .string ⟨#[]⟩]), 2, 24) := by kernel_rfl

/-- The two cells of the i-th. -/
theorem tx_cells {w : World} {ao : Option Addr} {n cap : Nat} {l : List Tx} {F : Nat → Prop} (h : Sl w 2 (.slice ao n cap) n (tcells l) F) {i : Nat} {x : Tx} (hx : l[i]? = some x) (hn : l.length = n) :
    ∃ b o, ao = some ⟨b, o, none⟩ ∧ w.cell? ⟨b, o + i * 2, none⟩ = some (.int .i64 x.1) ∧ w.cell? ⟨b, o + i * 2 + 1, none⟩ = some (.string x.2) := by
  have hlt := (List.getElem?_eq_some_iff.1 hx).1
  obtain ⟨b, o, c, e, _, _, _, hc⟩ := h.form (by omega)
  injection e with e _ _
  exact ⟨b, o, e, hc (i * 2 + 0) _ (by rw [tcells_at l i 0 x hx (by decide)]; rfl), by rw [Nat.add_assoc]; exact hc (i * 2 + 1) _ (by rw [tcells_at l i 1 x hx (by decide)]; rfl)⟩

set_option maxHeartbeats 1000000 in
theorem find_any {w : World} {v : Value} {l : List Tx} {F : Nat → Prop} (h : Sl w 2 v l.length (tcells l) F) (hl : l.length ≤ 100000000) (n : Int) :
    Calls Try.prog 30 #[v, .int .i64 n] w fun e w' => e = .returned (.tuple #[.string ((fnd l n).getD ⟨#[]⟩), .bool (fnd l n).isSome]) ∧ w = w' := by
  obtain ⟨ao, cap, rfl⟩ := h.slice
  have HS := Lib.hid h
  obtain ⟨r, hr⟩ : ∃ r, r = fnd l n := ⟨_, rfl⟩
  rw [← hr]
  have HR := Lib.hid hr
  clear h hr
  go_enter Try.func30, Try.ntmps30
  go_wp2_with fail
  go_loopg [6] l.length (fun kq v6 wr => ∃ i : Nat, v6 = .int .i64 (i : Int) ∧ kq + i ≤ l.length ∧ l.length ≤ kq + i ∧ Hid (r = fnd (l.drop i) n) ∧ wr = w)
  case atStart => exact ⟨0, rfl, by omega, by omega, HR, rfl⟩
  case round =>
    clear HR
    obtain ⟨i, rfl, hk1, hk2, HR, rfl⟩ := hrel
    by_cases hi : i < l.length
    · obtain ⟨x, hx⟩ : ∃ x, l[i]? = some x := ⟨_, List.getElem?_eq_getElem hi⟩
      obtain ⟨b, o, rfl, x0, x1⟩ := tx_cells HS.out hx rfl
      have hd : l.drop i = x :: l.drop (i + 1) := by rw [List.drop_eq_getElem_cons hi]; congr 1; exact Option.some.inj ((List.getElem?_eq_getElem hi).symm.trans hx)
      have HR2 := HR.out
      rw [hd] at HR2
      unfold fnd at HR2
      clear hx hd HR
      obtain ⟨k, s⟩ := x
      by_cases hk : k = n
      · subst hk
        rw [if_pos rfl] at HR2
        subst HR2
        go_wp2_with fail
        go_ret2
        exact ⟨rfl, rfl⟩
      · rw [if_neg hk] at HR2
        have HR3 := Lib.hid HR2
        have hkb : (k == n) = false := beq_eq_false_iff_ne.2 hk
        clear HR2
        go_wp2_with fail
        go_roundg (gk - 1)
        case measure => omega
        case rel => exact ⟨i + 1, by go_num, by omega, by omega, HR3, rfl⟩
    · have : gk = 0 := by omega
      subst this
      have HR2 := HR.out
      rw [List.drop_eq_nil_of_le (by omega)] at HR2
      unfold fnd at HR2
      subst HR2
      go_wp2_with fail
      go_ret2
      exact ⟨rfl, rfl⟩

theorem one_tx (k : Int) (s : ByteArray) : ∀ x ∈ (#[.int .i64 k, .string s] : Array Value).toList, x.oneCell' = true := by
  intro x hx
  simp only [List.mem_cons, List.not_mem_nil, or_false] at hx
  rcases hx with rfl | rfl <;> rfl
theorem abv_snoc {l : List Tx} {i : Nat} {x : Tx} (h : l[i]? = some x) (n : Int) : abv (l.take (i + 1)) n = abv (l.take i) n ++ (if n < x.1 then [x] else []) := by
  unfold abv
  rw [List.take_add_one, h, List.filter_append]
  congr 1
  by_cases hx : n < x.1
  · simp [hx]
  · simp [hx]
theorem abv_len (l : List Tx) (n : Int) : (abv l n).length ≤ l.length := List.length_filter_le _ _

theorem abv_grown {w wr w6 : World} {l : List Tx} {i m : Nat} {k n : Int} {s : ByteArray} {v : Value} {o : Obj} (hs : abv (l.take (i + 1)) n = abv (l.take i) n ++ (if n < k then [(k, s)] else [])) (hk : n < k) (hm : (abv (l.take i) n).length = m) (hz : w.heap.size ≤ wr.heap.size)
    (h : Sl w6 2 v (m + 1) (tcells (abv (l.take i) n) ++ (#[.int .i64 k, .string s] : Array Value).toList) (Grow (New w wr) (wr.alloc o) w6)) : Sl w6 2 v (abv (l.take (i + 1)) n).length (tcells (abv (l.take (i + 1)) n)) (New w w6) := by
  have hl : (abv (l.take (i + 1)) n).length = m + 1 := by rw [hs, if_pos hk, List.length_append, hm]; rfl
  have ht : tcells (abv (l.take (i + 1)) n) = tcells (abv (l.take i) n) ++ (#[.int .i64 k, .string s] : Array Value).toList := by rw [hs, if_pos hk, tcells_append]; rfl
  rw [hl, ht]
  refine h.mono fun b hb hf => ⟨?_, hb⟩
  rcases hf with ⟨a, _⟩ | ⟨a, _⟩
  · exact a.1
  · rw [World.size_alloc] at a; omega
theorem abv_below {w wr w6 : World} {o : Obj} (hb : Below w.heap.size w wr) (hc : Chg (New w wr) (wr.alloc o) w6) : Below w.heap.size w w6 := by
  have := hb.size
  exact (hb.alloc this o).trans (hc.below (by rw [World.size_alloc]; omega) fun k hk hn => by have := hn.1; omega)
/-- 'above': a new list. -/
theorem above_any {w : World} {v : Value} {l : List Tx} {F : Nat → Prop} (h : Sl w 2 v l.length (tcells l) F) (hl : l.length ≤ 1000000) (n : Int) :
    Calls Try.prog 29 #[v, .int .i64 n] w fun e w' => ∃ v', e = .returned v' ∧ Sl w' 2 v' (abv l n).length (tcells (abv l n)) (New w w') ∧ Below w.heap.size w w' := by
  obtain ⟨ao, cap, rfl⟩ := h.slice
  have HS := Lib.hid h
  clear h
  go_enter Try.func29, Try.ntmps29
  go_wp2_with fail
  have HX0 : Hid (Sl (w.alloc (.cells #[] 71)) 2 (.slice (some ⟨w.heap.size, 0, none⟩) 0 0) (abv (l.take 0) n).length (tcells (abv (l.take 0) n)) (New w (w.alloc (.cells #[] 71)))) := Lib.hid ⟨by simp [abv, tcells], _, _, rfl, .inl ⟨rfl, rfl⟩⟩
  have HB0 := Lib.hid ((Below.refl w.heap.size w).alloc (Nat.le_refl _) (.cells #[] 71))
  generalize w.alloc (.cells #[] 71) = w1 at HX0 HB0 ⊢
  obtain ⟨bz, hbz⟩ : ∃ bz, bz = w.heap.size := ⟨_, rfl⟩
  rw [← hbz] at HX0 ⊢
  have HBZ := Lib.hid hbz
  clear hbz
  go_loopg [5, 6] l.length (fun kq v5 v6 wr => ∃ i : Nat, v6 = .int .i64 (i : Int) ∧ kq + i ≤ l.length ∧ l.length ≤ kq + i ∧ Hid (Sl wr 2 v5 (abv (l.take i) n).length (tcells (abv (l.take i) n)) (New w wr)) ∧ Hid (Below w.heap.size w wr))
  case atStart => exact ⟨0, rfl, by omega, by omega, HX0, HB0⟩
  case round =>
    clear HX0 HB0
    obtain ⟨i, rfl, hk1, hk2, HX, HB⟩ := hrel
    obtain ⟨a5, c5, rfl⟩ := HX.out.slice
    by_cases hi : i < l.length
    · obtain ⟨x, hx⟩ : ∃ x, l[i]? = some x := ⟨_, List.getElem?_eq_getElem hi⟩
      obtain ⟨b, o, rfl, x0, x1⟩ := tx_cells (HS.out.keep HB.out.size fun b hb _ => HB.out.block b hb) hx rfl
      have HSN := Lib.hid (abv_snoc hx n)
      obtain ⟨k, s⟩ := x
      clear hx
      by_cases hk : n < k
      · have hkd : decide (n < k) = true := decide_eq_true hk
        have hlen : (abv (l.take i) n).length ≤ 1000000 := by have := abv_len (l.take i) n; rw [List.length_take] at this; omega
        have q1 : (abv (l.take i) n).length + 1 ≤ maxLen := by unfold maxLen; omega
        have q2 : ((abv (l.take i) n).length + 1) * 24 ≤ 140737488355328 := by omega
        have HX2 := Lib.hid (sl_box HX.out (.cells #[.int .i64 k, .string s] 71))
        generalize hm : (abv (l.take i) n).length = m at HX2 hlen q1 q2 ⊢
        have HM := Lib.hid hm
        have HXA := HX
        clear hm HX
        go_wp2_with (at_builtin; refine wpList_append_sl _ rfl _ _ 55 rfl 71 _ 2 24 Try.underlying55 info71 rfl (by decide) rfl rfl HX2.out (src_many wr #[.int .i64 k, .string s] 71) rfl (one_tx k s) q1 q2 ?_; intro v6 w6 hsl hch; have HX3 := Lib.hid hsl; have HC3 := Lib.hid hch; clear hsl hch q1 q2)
        go_roundg (gk - 1)
        case measure => omega
        case rel => exact ⟨i + 1, by go_num, by omega, by omega, Lib.hid (abv_grown HSN.out hk HM.out HB.out.size HX3.out), Lib.hid (abv_below HB.out HC3.out)⟩
      · have hkd : decide (n < k) = false := decide_eq_false hk
        have he : abv (l.take (i + 1)) n = abv (l.take i) n := by rw [HSN.out, if_neg hk, List.append_nil]
        go_wp2_with fail
        go_roundg (gk - 1)
        case measure => omega
        case rel => exact ⟨i + 1, by go_num, by omega, by omega, by rw [he]; exact HX, HB⟩
    · have : gk = 0 := by omega
      subst this
      obtain rfl : i = l.length := by omega
      go_wp2_with fail
      go_ret
      refine ⟨.slice a5 (abv (List.take l.length l) n).length c5, rfl, ?_, HB.out⟩
      simpa only [List.take_length] using HX.out

end Go.Proofs.Ytjlhipnlacfekaa.Rf
