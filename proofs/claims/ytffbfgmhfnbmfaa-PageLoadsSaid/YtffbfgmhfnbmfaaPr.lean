/- Pages in plain numbers: a stamp; what Get reads. -/
import Derived.Test.YtffbfgmhfnbmfaaX4
namespace Go.Proofs.Ytffbfgmhfnbmfaa
open Go.RowKit

theorem le_shift {F G : Nat → Nat} (n : Nat) : ∀ lo lo', (∀ j, j < n → F (lo + j) = G (lo' + j)) → le F lo n = le G lo' n := by
  induction n with
  | zero => intro lo lo' _; rfl
  | succ n ih =>
    intro lo lo' h
    simp only [le]
    rw [show F lo = G lo' from by have := h 0 (by omega); simpa using this, ih (lo + 1) (lo' + 1) fun j hj => by have := h (j + 1) (by omega); rw [show lo + 1 + j = lo + (j + 1) from by omega, show lo' + 1 + j = lo' + (j + 1) from by omega]; exact this]

theorem head_row (r x y P S : Nat) (h : r < 18446744073709551616) : le (head r x y P S) 0 8 = r := by
  unfold head
  rw [le_lay_out _ _ _ _ _ _ (by omega), le_lay_out _ _ _ _ _ _ (by omega), le_lay_out _ _ _ _ _ _ (by omega), le_lay_out _ _ _ _ _ _ (by omega), le_lay]
  exact Nat.mod_eq_of_lt (by rw [show (256 : Nat) ^ 8 = 18446744073709551616 from by decide]; exact h)

theorem head_x (r x y P S : Nat) (h : x < 18446744073709551616) : le (head r x y P S) 8 8 = x := by
  unfold head
  rw [le_lay_out _ _ _ _ _ _ (by omega), le_lay_out _ _ _ _ _ _ (by omega), le_lay_out _ _ _ _ _ _ (by omega), le_lay]
  exact Nat.mod_eq_of_lt (by rw [show (256 : Nat) ^ 8 = 18446744073709551616 from by decide]; exact h)

theorem head_y (r x y P S : Nat) (h : y < 18446744073709551616) : le (head r x y P S) 16 8 = y := by
  unfold head
  rw [le_lay_out _ _ _ _ _ _ (by omega), le_lay_out _ _ _ _ _ _ (by omega), le_lay]
  exact Nat.mod_eq_of_lt (by rw [show (256 : Nat) ^ 8 = 18446744073709551616 from by decide]; exact h)

theorem head_P (r x y P S : Nat) (h : P < 4294967296) : le (head r x y P S) 24 4 = P := by
  unfold head
  rw [le_lay_out _ _ _ _ _ _ (by omega), le_lay]
  exact Nat.mod_eq_of_lt (by rw [show (256 : Nat) ^ 4 = 4294967296 from by decide]; exact h)

theorem head_S (r x y P S : Nat) (h : S < 65536) : le (head r x y P S) 28 2 = S := by
  unfold head
  rw [le_lay]
  exact Nat.mod_eq_of_lt (by rw [show (256 : Nat) ^ 2 = 65536 from by decide]; exact h)

theorem Wf.le_ver {st : St} (h : Wf st) {k f : Nat} {v : Ver} (hk : st.slots[k]? = some (some (f, v))) (o n : Nat) (ho : o + n ≤ 30) : le (enc st) (f + o) n = le (head v.row v.x v.y v.P v.S) o n :=
  le_shift n _ _ fun j hj => by
    rw [h.at_data hk (by omega) (by unfold Ver.size; omega), show f + o + j - f = o + j from by omega]
    unfold Ver.byte
    rw [if_pos (by omega)]

/-- What Get tells of a version. -/
def GotPost (v : Ver) (w : World) (e : Ending) (w' : World) : Prop :=
  ∃ a c, e = .returned (.tuple #[tupV v.row v.x v.y ((v.P : Int) - 1) ((v.S : Int) - 1) (.slice (some a) v.data.length c), .bool true]) ∧
    Bytes w' (some a) v.data.length (fun j => v.data.getD j 0) ∧ w.heap.size ≤ a.block ∧ (a.spot = none ∧ a.block < w'.heap.size ∧ ∀ j, w'.frozen? ⟨a.block, j, none⟩ = false) ∧ Fresh w w'

theorem getD_lt {l : List Nat} (h : ∀ b ∈ l, b < 256) (j : Nat) : l.getD j 0 < 256 := by
  by_cases hj : j < l.length
  · rw [List.getD_eq_getElem?_getD, List.getElem?_eq_getElem hj, Option.getD_some]
    exact h _ (List.getElem_mem hj)
  · rw [List.getD_eq_getElem?_getD, List.getElem?_eq_none (by omega), Option.getD_none]; omega

theorem get_enc (b k f : Nat) (v : Ver) (st : St) (w : World) (hw : Byt w b 75 512 (enc st)) (hst : Wf st) (hk : st.slots[k]? = some (some (f, v))) :
    Calls Try.prog 19 #[.pointer (some ⟨b, 0, none⟩), .int .i64 k] w (GotPost v w) := by
  obtain ⟨hfr, hsz, hhas, hkl⟩ := wf_fromsiz hst hk
  have hv := (hst.inn k f v hk).2.2
  have h30 : 30 ≤ v.size := by unfold Ver.size; omega
  refine (get_yes b k _ w hw hst.fits hhas (by rw [hsz]; exact h30)).mono ?_
  rintro e w' ⟨a, c, he, hby, h1, h2, h3⟩
  rw [hfr, hsz] at he
  rw [hfr, hsz] at hby
  have e30 : v.size - 30 = v.data.length := by unfold Ver.size; omega
  have l0 := hst.le_ver hk 0 8 (by omega)
  have l1 := hst.le_ver hk 8 8 (by omega)
  have l2 := hst.le_ver hk 16 8 (by omega)
  have l3 := hst.le_ver hk 24 4 (by omega)
  have l4 := hst.le_ver hk 28 2 (by omega)
  rw [Nat.add_zero] at l0
  rw [l0, l1, l2, l3, l4, head_row _ _ _ _ _ (by have := hv.row; omega), head_x _ _ _ _ _ (by have := hv.x; omega), head_y _ _ _ _ _ (by have := hv.y; omega), head_P _ _ _ _ _ (by have := hv.P; omega), head_S _ _ _ _ _ (by have := hv.S; omega), e30] at he
  rw [e30] at hby
  refine ⟨a, c, he, hby.congr (fun j hj => ?_) (getD_lt hv.byte), h1, h2, h3⟩
  rw [hst.at_data hk (by omega) (by unfold Ver.size; omega), show f + 30 + j - f = 30 + j from by omega]
  unfold Ver.byte
  rw [if_neg (by omega), Nat.add_sub_cancel_left]

/-! Stamp. -/

def Ver.stamp (v : Ver) (y P S : Nat) : Ver := { v with y := y, P := P, S := S }

def stampA (st : St) (k y P S : Nat) : St := match st.slots.getD k none with
  | some (f, v) => ⟨st.slots.set k (some (f, v.stamp y P S)), st.start⟩
  | none => st

theorem stampA_eq {st : St} {k f : Nat} {v : Ver} (hk : st.slots[k]? = some (some (f, v))) (y P S : Nat) : stampA st k y P S = ⟨st.slots.set k (some (f, v.stamp y P S)), st.start⟩ := by
  unfold stampA; rw [getD_of hk]

theorem stamp_size (v : Ver) (y P S : Nat) : (v.stamp y P S).size = v.size := rfl

theorem stamp_ok_ver {v : Ver} (h : v.Ok) {y P S : Nat} (hy : y ≤ 1099511627776) (hP : P ≤ 65536) (hS : S ≤ 65535) : (v.stamp y P S).Ok := ⟨h.row, h.x, hy, hP, hS, h.len, h.byte⟩

theorem Wf.stamp {st : St} (h : Wf st) {k f : Nat} {v : Ver} (hk : st.slots[k]? = some (some (f, v))) {y P S : Nat} (hy : y ≤ 1099511627776) (hP : P ≤ 65536) (hS : S ≤ 65535) : Wf (stampA st k y P S) := by
  rw [stampA_eq hk]
  have hkl : k < st.slots.length := (List.getElem?_eq_some_iff.1 hk).1
  exact {
    low := by show 4 + 4 * (st.slots.set k _).length ≤ st.start; rw [List.length_set]; exact h.low
    high := h.high
    inn := fun k1 f1 v1 h1 => by
      rcases set_get h1 with ⟨_, e⟩ | ⟨_, e⟩
      · cases e
        have := h.inn k f v hk
        exact ⟨this.1, this.2.1, stamp_ok_ver this.2.2 hy hP hS⟩
      · exact h.inn k1 f1 v1 e
    apart := fun k1 k2 f1 v1 f2 v2 hlt h1 h2 => by
      rcases set_get h1 with ⟨e, e1⟩ | ⟨e, e1⟩
      · rcases set_get h2 with ⟨e', _⟩ | ⟨e', e2⟩
        · omega
        · cases e1
          exact h.apt k k2 f v f2 v2 (fun x => e' x.symm) hk e2
      · rcases set_get h2 with ⟨e', e2⟩ | ⟨e', e2⟩
        · cases e2
          exact h.apt k1 k f1 v1 f v e e1 hk
        · exact h.apart k1 k2 f1 v1 f2 v2 hlt e1 e2
    sum := by
      show 4 + sumS (st.slots.set k _) ≤ 512
      have := sumS_set (l := st.slots) (k := k) (t := some (f, v.stamp y P S)) hkl
      rw [getD_of hk] at this
      have h0 : sizeOfS (some (f, v)) = v.size := rfl
      have h1 : sizeOfS (some (f, v.stamp y P S)) = v.size := rfl
      have := h.sum
      omega }

theorem byte_low (v : Ver) {j : Nat} (h : j < 30) : v.byte j = head v.row v.x v.y v.P v.S j := by unfold Ver.byte; rw [if_pos h]
theorem byte_high (v : Ver) {j : Nat} (h : ¬ j < 30) : v.byte j = v.data.getD (j - 30) 0 := by unfold Ver.byte; rw [if_neg h]

theorem stamp_byte (v : Ver) (y P S j : Nat) : (v.stamp y P S).byte j = lay (lay (lay v.byte 16 y 8) 24 P 4) 28 S 2 j := by
  by_cases h30 : j < 30
  · rw [byte_low _ h30]
    show head v.row v.x y P S j = _
    simp only [head, lay]
    rw [byte_low v h30]
    simp only [head, lay]
    by_cases h1 : 28 ≤ j ∧ j < 28 + 2
    · rw [if_pos h1, if_pos h1]
    · rw [if_neg h1, if_neg h1]
      by_cases h2 : 24 ≤ j ∧ j < 24 + 4
      · rw [if_pos h2, if_pos h2]
      · rw [if_neg h2, if_neg h2]
        by_cases h3 : 16 ≤ j ∧ j < 16 + 8
        · rw [if_pos h3, if_pos h3]
        · rw [if_neg h3, if_neg h3, if_neg h1, if_neg h2, if_neg h3]
  · rw [byte_high _ h30]
    simp only [lay]
    rw [if_neg (by omega), if_neg (by omega), if_neg (by omega), byte_high v h30]
    rfl

theorem enc_stamp {st : St} (h : Wf st) {k f : Nat} {v : Ver} (hk : st.slots[k]? = some (some (f, v))) (y P S : Nat) : stamped (enc st) f y P S = enc (stampA st k y P S) := by
  rw [stampA_eq hk]
  have hin := h.inn k f v hk
  have hl := h.low
  have hv30 : 30 ≤ v.size := by unfold Ver.size; omega
  funext i
  have e0 : enc ⟨st.slots.set k (some (f, v.stamp y P S)), st.start⟩ i = over (enc st) f v.size (v.stamp y P S).byte i := by
    have : dataOf (st.slots.set k (some (f, v.stamp y P S))) = over (dataOf st.slots) f v.size (v.stamp y P S).byte := by
      funext j
      rw [dataOf_turn (v' := v.stamp y P S) hk rfl h.apt]
      rfl
    unfold enc
    rw [encG_over _ _ _ _ _ _ _ (by omega), ← this]
    have hkl : k < st.slots.length := (List.getElem?_eq_some_iff.1 hk).1
    show encG (st.slots.set k (some (f, v.stamp y P S))).length st.start _ _ i = encG st.slots.length st.start st.slots _ i
    rw [List.length_set]
    have e2 := encG_point st.slots.length st.start st.slots (dataOf (st.slots.set k (some (f, v.stamp y P S)))) k (some (f, v.stamp y P S)) hkl
    rw [← e2]
    have hfr := fun r (hr : r < 4) => encG_ptr st.slots.length st.start st.slots (dataOf (st.slots.set k (some (f, v.stamp y P S)))) k r hkl hr
    simp only [lay]
    by_cases h1 : 4 + 4 * k + 2 ≤ i ∧ i < 4 + 4 * k + 2 + 2
    · rw [if_pos h1]
      obtain ⟨r, rfl, hr⟩ : ∃ r, i = 4 + 4 * k + (r + 2) ∧ r < 2 := ⟨i - (4 + 4 * k + 2), by omega, by omega⟩
      rw [hfr (r + 2) (by omega), getD_of hk, ptrByte_size, show 4 + 4 * k + (r + 2) - (4 + 4 * k + 2) = r from by omega]
      rfl
    · rw [if_neg h1]
      by_cases h2 : 4 + 4 * k ≤ i ∧ i < 4 + 4 * k + 2
      · rw [if_pos h2]
        obtain ⟨r, rfl, hr⟩ : ∃ r, i = 4 + 4 * k + r ∧ r < 2 := ⟨i - (4 + 4 * k), by omega, by omega⟩
        rw [hfr r (by omega), getD_of hk, ptrByte_from _ _ hr, show 4 + 4 * k + r - (4 + 4 * k) = r from by omega]
        rfl
      · rw [if_neg h2]
  rw [e0]
  unfold over
  by_cases hi : f ≤ i ∧ i < f + v.size
  · rw [if_pos hi, stamp_byte v y P S (i - f)]
    simp only [stamped, lay]
    by_cases h1 : f + 28 ≤ i ∧ i < f + 28 + 2
    · rw [if_pos h1, if_pos (show 28 ≤ i - f ∧ i - f < 28 + 2 from by omega), show i - (f + 28) = i - f - 28 from by omega]
    · rw [if_neg h1, if_neg (show ¬ (28 ≤ i - f ∧ i - f < 28 + 2) from by omega)]
      by_cases h2 : f + 24 ≤ i ∧ i < f + 24 + 4
      · rw [if_pos h2, if_pos (show 24 ≤ i - f ∧ i - f < 24 + 4 from by omega), show i - (f + 24) = i - f - 24 from by omega]
      · rw [if_neg h2, if_neg (show ¬ (24 ≤ i - f ∧ i - f < 24 + 4) from by omega)]
        by_cases h3 : f + 16 ≤ i ∧ i < f + 16 + 8
        · rw [if_pos h3, if_pos (show 16 ≤ i - f ∧ i - f < 16 + 8 from by omega), show i - (f + 16) = i - f - 16 from by omega]
        · rw [if_neg h3, if_neg (show ¬ (16 ≤ i - f ∧ i - f < 16 + 8) from by omega)]
          exact h.at_data hk hi.1 hi.2
  · rw [if_neg hi]
    simp only [stamped, lay]
    rw [if_neg (by omega), if_neg (by omega), if_neg (by omega)]

theorem stamp_enc (b k f : Nat) (v : Ver) (st : St) (x P S : Nat) (w : World) (hw : Byt w b 75 512 (enc st)) (hst : Wf st) (hk : st.slots[k]? = some (some (f, v))) (hx0 : x ≤ 1099511627776) (hP : P ≤ 65536) (hS : S ≤ 65535) (hfar : farB ((P : Int) - 1) ((S : Int) - 1) = false) :
    Calls Try.prog 17 #[.pointer (some ⟨b, 0, none⟩), .int .i64 k, .int .u64 x, .agg #[.int .i64 ((P : Int) - 1), .int .i64 ((S : Int) - 1)]] w (Became b (stampA st k x P S) (.int .i64 0) w) := by
  obtain ⟨hfr, hsz, hhas, hkl⟩ := wf_fromsiz hst hk
  have h30 : 30 ≤ v.size := by unfold Ver.size; omega
  refine (stamp_ok b _ (k : Int) x P S w hw hst.fits hx0 hP hS hfar (by unfold hasI; rw [Int.toNat_natCast, hhas]; simp) (by rw [Int.toNat_natCast, hsz]; exact h30)).mono ?_
  rintro e w' ⟨rfl, h1, h2⟩
  rw [Int.toNat_natCast, hfr, enc_stamp hst hk] at h1
  exact ⟨rfl, h1, h2⟩

end Go.Proofs.Ytffbfgmhfnbmfaa
