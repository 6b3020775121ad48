/- Pages in plain numbers: what goes, what comes, and all versions moved to the end. -/
import Derived.Test.YtffbfgmhfnbmfaaPn
import Derived.Test.YtffbfgmhfnbmfaaBd
namespace Go.Proofs.Ytffbfgmhfnbmfaa

theorem encG_high (c s : Nat) (l : List Slot) (data : Nat → Nat) (i : Nat) (h : 4 + 4 * l.length ≤ i) : encG c s l data i = data i := by
  unfold encG; rw [if_neg (by omega), if_neg (by omega), if_neg (by omega)]

theorem Wf.at_data {st : St} (h : Wf st) {k f i : Nat} {v : Ver} (hk : st.slots[k]? = some (some (f, v))) (h1 : f ≤ i) (h2 : i < f + v.size) : enc st i = v.byte (i - f) := by
  have hi := (h.inn k f v hk).1
  have hl := h.low
  unfold enc
  rw [encG_high _ _ _ _ _ (by omega)]
  exact dataOf_own h.apt hk h1 h2

theorem Wf.low_zero {st : St} (h : Wf st) {i : Nat} (h2 : i < st.start) : dataOf st.slots i = 0 :=
  dataOf_none fun k f v hk hh => by have := (h.inn k f v hk).1; omega

theorem encG_wiped (c s : Nat) (l : List Slot) (data : Nat → Nat) (off n : Nat) (h : 4 + 4 * l.length ≤ off) : wiped (encG c s l data) off n = encG c s l (wiped data off n) := by
  funext i
  by_cases hi : 4 + 4 * l.length ≤ i
  · rw [encG_high _ _ _ _ _ hi]
    unfold wiped
    rw [encG_high _ _ _ _ _ hi]
  · unfold wiped
    rw [if_neg (by omega)]
    unfold encG
    by_cases h1 : i < 2
    · rw [if_pos h1, if_pos h1]
    · by_cases h2 : i < 4
      · rw [if_neg h1, if_neg h1, if_pos h2, if_pos h2]
      · rw [if_neg h1, if_neg h1, if_neg h2, if_neg h2, if_pos (by omega), if_pos (by omega)]

theorem encG_over (c s : Nat) (l : List Slot) (data : Nat → Nat) (off n : Nat) (d : Nat → Nat) (h : 4 + 4 * l.length ≤ off) : over (encG c s l data) off n d = encG c s l (over data off n d) := by
  funext i
  by_cases hi : 4 + 4 * l.length ≤ i
  · rw [encG_high _ _ _ _ _ hi]
    unfold over
    rw [encG_high _ _ _ _ _ hi]
  · unfold over
    rw [if_neg (by omega)]
    unfold encG
    by_cases h1 : i < 2
    · rw [if_pos h1, if_pos h1]
    · by_cases h2 : i < 4
      · rw [if_neg h1, if_neg h1, if_pos h2, if_pos h2]
      · rw [if_neg h1, if_neg h1, if_neg h2, if_neg h2, if_pos (by omega), if_pos (by omega)]

theorem over_congr {f d d' : Nat → Nat} {off n : Nat} (h : ∀ j, j < n → d j = d' j) : over f off n d = over f off n d' := by
  funext i
  unfold over
  by_cases hi : off ≤ i ∧ i < off + n
  · rw [if_pos hi, if_pos hi, h _ (by omega)]
  · rw [if_neg hi, if_neg hi]

theorem sumS_set {l : List Slot} {k : Nat} {t : Slot} (hk : k < l.length) : sumS (l.set k t) + sizeOfS (l.getD k none) = sumS l + sizeOfS t := by
  induction l generalizing k with
  | nil => simp at hk
  | cons s l ih =>
    cases k with
    | zero => simp [sumS]; omega
    | succ k =>
      have := ih (k := k) (by simpa using hk)
      simp only [sumS, List.set_cons_succ, List.map_cons, List.sum_cons, List.getD_cons_succ] at this ⊢
      omega

theorem sumS_append (l m : List Slot) : sumS (l ++ m) = sumS l + sumS m := by simp [sumS]

/-! Free. -/

theorem enc_clear {st : St} (h : Wf st) {k f : Nat} {v : Ver} (hk : st.slots[k]? = some (some (f, v))) :
    lay (lay (wiped (enc st) f v.size) (4 + 4 * k) 0 2) (4 + 4 * k + 2) 0 2 = enc ⟨st.slots.set k none, st.start⟩ := by
  have hkl : k < st.slots.length := (List.getElem?_eq_some_iff.1 hk).1
  have hi := (h.inn k f v hk).1
  have hl := h.low
  have e1 : wiped (enc st) f v.size = encG st.slots.length st.start st.slots (dataOf (st.slots.set k none)) := by
    unfold enc
    rw [encG_wiped _ _ _ _ _ _ (by omega)]
    congr 1
    funext i
    rw [dataOf_clear hk h.apt]
    rfl
  have e2 := encG_point st.slots.length st.start st.slots (dataOf (st.slots.set k none)) k none hkl
  rw [e1]
  simp only [fromOf, sizeOfS] at e2
  rw [e2]
  unfold enc
  rw [List.length_set]

theorem Wf.clear {st : St} (h : Wf st) {k f : Nat} {v : Ver} (hk : st.slots[k]? = some (some (f, v))) : Wf ⟨st.slots.set k none, st.start⟩ where
  low := by show 4 + 4 * (st.slots.set k none).length ≤ st.start; rw [List.length_set]; exact h.low
  high := h.high
  inn := fun k1 f1 v1 h1 => by
    rcases set_get h1 with ⟨_, e⟩ | ⟨_, e⟩
    · cases e
    · exact h.inn k1 f1 v1 e
  apart := fun k1 k2 f1 v1 f2 v2 hlt h1 h2 => (h.apt.clear k) k1 k2 f1 v1 f2 v2 (by omega) h1 h2
  sum := by
    show 4 + sumS (st.slots.set k none) ≤ 512
    have hkl : k < st.slots.length := (List.getElem?_eq_some_iff.1 hk).1
    have := sumS_set (l := st.slots) (k := k) (t := none) hkl
    have h0 : sizeOfS none = 0 := rfl
    have := h.sum
    omega

/-- How many slots are left when those that are free at the end go. -/
def trimN (l : List Slot) : Nat → Nat
  | 0 => 0
  | m + 1 => if (l.getD m none).isSome then m + 1 else trimN l m

theorem trimN_le (l : List Slot) (m : Nat) : trimN l m ≤ m := by
  induction m with
  | zero => exact Nat.le_refl _
  | succ m ih => simp only [trimN]; split <;> omega

theorem trimN_none (l : List Slot) (m : Nat) : ∀ j, trimN l m ≤ j → j < m → l.getD j none = none := by
  induction m with
  | zero => intro j _ h; omega
  | succ m ih =>
    intro j h1 h2
    simp only [trimN] at h1
    by_cases hs : (l.getD m none).isSome = true
    · rw [if_pos hs] at h1; omega
    · rw [if_neg hs] at h1
      by_cases e : j = m
      · subst e; simpa using hs
      · exact ih j h1 (by omega)

def trim (l : List Slot) : List Slot := l.take (trimN l l.length)

theorem trim_eq (l : List Slot) : l = trim l ++ List.replicate (l.length - trimN l l.length) none := by
  have hle := trimN_le l l.length
  apply List.ext_getElem?
  intro j
  unfold trim
  by_cases h1 : j < trimN l l.length
  · rw [List.getElem?_append_left (by rw [List.length_take]; omega), List.getElem?_take, if_pos h1]
  · rw [List.getElem?_append_right (by rw [List.length_take]; omega), List.length_take, Nat.min_eq_left hle, List.getElem?_replicate]
    by_cases h2 : j < l.length
    · rw [if_pos (by omega)]
      have := trimN_none l l.length j (by omega) h2
      rw [List.getD_eq_getElem?_getD, List.getElem?_eq_getElem h2, Option.getD_some] at this
      rw [List.getElem?_eq_getElem h2, this]
    · rw [if_neg (by omega), List.getElem?_eq_none (by omega)]

theorem sumS_none (m : Nat) : sumS (List.replicate m none) = 4 * m := by
  simp [sumS, sizeOfS]; omega

theorem trim_length (l : List Slot) : (trim l).length = trimN l l.length := by
  unfold trim; rw [List.length_take, Nat.min_eq_left (trimN_le l l.length)]

theorem trim_get {l : List Slot} {j : Nat} {s : Slot} (h : (trim l)[j]? = some s) : l[j]? = some s := by
  unfold trim at h
  rw [List.getElem?_take] at h
  split at h
  · exact h
  · cases h

theorem Wf.trim {st : St} (h : Wf st) : Wf ⟨Ytffbfgmhfnbmfaa.trim st.slots, st.start⟩ where
  low := by
    show 4 + 4 * (Ytffbfgmhfnbmfaa.trim st.slots).length ≤ st.start
    rw [trim_length]; have := trimN_le st.slots st.slots.length; have := h.low; omega
  high := h.high
  inn := fun k f v hk => h.inn k f v (trim_get hk)
  apart := fun k k' f v f' v' hlt h1 h2 => h.apart k k' f v f' v' hlt (trim_get h1) (trim_get h2)
  sum := by
    show 4 + sumS (Ytffbfgmhfnbmfaa.trim st.slots) ≤ 512
    have := h.sum
    have e := congrArg sumS (trim_eq st.slots)
    rw [sumS_append] at e
    omega

theorem enc_trim {st : St} (h : Wf st) :
    lay (lay (wiped (enc st) (4 + 4 * trimN st.slots st.slots.length) (4 * (st.slots.length - trimN st.slots st.slots.length))) 0 (trimN st.slots st.slots.length) 2) 2 st.start 2 = enc ⟨trim st.slots, st.start⟩ := by
  have hle := trimN_le st.slots st.slots.length
  have e1 : wiped (enc st) (4 + 4 * trimN st.slots st.slots.length) (4 * (st.slots.length - trimN st.slots st.slots.length)) = enc st := by
    funext i
    unfold wiped
    by_cases hi : 4 + 4 * trimN st.slots st.slots.length ≤ i ∧ i < 4 + 4 * trimN st.slots st.slots.length + 4 * (st.slots.length - trimN st.slots st.slots.length)
    · rw [if_pos hi]
      obtain ⟨j, r, rfl, hr⟩ : ∃ j r, i = 4 + 4 * j + r ∧ r < 4 := ⟨(i - 4) / 4, (i - 4) % 4, by omega, by omega⟩
      unfold enc
      rw [encG_ptr _ _ _ _ _ _ (by omega) hr, trimN_none st.slots st.slots.length j (by omega) (by omega)]
      rfl
    · rw [if_neg hi]
  rw [e1]
  unfold enc
  rw [encG_set]
  show _ = encG (Ytffbfgmhfnbmfaa.trim st.slots).length st.start (Ytffbfgmhfnbmfaa.trim st.slots) (dataOf (Ytffbfgmhfnbmfaa.trim st.slots))
  have e2 : dataOf st.slots = dataOf (Ytffbfgmhfnbmfaa.trim st.slots) := by
    conv => lhs; rw [trim_eq st.slots]
    exact dataOf_append_none _ _
  rw [e2, trim_length]
  have e3 := encG_free (trimN st.slots st.slots.length) st.start (Ytffbfgmhfnbmfaa.trim st.slots) (dataOf (Ytffbfgmhfnbmfaa.trim st.slots)) (st.slots.length - trimN st.slots st.slots.length) (fun i h1 h2 => by
    rw [← e2]
    refine h.low_zero ?_
    have := h.low
    rw [trim_length] at h1 h2
    omega)
  rw [← trim_eq] at e3
  exact e3

def freeA (st : St) (k : Nat) : St := ⟨trim (st.slots.set k none), st.start⟩

end Go.Proofs.Ytffbfgmhfnbmfaa
