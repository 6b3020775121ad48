/- Pages in plain numbers: slots, and the bytes that they make. -/
import Derived.Test.YtffbfgmhfnbmfaaW4
namespace Go.Proofs.Ytffbfgmhfnbmfaa

/-- A version; P and S: its next place's numbers, one more. -/
structure Ver where
  row : Nat
  x : Nat
  y : Nat
  P : Nat
  S : Nat
  data : List Nat

abbrev Slot := Option (Nat × Ver)

structure St where
  slots : List Slot
  start : Nat

def Ver.size (v : Ver) : Nat := 30 + v.data.length
def Ver.byte (v : Ver) (j : Nat) : Nat := if j < 30 then head v.row v.x v.y v.P v.S j else v.data.getD (j - 30) 0

structure Ver.Ok (v : Ver) : Prop where
  row : v.row ≤ 1099511627776
  x : v.x ≤ 1099511627776
  y : v.y ≤ 1099511627776
  P : v.P ≤ 65536
  S : v.S ≤ 65535
  len : v.data.length ≤ 200
  byte : ∀ b ∈ v.data, b < 256

def owns (s : Slot) (i : Nat) : Bool := match s with
  | some (f, v) => decide (f ≤ i ∧ i < f + v.size)
  | none => false

/-- The byte that a slot lays at i. -/
def laid (s : Slot) (i : Nat) : Nat := match s with
  | some (f, v) => v.byte (i - f)
  | none => 0

def dataOf (l : List Slot) (i : Nat) : Nat := match l.find? (owns · i) with
  | some s => laid s i
  | none => 0

def byteOf (n r : Nat) : Nat := n / 256 ^ r % 256

def ptrByte (s : Slot) (r : Nat) : Nat := match s with
  | some (f, v) => if r < 2 then byteOf f r else byteOf v.size (r - 2)
  | none => 0

def encG (c s : Nat) (l : List Slot) (data : Nat → Nat) (i : Nat) : Nat :=
  if i < 2 then byteOf c i else if i < 4 then byteOf s (i - 2) else if i < 4 + 4 * l.length then ptrByte (l.getD ((i - 4) / 4) none) ((i - 4) % 4) else data i

def enc (st : St) : Nat → Nat := encG st.slots.length st.start st.slots (dataOf st.slots)

def fromOf (s : Slot) : Nat := match s with | some (f, _) => f | none => 0
def sizeOfS (s : Slot) : Nat := match s with | some (_, v) => v.size | none => 0

/-- What the slots take of a page. -/
def sumS (l : List Slot) : Nat := (l.map fun s => 4 + sizeOfS s).sum

structure Wf (st : St) : Prop where
  low : 4 + 4 * st.slots.length ≤ st.start
  high : st.start ≤ 512
  inn : ∀ (k f : Nat) (v : Ver), st.slots[k]? = some (some (f, v)) → st.start ≤ f ∧ f + v.size ≤ 512 ∧ v.Ok
  apart : ∀ (k k' f : Nat) (v : Ver) (f' : Nat) (v' : Ver), k < k' → st.slots[k]? = some (some (f, v)) → st.slots[k']? = some (some (f', v')) → f + v.size ≤ f' ∨ f' + v'.size ≤ f
  sum : 4 + sumS st.slots ≤ 512

theorem byteOf_lt (n r : Nat) : byteOf n r < 256 := Nat.mod_lt _ (by decide)

theorem Ver.byte_lt {v : Ver} (h : v.Ok) (j : Nat) : v.byte j < 256 := by
  unfold Ver.byte
  split
  · exact head_lt _ _ _ _ _ _
  · by_cases hj : j - 30 < v.data.length
    · rw [List.getD_eq_getElem?_getD, List.getElem?_eq_getElem hj, Option.getD_some]
      exact h.byte _ (List.getElem_mem hj)
    · rw [List.getD_eq_getElem?_getD, List.getElem?_eq_none (by omega), Option.getD_none]; omega

theorem dataOf_lt {l : List Slot} (h : ∀ (f : Nat) (v : Ver), some (f, v) ∈ l → v.Ok) (i : Nat) : dataOf l i < 256 := by
  unfold dataOf
  cases hf : l.find? (owns · i) with
  | none => simp
  | some s =>
    have hm := List.mem_of_find?_eq_some hf
    cases s with
    | none => simp [laid]
    | some fv => exact Ver.byte_lt (h fv.1 fv.2 hm) _

theorem ptrByte_lt (s : Slot) (r : Nat) : ptrByte s r < 256 := by
  unfold ptrByte
  split
  · split <;> exact byteOf_lt _ _
  · omega

theorem encG_lt {c s : Nat} {l : List Slot} {data : Nat → Nat} (h : ∀ i, data i < 256) (i : Nat) : encG c s l data i < 256 := by
  unfold encG
  split
  · exact byteOf_lt _ _
  · split
    · exact byteOf_lt _ _
    · split
      · exact ptrByte_lt _ _
      · exact h i

theorem Wf.mem_ok {st : St} (h : Wf st) : ∀ (f : Nat) (v : Ver), some (f, v) ∈ st.slots → v.Ok := fun f v hm => by
  obtain ⟨k, hk⟩ := List.getElem?_of_mem hm
  exact (h.inn k f v hk).2.2

theorem enc_lt {st : St} (h : Wf st) (i : Nat) : enc st i < 256 := encG_lt (dataOf_lt h.mem_ok) i

theorem le2 (f : Nat → Nat) (lo n : Nat) (hn : n < 65536) (h0 : f lo = byteOf n 0) (h1 : f (lo + 1) = byteOf n 1) : le f lo 2 = n := by
  simp only [le, h0, h1, byteOf]
  omega

theorem cnt_encG (c s : Nat) (l : List Slot) (data : Nat → Nat) (hc : c < 65536) : cnt (encG c s l data) = c := le2 _ 0 c hc rfl rfl

theorem stt_encG (c s : Nat) (l : List Slot) (data : Nat → Nat) (hc : s < 65536) : stt (encG c s l data) = s := le2 _ 2 s hc rfl rfl

theorem encG_ptr (c s : Nat) (l : List Slot) (data : Nat → Nat) (k r : Nat) (hk : k < l.length) (hr : r < 4) : encG c s l data (4 + 4 * k + r) = ptrByte (l.getD k none) r := by
  unfold encG
  rw [if_neg (by omega), if_neg (by omega), if_pos (by omega), show (4 + 4 * k + r - 4) / 4 = k from by omega, show (4 + 4 * k + r - 4) % 4 = r from by omega]

theorem byteOf_zero (r : Nat) : byteOf 0 r = 0 := by unfold byteOf; simp

theorem ptrByte_from (s : Slot) (r : Nat) (hr : r < 2) : ptrByte s r = byteOf (fromOf s) r := by
  cases s with
  | none => simp [ptrByte, fromOf, byteOf_zero]
  | some fv => simp [ptrByte, fromOf, hr]

theorem ptrByte_size (s : Slot) (r : Nat) : ptrByte s (r + 2) = byteOf (sizeOfS s) r := by
  cases s with
  | none => simp [ptrByte, sizeOfS, byteOf_zero]
  | some fv =>
    have h : ¬ r + 2 < 2 := by omega
    simp only [ptrByte, sizeOfS, if_neg h, Nat.add_sub_cancel]

theorem frm_encG (c s : Nat) (l : List Slot) (data : Nat → Nat) (k : Nat) (hk : k < l.length) (h : fromOf (l.getD k none) < 65536) : frm (encG c s l data) k = fromOf (l.getD k none) :=
  le2 _ _ _ h (by have := encG_ptr c s l data k 0 hk (by omega); rw [Nat.add_zero] at this; rw [this, ptrByte_from _ _ (by omega)])
    (by rw [encG_ptr c s l data k 1 hk (by omega), ptrByte_from _ _ (by omega)])

theorem siz_encG (c s : Nat) (l : List Slot) (data : Nat → Nat) (k : Nat) (hk : k < l.length) (h : sizeOfS (l.getD k none) < 65536) : siz (encG c s l data) k = sizeOfS (l.getD k none) :=
  le2 _ _ _ h (by rw [encG_ptr c s l data k 2 hk (by omega)]; exact ptrByte_size _ 0) (by rw [show 4 + 4 * k + 2 + 1 = 4 + 4 * k + 3 from by omega, encG_ptr c s l data k 3 hk (by omega)]; exact ptrByte_size _ 1)

/-- A number laid in the pointers' place: a slot's pointer is that. -/
theorem encG_point (c s : Nat) (l : List Slot) (data : Nat → Nat) (k : Nat) (t : Slot) (hk : k < l.length) :
    lay (lay (encG c s l data) (4 + 4 * k) (fromOf t) 2) (4 + 4 * k + 2) (sizeOfS t) 2 = encG c s (l.set k t) data := by
  funext i
  unfold lay
  by_cases h1 : 4 + 4 * k + 2 ≤ i ∧ i < 4 + 4 * k + 2 + 2
  · rw [if_pos h1]
    obtain ⟨r, rfl, hr⟩ : ∃ r, i = 4 + 4 * k + (r + 2) ∧ r < 2 := ⟨i - (4 + 4 * k + 2), by omega, by omega⟩
    rw [encG_ptr _ _ _ _ _ _ (by rw [List.length_set]; exact hk) (by omega), List.getD_eq_getElem?_getD, List.getElem?_set_self hk, Option.getD_some, ptrByte_size, show 4 + 4 * k + (r + 2) - (4 + 4 * k + 2) = r from by omega]
    rfl
  · rw [if_neg h1]
    by_cases h2 : 4 + 4 * k ≤ i ∧ i < 4 + 4 * k + 2
    · rw [if_pos h2]
      obtain ⟨r, rfl, hr⟩ : ∃ r, i = 4 + 4 * k + r ∧ r < 2 := ⟨i - (4 + 4 * k), by omega, by omega⟩
      rw [encG_ptr _ _ _ _ _ _ (by rw [List.length_set]; exact hk) (by omega), List.getD_eq_getElem?_getD, List.getElem?_set_self hk, Option.getD_some, ptrByte_from _ _ hr, show 4 + 4 * k + r - (4 + 4 * k) = r from by omega]
      rfl
    · rw [if_neg h2]
      unfold encG
      rw [List.length_set]
      by_cases h3 : i < 4
      · by_cases h4 : i < 2
        · rw [if_pos h4, if_pos h4]
        · rw [if_neg h4, if_neg h4, if_pos h3, if_pos h3]
      · have h4 : ¬ i < 2 := by omega
        rw [if_neg h4, if_neg h3, if_neg h4, if_neg h3]
        by_cases h5 : i < 4 + 4 * l.length
        · rw [if_pos h5, if_pos h5, List.getD_eq_getElem?_getD, List.getD_eq_getElem?_getD, List.getElem?_set_ne (by omega)]
        · rw [if_neg h5, if_neg h5]

theorem encG_set (c s c' s' : Nat) (l : List Slot) (data : Nat → Nat) : lay (lay (encG c s l data) 0 c' 2) 2 s' 2 = encG c' s' l data := by
  funext i
  unfold lay encG
  by_cases h1 : i < 2
  · rw [if_neg (by omega), if_pos (by omega), if_pos h1]; rfl
  · by_cases h2 : i < 4
    · rw [if_pos (by omega), if_neg h1, if_pos h2]; rfl
    · rw [if_neg (by omega), if_neg (by omega), if_neg h1, if_neg h2, if_neg h1, if_neg h2]

/-- More slots that are free, where there is nothing. -/
theorem encG_free (c s : Nat) (l : List Slot) (data : Nat → Nat) (m : Nat) (h : ∀ i, 4 + 4 * l.length ≤ i → i < 4 + 4 * (l.length + m) → data i = 0) :
    encG c s (l ++ List.replicate m none) data = encG c s l data := by
  funext i
  unfold encG
  by_cases h1 : i < 2
  · rw [if_pos h1, if_pos h1]
  · by_cases h2 : i < 4
    · rw [if_neg h1, if_neg h1, if_pos h2, if_pos h2]
    · rw [if_neg h1, if_neg h1, if_neg h2, if_neg h2, List.length_append, List.length_replicate]
      by_cases h3 : i < 4 + 4 * l.length
      · rw [if_pos (by omega), if_pos h3, List.getD_eq_getElem?_getD, List.getD_eq_getElem?_getD, List.getElem?_append_left (by omega)]
      · rw [if_neg h3]
        by_cases h4 : i < 4 + 4 * (l.length + m)
        · rw [if_pos h4, h i (by omega) h4, List.getD_eq_getElem?_getD, List.getElem?_append_right (by omega), List.getElem?_replicate, if_pos (by omega)]
          rfl
        · rw [if_neg h4]

theorem encG_data {c s : Nat} {l : List Slot} {data data' : Nat → Nat} (h : ∀ i, 4 + 4 * l.length ≤ i → data i = data' i) : encG c s l data = encG c s l data' := by
  funext i
  unfold encG
  by_cases h1 : i < 2
  · rw [if_pos h1, if_pos h1]
  · by_cases h2 : i < 4
    · rw [if_neg h1, if_neg h1, if_pos h2, if_pos h2]
    · rw [if_neg h1, if_neg h1, if_neg h2, if_neg h2]
      by_cases h3 : i < 4 + 4 * l.length
      · rw [if_pos h3, if_pos h3]
      · rw [if_neg h3, if_neg h3, h i (by omega)]

end Go.Proofs.Ytffbfgmhfnbmfaa
